/- Proved: what the reference Perm returns: a list that lies in memory that it has made; and both for a length out of range. Conditions: the table of steps holds its numbers; a state is not negative. -/
import Derived.Test.YthcfpikalmklbaaDoorR4
namespace Go.Proofs.YthcfpikalmklbaaDoor
open Go.RowKit Go.Sort Go.BigFrame Go.Proofs.YthcfpikalmklbaaDoor.K
set_option linter.unusedVariables false
set_option linter.unusedSimpArgs false
attribute [local go_sem] cell_alloc_old Oper.semAt_some

theorem own_form {k : IntKind} {w : World} {base : Nat} {e : TypeId} {v : Value} {zs : List Int} (h : K.Own k w base e v zs) (hz : 0 < zs.length) : ∃ g cap, v = .slice (some ⟨g, 0, none⟩) zs.length cap := by
  rcases h.2 with ⟨rfl, hn⟩ | ⟨g, cap, cur, rfl, _⟩
  · omega
  · exact ⟨g, cap, rfl⟩

def iota (k : Nat) : List Int := (List.range k).map (fun (j : Nat) => (j : Int))
theorem iota_len (k : Nat) : (iota k).length = k := by simp [iota]
theorem iota_succ (k : Nat) : iota (k + 1) = iota k ++ [(k : Int)] := by simp [iota, List.range_succ]

set_option maxRecDepth 100000 in
set_option maxHeartbeats 8000000 in
theorem rperm_any (s : Int) (n : Nat) (w : World) (h0 : 0 ≤ s) (n1 : 1 ≤ n) (n2 : n ≤ 1000) :
    Calls Tryd.prog 16 #[.int .u64 s, .int .i64 n] w (PermPost s n w) := by
  obtain ⟨i0, hi, hz0, hz1, hz2⟩ := info_parts info3
  have hn1 : ¬ (n : Int) < 1 := by omega
  have hn2 : ¬ (1000 : Int) < (n : Int) := by omega
  go_enter Tryd.func16, Tryd.ntmps16
  go_wp2_with fail
  go_loopw [5, 6] (fun v i wr => ∃ k : Nat, k ≤ n ∧ i = .int .i64 k ∧ K.Own .i64 wr w.heap.size 3 v (iota k) ∧ Below w.heap.size w wr) (fun _ i _ => n - (intOf i).toNat)
  case atStart => exact ⟨0, Nat.zero_le _, rfl, K.Own.nil _ _ _ _, Below.refl _ _⟩
  case round =>
    obtain ⟨k, hk, rfl, hown, hB⟩ := hrel
    by_cases hlt : k < n
    · have hlt' : (k : Int) < (n : Int) := by omega
      have hst := iota_succ k
      have hl := iota_len k
      have HST := Lib.hid hst; have HL := Lib.hid hl; clear hst hl
      go_wp2_with (first
        | (at_builtin; refine wpList_append_own _ rfl _ _ 27 rfl w.heap.size 3 i0 (.int .i64 0) 1 8 Tryd.underlying27 hi hz0 hz1 hz2 rfl (by decide) _ _ _ rfl (World.ownsRow.alloc hown _) ⟨wr.heap.size, 0, none⟩ 1 1 [.int .i64 k] rfl rfl (one_new _ _ _) (one_int _ _) (by have := HL.out; unfold maxLen; omega) (by have := HL.out; omega) (by have := hB.size; simp; omega) ?_; intro v' w1 hown' hgrow _))
      have hB' := grown_below hB hown (Nat.le_refl _) hgrow
      have hown2 := K.Own.push hown'
      rw [← HST.out] at hown2
      clear hown' hgrow
      go_wp2
      go_roundw
      case rel => exact ⟨k + 1, by omega, by go_num, hown2, hB'⟩
      case measure => simp [intOf]; omega
    · have hkn : n = k := by omega
      subst hkn
      have hown : K.Own .i64 wr w.heap.size 3 _ (permK s n 0) := hown
      obtain ⟨g, cap, hv⟩ := own_form hown (by rw [permK_len]; omega)
      rw [permK_len] at hv
      subst hv
      obtain ⟨V, hV⟩ : ∃ V, V = wr := ⟨_, rfl⟩
      rw [← hV] at hown hB ⊢
      clear hV hk
      obtain ⟨q0, hq0⟩ : ∃ q : Nat, n - 1 = q := ⟨_, rfl⟩
      have hq : (n : Int) - 1 = (q0 : Int) := by omega
      have HQ0 := Lib.hid hq0; clear hq0
      go_wp2_with fail
      have HQ := Lib.hid hq; clear hq
      go_loopw [0, 7] (fun x i wr => ∃ k : Nat, k ≤ q0 ∧ x = .int .u64 (stV s k) ∧ i = .int .i64 ((q0 - k : Nat) : Int) ∧ K.Own .i64 wr w.heap.size 3 (.slice (some ⟨g, 0, none⟩) n cap) (permK s n k) ∧ Below w.heap.size w wr) (fun _ i _ => (intOf i).toNat)
      case atStart => exact ⟨0, Nat.zero_le _, rfl, rfl, hown, hB⟩
      case round =>
        clear hown hB
        obtain ⟨k, hk, rfl, rfl, hown, hB⟩ := hrel
        obtain ⟨q, hqe⟩ : ∃ q, q0 - k = q := ⟨_, rfl⟩
        rw [hqe]
        by_cases hq0 : q = 0
        · subst hq0
          have hke : k = n - 1 := by have := HQ0.out; omega
          rw [hke] at hown
          go_wp2_with fail
          go_ret
          exact ⟨g, cap, rfl, hown, hB⟩
        · have hs0 : 0 ≤ stV s k := stV_bd h0 k
          have hx0 := nextV_bd (stV s k)
          obtain ⟨x, hx⟩ : ∃ x, nextV (stV s k) = x := ⟨_, rfl⟩
          rw [hx] at hx0
          have hst : stV s (k + 1) = x := hx
          have hv0 := half_bd hx0.1 hx0.2
          have hpe : (halfV x).tmod ((q : Int) + 1) = ((pickN s n k : Nat) : Int) := by
            unfold pickN
            rw [hst, show n - 1 - k = q from by have := HQ0.out; omega, Int.tmod_eq_emod_of_nonneg hv0.1]
            exact (Int.toNat_of_nonneg (Int.emod_nonneg (halfV x) (b := ((q : Nat) : Int) + 1) (by omega))).symm
          have hp := pickN_lt s (n := n) (k := k) (by have := HQ0.out; omega) h0
          have hlen := permK_len s n k
          obtain ⟨P, hP⟩ : ∃ P, permK s n k = P := ⟨_, rfl⟩
          have hsp : permK s n (k + 1) = swapI P q (pickN s n k) := by rw [permK, hP, show n - 1 - k = q from by have := HQ0.out; omega]
          obtain ⟨p, hpp⟩ : ∃ p, pickN s n k = p := ⟨_, rfl⟩
          rw [hpp] at hp hpe hsp
          rw [hP] at hlen hown
          have hsw : swapI P q p = (P.set q (P.getD p 0)).set p (P.getD q 0) := rfl
          have hpn : p < n := by have := HQ0.out; omega
          have hqn : q < n := by have := HQ0.out; omega
          have cq := hown.cellAt (j := q) (by omega)
          have cp := hown.cellAt (j := p) (by omega)
          have fq := hown.frzAt q
          have fp := hown.frzAt p
          have hown2 := hown.setAt q (P.getD p 0)
          have hown3 := (hown.setAt q (P.getD p 0)).setAt p (P.getD q 0)
          rw [← hsw, ← hsp] at hown3
          have cp2 : ∃ v, (wr.setCell ⟨g, q, none⟩ (.int .i64 (P.getD p 0))).cell? ⟨g, p, none⟩ = some v := by
            obtain ⟨v4, hv4⟩ := cell?_setCell_some (w := wr) (p := ⟨g, q, none⟩) (x := .int .i64 (P.getD p 0)) (q := ⟨g, p, none⟩) cp
            exact ⟨v4, hv4⟩
          obtain ⟨v4, hv4⟩ := cp2
          have hgb := hown.blk
          have hB3 : Below w.heap.size w ((wr.setCell ⟨g, q, none⟩ (.int .i64 (P.getD p 0))).setCell ⟨g, p, none⟩ (.int .i64 (P.getD q 0))) := (hB.setCell (p := ⟨g, q, none⟩) hgb.1 _).setCell (p := ⟨g, p, none⟩) hgb.1 _
          have hq2 : (0 : Int) < (q : Int) := by omega
          have hq3 : (0 : Int) ≤ (q : Int) := by omega
          have hq4 : (q : Int) < (n : Int) := by omega
          have hp3 : (0 : Int) ≤ (p : Int) := by omega
          have hp4 : (p : Int) < (n : Int) := by omega
          obtain ⟨v, hv⟩ : ∃ v, halfV x = v := ⟨_, rfl⟩
          rw [hv] at hpe
          have HX := Lib.hid hx; have HV := Lib.hid hv; have HST := Lib.hid hst; have HX1 := Lib.hid hx0.2; have hx00 := hx0.1
          have HLEN := Lib.hid hlen; have HP := Lib.hid hp; have HQE := Lib.hid hqe
          clear hx hv hst hx0 hv0 hlen hp hqe hsw hsp hown hown2 hP hpp
          generalize P.getD q 0 = y at *
          generalize P.getD p 0 = z at *
          go_wp2_with fail
          refine (rnext_at (stV s k) x _ hs0 HX.out).mono ?_
          rintro e w1 ⟨rfl, rfl⟩
          go_wp2_with fail
          refine (half_at x v _ hx00 HX1.out HV.out).mono ?_
          rintro e w1 ⟨rfl, rfl⟩
          go_wp2_with fail
          go_roundw
          case rel => exact ⟨k + 1, by have := HQE.out; omega, by rw [HST.out], by have := HQE.out; go_num, hown3, hB3⟩
          case measure => simp [intOf]; omega

end Go.Proofs.YthcfpikalmklbaaDoor
