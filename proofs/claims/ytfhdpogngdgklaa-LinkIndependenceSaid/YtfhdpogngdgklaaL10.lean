/- Proved: what the reference Count returns: the same list as link.Count. Conditions: the list lies in memory and is valid. -/
import Derived.Test.YtfhdpogngdgklaaL9
import Derived.Maps.AppendAt
namespace Go.Proofs.Ytfhdpogngdgklaa
open Go.RowKit Go.Sort Go.BigFrame
set_option linter.unusedVariables false
set_option linter.unusedSimpArgs false
attribute [local go_sem] cell_alloc_old

theorem OwnL.keep {w w' : World} {base : Nat} {v : Value} {ls : List Lk} (h : OwnL w base v ls) (hb : Below w.heap.size w w') : OwnL w' base v ls := by
  refine ⟨h.1, ?_⟩
  rcases h.2 with hn | ⟨g, cap, cur, hv, hb', hg, rest⟩
  · exact .inl hn
  · refine .inr ⟨g, cap, cur, hv, hb', ?_, rest⟩
    rw [hb.block g (Array.getElem?_eq_some_iff.1 hg).1]; exact hg
theorem OwnL.nil (w : World) (base : Nat) : OwnL w base (.slice none 0 0) [] := World.ownsRow_nil _ _ _ _
theorem OwnL.push {w : World} {base : Nat} {v : Value} {ls : List Lk} {x : Lk} (h : w.ownsRow base 32 3 v (ls.length + 1) (flat ls ++ [.int .i64 x.p, .int .i64 x.s, .int .i64 x.g])) : OwnL w base v (ls ++ [x]) := by
  unfold OwnL
  rw [flat_append, List.length_append]
  exact h
theorem OwnL.below {w0 wr w1 : World} {base : Nat} {v : Value} {ls : List Lk} {o : Obj} (hB : Below w0.heap.size w0 wr) (h : OwnL wr base v ls) (hb : w0.heap.size ≤ base) (hg : (wr.alloc o).grownBy w1 v.ownBlock) : Below w0.heap.size w0 w1 :=
  (ball hB o).grown hg (by have := hB.size; simp; omega) (fun j hj => by have := (World.ownsRow.lt h j hj).1; omega)
theorem three_new (w : World) (x : Lk) : ∀ (j : Nat) (u : Value), [Value.int .i64 x.p, .int .i64 x.s, .int .i64 x.g][j]? = some u → (w.alloc (.cells #[.int .i64 x.p, .int .i64 x.s, .int .i64 x.g] 32)).cell? ((⟨w.heap.size, 0, none⟩ : Addr).add j) = some u := by
  intro j u hj
  match j, hj with
  | 0, hj => simp at hj; subst hj; simp [Addr.add]
  | 1, hj => simp at hj; subst hj; simp [Addr.add]
  | 2, hj => simp at hj; subst hj; simp [Addr.add]
theorem three_one (x : Lk) : ∀ u ∈ [Value.int .i64 x.p, .int .i64 x.s, .int .i64 x.g], u.oneCell' = true := by
  intro u hu; simp at hu; rcases hu with rfl | rfl | rfl <;> rfl
theorem counted_at (x y : Lk) (acked : Bool) (w : World) (s0 : 0 ≤ x.s) (s1 : x.s ≤ 31) (g0 : 0 ≤ x.g) (g1 : x.g ≤ x.s) (hy : cntV x acked = y) :
    Calls Try.prog 22 #[.agg #[.int .i64 x.p, .int .i64 x.s, .int .i64 x.g], .bool acked] w fun e w' => e = .returned (.agg #[.int .i64 y.p, .int .i64 y.s, .int .i64 y.g]) ∧ Below w.heap.size w w' := by
  subst hy; exact counted_any x.p x.s x.g acked w s0 s1 g0 g1

set_option maxRecDepth 100000 in
set_option maxHeartbeats 4000000 in
theorem rcount_any (a : Option Addr) (cap : Nat) (ls : List Lk) (peer : Int) (acked : Bool) (w : World) (hl : LkAt w a ls) (hm : ls.length ≤ maxLen) (hv : validV ls = true) (p0 : 0 ≤ peer) (p1 : peer ≤ 59) :
    Calls Try.prog 11 #[.slice a ls.length cap, .int .i64 peer, .bool acked] w (CountPost ls peer acked w) := by
  obtain ⟨i0, hi, hz0, hz1, hz2⟩ := info_parts info32
  have hlen := valid_len hv
  obtain ⟨n, hn⟩ : ∃ n, n = ls.length := ⟨_, rfl⟩
  rw [← hn] at hlen ⊢
  have HN := Lib.hid hn; clear hn
  have HM := Lib.hid hm; clear hm
  have HV := Lib.hid hv; clear hv
  obtain ⟨y, hy⟩ : ∃ y, cntV (ofV ls peer) acked = y := ⟨_, rfl⟩
  have HE := Lib.hid (outC_end (ls := ls) HV.out p1 acked)
  rw [hy] at HE
  have HY := Lib.hid hy; clear hy
  have q0 : ¬ peer < 0 := by omega
  have q1 : ¬ 59 < peer := by omega
  go_enter Try.func11, Try.ntmps11
  go_wp2_with fail
  refine (rvalid_at n a cap ls _ _ HN.out hl HM.out HV.out).mono ?_
  rintro e w1 ⟨rfl, b1⟩
  go_wp2_with fail
  go_loopw [9, 10] (fun v i wr => ∃ k : Nat, k ≤ 60 ∧ i = .int .i64 k ∧ OwnL wr w.heap.size v (outC ls peer y k) ∧ Below w.heap.size w wr) (fun _ i _ => 60 - (intOf i).toNat)
  case atStart => exact ⟨0, Nat.zero_le _, rfl, by rw [show ((0 : Nat) : Int) = 0 from rfl, outC_zero HV.out p0]; exact OwnL.nil _ _, b1⟩
  case round =>
    obtain ⟨k, hk, rfl, hown, hB⟩ := hrel
    have hlr := hl.keep hB
    by_cases hlt : k < 60
    · have hlt' : (k : Int) < 60 := by omega
      obtain ⟨x, hx⟩ : ∃ x, ofV ls (k : Int) = x := ⟨_, rfl⟩
      have hok := of_ok HV.out (peer := (k : Int)) (by omega) (by omega)
      rw [hx] at hok
      obtain ⟨hok, hxp⟩ := hok
      obtain ⟨_, _, s0, s1, g0, g1⟩ := (lkOk_iff x).1 hok
      have HX := Lib.hid hx; have HXP := Lib.hid hxp
      clear hx hok hxp
      have hol : (outC ls peer y k).length ≤ 121 := by have := outC_len ls peer y k; rw [← HN.out] at this; omega
      have HL := Lib.hid hol; clear hol
      by_cases hkp : (k : Int) = peer
      · have hyx : cntV x acked = y := by rw [← HX.out, hkp]; exact HY.out
        have HYX := Lib.hid hyx; clear hyx
        have hst : outC ls peer y ((k + 1 : Nat) : Int) = outC ls peer y k ++ [y] := by
          rw [show ((k + 1 : Nat) : Int) = peer + 1 from by omega, hkp]; exact outC_peer y
        have HST := Lib.hid hst; clear hst
        have HKP := Lib.hid hkp
        have hkb : ((k : Int) == peer) = true := by simp [hkp]
        clear hkp
        go_wp2_with fail
        refine (rof_at n a cap ls k _ HN.out hlr HM.out x HX.out).mono ?_
        rintro e w2 ⟨rfl, b2⟩
        have BB := ball (bstep hB b2) (.cells #[.int .i64 x.p, .int .i64 x.s, .int .i64 x.g] 32)
        have hown := (hown.keep b2).keep (ball (Below.refl _ _) (.cells #[.int .i64 x.p, .int .i64 x.s, .int .i64 x.g] 32))
        go_wp2_with fail
        refine (counted_at x y acked _ s0 s1 g0 g1 HYX.out).mono ?_
        rintro e w3 ⟨rfl, b3⟩
        have BB := bstep BB b3
        have hown := hown.keep b3
        go_wp2_with (first
          | (at_builtin; refine wpList_append_own _ rfl _ _ 22 rfl w.heap.size 32 i0 _ 3 24 Try.underlying22 hi hz0 hz1 hz2 rfl (by decide) _ _ _ rfl (World.ownsRow.alloc hown _) ⟨w3.heap.size, 0, none⟩ 1 1 [.int .i64 y.p, .int .i64 y.s, .int .i64 y.g] rfl rfl (three_new _ _) (three_one _) (by have := HL.out; unfold maxLen; omega) (by have := HL.out; omega) (by have := BB.size; simp; omega) ?_; intro v' w4 hown' hgrow _))
        have hB4 : Below w.heap.size w w4 := OwnL.below BB hown (Nat.le_refl _) hgrow
        have hown2 := OwnL.push hown'
        rw [← HST.out] at hown2
        clear hown' hgrow
        go_wp2_with fail
        go_roundw
        case rel => exact ⟨k + 1, by omega, by go_num, hown2, hB4⟩
        case measure => simp [intOf]; omega
      · have hst : outC ls peer y ((k + 1 : Nat) : Int) = outC ls peer y k ++ ls.filter (fun z => decide (z.p = (k : Int))) := by
          rw [show ((k + 1 : Nat) : Int) = (k : Int) + 1 from by omega]; exact outC_other HV.out hkp y
        have HST := Lib.hid hst; clear hst
        have HKP := Lib.hid hkp
        have hkb : ((k : Int) == peer) = false := by simp [hkp]
        clear hkp
        go_wp2_with fail
        refine (rof_at n a cap ls k _ HN.out hlr HM.out x HX.out).mono ?_
        rintro e w2 ⟨rfl, b2⟩
        have BB := ball (bstep hB b2) (.cells #[.int .i64 x.p, .int .i64 x.s, .int .i64 x.g] 32)
        have hown1 := hown.keep b2
        have hown2 : OwnL (w2.alloc (.cells #[.int .i64 x.p, .int .i64 x.s, .int .i64 x.g] 32)) w.heap.size _ (outC ls peer y k) := hown1.keep (ball (Below.refl _ _) _)
        have hnb : ∀ g, g = w2.heap.size → Value.ownBlock _ ≠ some g := fun g hg h => by
          have := (World.ownsRow.lt hown1 g h).2; omega
        have t0 : (w2.alloc (.cells #[.int .i64 x.p, .int .i64 x.s, .int .i64 x.g] 32)).cell? ⟨w2.heap.size, 0, none⟩ = some (.int .i64 x.p) := new0 rfl rfl
        have t1 : (w2.alloc (.cells #[.int .i64 x.p, .int .i64 x.s, .int .i64 x.g] 32)).cell? ⟨w2.heap.size, 1, none⟩ = some (.int .i64 x.s) := new0 rfl rfl
        have t2 : (w2.alloc (.cells #[.int .i64 x.p, .int .i64 x.s, .int .i64 x.g] 32)).cell? ⟨w2.heap.size, 2, none⟩ = some (.int .i64 x.g) := new0 rfl rfl
        have hnb := hnb _ rfl
        clear hown hown1 hB b2 hlr
        go_wp2_with fail
        obtain ⟨V, hV⟩ : ∃ V, w2.alloc (.cells #[.int .i64 x.p, .int .i64 x.s, .int .i64 x.g] 32) = V := ⟨_, rfl⟩
        obtain ⟨g, hg⟩ : ∃ g, w2.heap.size = g := ⟨_, rfl⟩
        rw [hV] at BB hown2 t0 t1 t2 ⊢
        rw [hg] at hnb t0 t1 t2 ⊢
        clear hV hg
        go_loopw [9, 12] (fun v i wr => ∃ j : Nat, j ≤ n ∧ i = .int .i64 j ∧ OwnL wr w.heap.size v (outC ls peer y k ++ (ls.take j).filter (fun z => decide (z.p = (k : Int)))) ∧ Below w.heap.size w wr ∧
          wr.cell? ⟨g, 0, none⟩ = some (.int .i64 x.p) ∧ wr.cell? ⟨g, 1, none⟩ = some (.int .i64 x.s) ∧ wr.cell? ⟨g, 2, none⟩ = some (.int .i64 x.g) ∧ v.ownBlock ≠ some g) (fun _ i _ => n - (intOf i).toNat)
        case atStart => exact ⟨0, Nat.zero_le _, rfl, by simpa using hown2, BB, t0, t1, t2, hnb⟩
        case round =>
          clear BB hown2 t0 t1 t2 hnb
          obtain ⟨j, hj, rfl, hown, hB, t0, t1, t2, hnb⟩ := hrel
          by_cases hjn : j < n
          · have hjn' : (j : Int) < (n : Int) := by omega
            have hj0 : (0 : Int) ≤ (j : Int) := by omega
            obtain ⟨b, off, rfl, hc⟩ := (hl.keep hB).at (i := j) (by rw [← HN.out]; exact hjn)
            obtain ⟨c0, _, _⟩ := hc j (by rw [← HN.out]; exact hjn)
            have hts := take_filter_succ (ls := ls) (i := j) (by rw [← HN.out]; exact hjn) (k : Int)
            have hof := filter_of HV.out (i := j) (by rw [← HN.out]; exact hjn)
            obtain ⟨z, hz⟩ : ∃ z, ls.getD j default = z := ⟨_, rfl⟩
            rw [hz] at c0 hts hof
            clear hc hz
            by_cases hzk : z.p = (k : Int)
            · rw [if_pos hzk] at hts
              rw [hzk, HX.out] at hof
              have hlt3 : ((ls.take j).filter (fun z => decide (z.p = (k : Int)))).length ≤ 60 := Nat.le_trans (List.length_filter_le _ _) (by rw [List.length_take, ← HN.out]; omega)
              have hol2 : (outC ls peer y k ++ (ls.take j).filter (fun z => decide (z.p = (k : Int)))).length ≤ 181 := by rw [List.length_append]; have := HL.out; omega
              have HL2 := Lib.hid hol2; clear hol2 hlt3
              have hst2 : outC ls peer y k ++ (ls.take (j + 1)).filter (fun z => decide (z.p = (k : Int))) = (outC ls peer y k ++ (ls.take j).filter (fun z => decide (z.p = (k : Int)))) ++ [x] := by rw [hts, hof, List.append_assoc]
              have HST2 := Lib.hid hst2; clear hst2 hts hof
              obtain ⟨O, hO⟩ : ∃ O, outC ls peer y k ++ (ls.take j).filter (fun z => decide (z.p = (k : Int))) = O := ⟨_, rfl⟩
              rw [hO] at hown HL2 HST2
              clear hO
              go_wp2_with (first
                | (at_builtin; refine wpList_append_own_at _ rfl _ _ 22 rfl w.heap.size 32 i0 _ 3 24 Try.underlying22 hi hz0 hz1 hz2 rfl (by decide) _ _ _ rfl (World.ownsRow.alloc hown _) ⟨wr.heap.size, 0, none⟩ 1 1 [.int .i64 x.p, .int .i64 x.s, .int .i64 x.g] rfl rfl (three_new _ _) (three_one _) (by have := HL2.out; unfold maxLen; omega) (by have := HL2.out; omega) (by have := hB.size; simp; omega) ?_; intro v' w4 hown' hgrow _ hat))
              have hB4 : Below w.heap.size w w4 := OwnL.below hB hown (Nat.le_refl _) hgrow
              have hown2 := OwnL.push hown'
              rw [← HST2.out] at hown2
              have hgw : g < wr.heap.size := World.block_lt_of_cell? wr ⟨g, 0, none⟩ t0
              have u0 := hgrow.cell (old1 t0 _) (fun h => hnb h.symm)
              have u1 := hgrow.cell (old1 t1 _) (fun h => hnb h.symm)
              have u2 := hgrow.cell (old1 t2 _) (fun h => hnb h.symm)
              have hnb2 : v'.ownBlock ≠ some g := fun h => by
                rcases hat with h2 | h2
                · exact hnb (h2.symm.trans h)
                · rw [h2] at h; simp at h; omega
              clear hown' hgrow hat
              go_wp2_with fail
              go_roundw
              case rel => exact ⟨j + 1, by omega, by go_num, hown2, hB4, u0, u1, u2, hnb2⟩
              case measure => simp [intOf]; omega
            · rw [if_neg hzk, List.append_nil] at hts
              have HTS := Lib.hid hts; clear hts
              have hzb : (z.p == (k : Int)) = false := by simp [hzk]
              go_wp2_with fail
              go_roundw
              case rel => exact ⟨j + 1, by omega, by go_num, by rw [HTS.out]; exact hown, hB, t0, t1, t2, hnb⟩
              case measure => simp [intOf]; omega
          · have hjn2 : n = j := by omega
            subst hjn2
            rw [show ls.take n = ls from by rw [HN.out, List.take_length], ← HST.out] at hown
            clear t0 t1 t2 hnb
            go_wp2_with fail
            go_roundw
            case rel => exact ⟨k + 1, by omega, by go_num, hown, hB⟩
            case measure => simp [intOf]; omega
    · have hkn : k = 60 := by omega
      subst hkn
      rw [show ((60 : Nat) : Int) = 60 from rfl, HE.out] at hown
      obtain ⟨a2, cap2, rfl, hla2, hlc2, hcm2⟩ := hown.links2
      have fin : CountPost ls peer acked w (.returned (.tuple #[.slice a2 (countV ls peer acked).length cap2, .int .i64 0])) wr := ⟨a2, cap2, rfl, hla2, hlc2, hcm2, hB⟩
      generalize (countV ls peer acked).length = m2 at *
      go_wp2_with fail
      go_ret2
      exact fin
end Go.Proofs.Ytfhdpogngdgklaa
