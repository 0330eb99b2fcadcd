/- Proved: that the law LinkValid returns true for every input. Conditions: the list lies in memory. (Printed by genL19.py.) -/
import Derived.Test.YtfhdpogngdgklaaL18
namespace Go.Proofs.Ytfhdpogngdgklaa
open Go.RowKit Go.Sort Go.BigFrame
set_option linter.unusedVariables false
set_option linter.unusedSimpArgs false
attribute [local go_sem] cell_alloc_old

def hasTo (zs : List Lk) (peer : Int) : Nat → Bool
  | 0 => false
  | k + 1 => hasTo zs peer k || decide ((zs.getD k default).p = peer)
theorem hasTo_of {zs : List Lk} {peer : Int} {i : Nat} (h : (zs.getD i default).p = peer) : ∀ n, i < n → hasTo zs peer n = true
  | 0, hn => absurd hn (Nat.not_lt_zero _)
  | n + 1, hn => by
    rw [hasTo]
    rcases Nat.lt_or_ge i n with h1 | h1
    · rw [hasTo_of h n h1]; rfl
    · rw [← show i = n from by omega]; simp only [h, decide_true, Bool.or_true]
theorem has_mem {zs : List Lk} {x : Lk} (hx : x ∈ zs) : hasTo zs x.p zs.length = true := by
  obtain ⟨i, hi, rfl⟩ := List.mem_iff_getElem.1 hx
  refine hasTo_of (i := i) ?_ _ hi
  rw [List.getD_eq_getElem?_getD, List.getElem?_eq_getElem hi]; rfl

set_option maxRecDepth 100000 in
set_option maxHeartbeats 4000000 in
theorem lawValid (a : Option Addr) (cap : Nat) (ls : List Lk) (peer : Int) (acked : Bool) (other : Int) (w : World) (hl : LkAt w a ls) (hcap : ls.length ≤ cap) (hcm : cap ≤ maxLen) :
    Calls Try.prog 4 #[.slice a ls.length cap, .int .i64 peer, .bool acked, .int .i64 other] w fun e w' => e = .returned (.bool true) ∧ Below w.heap.size w w' := by
  have hm : ls.length ≤ maxLen := Nat.le_trans hcap hcm
  obtain ⟨n, hn⟩ : ∃ n, n = ls.length := ⟨_, rfl⟩
  rw [← hn]
  have HN := Lib.hid hn; have HM := Lib.hid hm; have HC1 := Lib.hid hcap; have HC2 := Lib.hid hcm
  clear hn hm hcap hcm
  cases hv : validV ls
  · have HV := Lib.hid hv; clear hv
    go_enter Try.func4, Try.ntmps4
    go_wp2_with fail
    refine (head_any _).mono ?_
    rintro e w1 ⟨rfl, b1⟩
    have hl := hl.keep b1
    go_wp2_with fail
    refine (rvalid_at n a cap ls _ _ HN.out hl HM.out HV.out).mono ?_
    rintro e w2 ⟨rfl, b⟩
    have B := bstep b1 b
    have hl := hl.keep b
    clear b b1
    go_wp2_with fail
    go_ret
    exact ⟨rfl, B⟩
  have HV := Lib.hid hv
  by_cases p0 : peer < 0
  · clear hv
    go_enter Try.func4, Try.ntmps4
    go_wp2_with fail
    refine (head_any _).mono ?_
    rintro e w1 ⟨rfl, b1⟩
    have hl := hl.keep b1
    go_wp2_with fail
    refine (rvalid_at n a cap ls _ _ HN.out hl HM.out HV.out).mono ?_
    rintro e w2 ⟨rfl, b⟩
    have B := bstep b1 b
    have hl := hl.keep b
    clear b b1
    go_wp2_with fail
    go_ret
    exact ⟨rfl, B⟩
  by_cases p1 : 60 ≤ peer
  · clear hv
    go_enter Try.func4, Try.ntmps4
    go_wp2_with fail
    refine (head_any _).mono ?_
    rintro e w1 ⟨rfl, b1⟩
    have hl := hl.keep b1
    go_wp2_with fail
    refine (rvalid_at n a cap ls _ _ HN.out hl HM.out HV.out).mono ?_
    rintro e w2 ⟨rfl, b⟩
    have B := bstep b1 b
    have hl := hl.keep b
    clear b b1
    go_wp2_with fail
    go_ret
    exact ⟨rfl, B⟩
  have q0 : 0 ≤ peer := by omega
  have q1 : peer ≤ 59 := by omega
  have hvz := count_valid hv q0 q1 acked
  have hlz := count_len hv peer acked
  have hcnt := fun (w' : World) (h : LkAt w' a ls) => count_gen n a cap ls peer acked w' HN.out h HC1.out HC2.out
  unfold cListV errV at hcnt
  rw [if_pos ⟨hv, q0, q1⟩, if_pos ⟨hv, q0, q1⟩] at hcnt
  have ho := of_ok hv q0 q1
  have hmem : cntV (ofV ls peer) acked ∈ countV ls peer acked := by unfold countV; simp
  have hhas := has_mem hmem
  rw [(cnt_ok ho.1 acked).2, ho.2] at hhas
  have hoth := of_count_other (q := other) hv q0 q1 acked
  obtain ⟨zs, hzs⟩ : ∃ zs, countV ls peer acked = zs := ⟨_, rfl⟩
  rw [hzs] at hvz hlz hcnt hhas hoth
  obtain ⟨m, hmz⟩ : ∃ m, zs.length = m := ⟨_, rfl⟩
  rw [hmz] at hlz hhas
  rw [← HN.out] at hlz
  have HVZ := Lib.hid hvz; have HHAS := Lib.hid hhas; have HOTH := Lib.hid hoth; have HMZ := Lib.hid hmz
  have g0 : ¬ (m : Int) < (n : Int) := by omega
  have g1 : ¬ (n : Int) + 1 < (m : Int) := by omega
  have hnb : n ≤ 4611686018427387904 := by have := valid_len hv; rw [← HN.out] at this; omega
  clear hv hvz ho hmem hhas hoth hzs hlz
  go_enter Try.func4, Try.ntmps4
  go_wp2_with fail
  refine (head_any _).mono ?_
  rintro e w1 ⟨rfl, b1⟩
  have hl := hl.keep b1
  go_wp2_with fail
  refine (rvalid_at n a cap ls _ _ HN.out hl HM.out HV.out).mono ?_
  rintro e w2 ⟨rfl, b⟩
  have B := bstep b1 b
  have hl := hl.keep b
  clear b b1
  go_wp2_with fail
  refine (hcnt _ hl).mono ?_
  rintro e w3 ⟨a1, c1, rfl, l1, x1, y1, b⟩
  have B := bstep B b
  have hl := hl.keep b
  have zm := Nat.le_trans x1 y1
  have HZM := Lib.hid zm
  clear b hcnt zm x1
  rw [hmz]
  clear hmz
  go_wp2_with fail
  refine (rvalid_at m a1 c1 zs _ _ HMZ.out.symm l1 HZM.out HVZ.out).mono ?_
  rintro e w4 ⟨rfl, b⟩
  have B := bstep B b
  have hl := hl.keep b
  have l1 := l1.keep b
  clear b
  go_wp2_with fail
  go_loopw [14, 15] (fun v i wr => ∃ k : Nat, k ≤ m ∧ i = .int .i64 k ∧ v = .bool (hasTo zs peer k) ∧ Below w4.heap.size w4 wr) (fun _ i _ => m - (intOf i).toNat)
  case atStart => exact ⟨0, Nat.zero_le _, rfl, rfl, Below.refl _ _⟩
  case round =>
    obtain ⟨k, hk, rfl, rfl, hB⟩ := hrel
    by_cases hlt : k < m
    · have hlt' : (k : Int) < (m : Int) := by omega
      have hk0 : (0 : Int) ≤ (k : Int) := by omega
      obtain ⟨b, off, rfl, hc⟩ := (l1.keep hB).at (i := k) (by rw [HMZ.out]; exact hlt)
      obtain ⟨c0, _, _⟩ := hc k (by rw [HMZ.out]; exact hlt)
      have hst : hasTo zs peer (k + 1) = (hasTo zs peer k || decide ((zs.getD k default).p = peer)) := rfl
      obtain ⟨z, hz⟩ : ∃ z, (zs.getD k default).p = z := ⟨_, rfl⟩
      rw [hz] at c0 hst
      have HST := Lib.hid hst
      clear hc hst hz
      cases hh : hasTo zs peer k
      · rw [hh] at HST
        go_wp2_with fail
        go_roundw
        case rel => exact ⟨k + 1, by omega, by go_num, by rw [HST.out]; simp [Bool.beq_eq_decide_eq], hB⟩
        case measure => simp [intOf]; omega
      · rw [hh] at HST
        go_wp2_with fail
        go_roundw
        case rel => exact ⟨k + 1, by omega, by go_num, by rw [HST.out]; simp, hB⟩
        case measure => simp [intOf]; omega
    · have hkm : m = k := by omega
      subst hkm
      rw [HHAS.out]
      have BB := bstep B hB
      have hl := hl.keep hB
      have l1 := l1.keep hB
      by_cases hop : other = peer
      · have hob : (other == peer) = true := by simp [hop]
        clear hl l1
        go_wp2_with fail
        go_ret
        exact ⟨by simp, BB⟩
      · have hob : (other == peer) = false := by simp [hop]
        have hoo := HOTH.out hop
        obtain ⟨x, hx⟩ : ∃ x, ofV ls other = x := ⟨_, rfl⟩
        rw [hx] at hoo
        have HX := Lib.hid hx; have HO := Lib.hid hoo
        clear hx hoo
        go_wp2_with fail
        refine (rof_at m a1 c1 zs other _ HMZ.out.symm l1 HZM.out x HO.out).mono ?_
        rintro e w5 ⟨rfl, b⟩
        have BB := bstep BB b
        have hl := hl.keep b
        clear b l1
        go_wp2_with fail
        refine (rof_at n a cap ls other _ HN.out hl HM.out x HX.out).mono ?_
        rintro e w6 ⟨rfl, b⟩
        have BB := bstep BB b
        clear b hl
        go_wp2_with fail
        go_ret
        exact ⟨by simp, BB⟩
end Go.Proofs.Ytfhdpogngdgklaa
