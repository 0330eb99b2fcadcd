/- Proved: that the law LinkIndependence returns true for every input. Conditions: the list lies in memory. (Printed by genL18.py.) -/
import Derived.Test.YtfhdpogngdgklaaL17
namespace Go.Proofs.Ytfhdpogngdgklaa
open Go.RowKit Go.Sort Go.BigFrame
set_option linter.unusedVariables false
set_option linter.unusedSimpArgs false
attribute [local go_sem] cell_alloc_old

set_option maxRecDepth 100000 in
set_option maxHeartbeats 4000000 in
theorem lawIndependence (a : Option Addr) (cap : Nat) (ls : List Lk) (p q : Int) (c d : Bool) (w : World) (hl : LkAt w a ls) (hcap : ls.length ≤ cap) (hcm : cap ≤ maxLen) :
    Calls Try.prog 8 #[.slice a ls.length cap, .int .i64 p, .int .i64 q, .bool c, .bool d] w fun e w' => e = .returned (.bool true) ∧ Below w.heap.size w w' := by
  have hm : ls.length ≤ maxLen := Nat.le_trans hcap hcm
  obtain ⟨n, hn⟩ : ∃ n, n = ls.length := ⟨_, rfl⟩
  rw [← hn]
  have HN := Lib.hid hn; have HM := Lib.hid hm; have HC1 := Lib.hid hcap; have HC2 := Lib.hid hcm
  clear hn hm hcap hcm
  cases hv : validV ls
  · have HV := Lib.hid hv; clear hv
    go_enter Try.func8, Try.ntmps8
    go_wp2_with fail
    refine (head_any _).mono ?_
    rintro e w1 ⟨rfl, b1⟩
    have hl := hl.keep b1
    go_wp2_with fail
    refine (rvalid_at n a cap ls _ _ HN.out hl HM.out HV.out).mono ?_
    rintro e w2 ⟨rfl, b⟩
    have B := bstep b1 b
    have hl := hl.keep b
    clear b b1
    go_wp2_with fail
    go_ret
    exact ⟨rfl, B⟩
  have HV := Lib.hid hv
  by_cases e0 : p = q
  · clear hv
    go_enter Try.func8, Try.ntmps8
    go_wp2_with fail
    refine (head_any _).mono ?_
    rintro e w1 ⟨rfl, b1⟩
    have hl := hl.keep b1
    go_wp2_with fail
    refine (rvalid_at n a cap ls _ _ HN.out hl HM.out HV.out).mono ?_
    rintro e w2 ⟨rfl, b⟩
    have B := bstep b1 b
    have hl := hl.keep b
    clear b b1
    go_wp2_with fail
    go_ret
    exact ⟨rfl, B⟩
  by_cases e1 : p < 0
  · clear hv
    go_enter Try.func8, Try.ntmps8
    go_wp2_with fail
    refine (head_any _).mono ?_
    rintro e w1 ⟨rfl, b1⟩
    have hl := hl.keep b1
    go_wp2_with fail
    refine (rvalid_at n a cap ls _ _ HN.out hl HM.out HV.out).mono ?_
    rintro e w2 ⟨rfl, b⟩
    have B := bstep b1 b
    have hl := hl.keep b
    clear b b1
    go_wp2_with fail
    go_ret
    exact ⟨rfl, B⟩
  by_cases e2 : q < 0
  · clear hv
    go_enter Try.func8, Try.ntmps8
    go_wp2_with fail
    refine (head_any _).mono ?_
    rintro e w1 ⟨rfl, b1⟩
    have hl := hl.keep b1
    go_wp2_with fail
    refine (rvalid_at n a cap ls _ _ HN.out hl HM.out HV.out).mono ?_
    rintro e w2 ⟨rfl, b⟩
    have B := bstep b1 b
    have hl := hl.keep b
    clear b b1
    go_wp2_with fail
    go_ret
    exact ⟨rfl, B⟩
  by_cases e3 : 60 ≤ p
  · clear hv
    go_enter Try.func8, Try.ntmps8
    go_wp2_with fail
    refine (head_any _).mono ?_
    rintro e w1 ⟨rfl, b1⟩
    have hl := hl.keep b1
    go_wp2_with fail
    refine (rvalid_at n a cap ls _ _ HN.out hl HM.out HV.out).mono ?_
    rintro e w2 ⟨rfl, b⟩
    have B := bstep b1 b
    have hl := hl.keep b
    clear b b1
    go_wp2_with fail
    go_ret
    exact ⟨rfl, B⟩
  by_cases e4 : 60 ≤ q
  · clear hv
    go_enter Try.func8, Try.ntmps8
    go_wp2_with fail
    refine (head_any _).mono ?_
    rintro e w1 ⟨rfl, b1⟩
    have hl := hl.keep b1
    go_wp2_with fail
    refine (rvalid_at n a cap ls _ _ HN.out hl HM.out HV.out).mono ?_
    rintro e w2 ⟨rfl, b⟩
    have B := bstep b1 b
    have hl := hl.keep b
    clear b b1
    go_wp2_with fail
    go_ret
    exact ⟨rfl, B⟩
  have hcm := comm_any hv (p := p) (q := q) (by omega) (by omega) (by omega) (by omega) e0 c d
  have hvp := count_valid hv (peer := p) (by omega) (by omega) c
  have hvq := count_valid hv (peer := q) (by omega) (by omega) d
  have hvx := count_valid hvp (peer := q) (by omega) (by omega) d
  have hlen := (count_len hvp q d).1
  have hlen0 := (count_len hv p c)
  have hpos : 0 < (countV (countV ls p c) q d).length := by
    unfold countV; simp only [List.length_append, List.length_cons]; omega
  have hco : costV (countV (countV ls p c) q d) p = costV (countV ls p c) p := by
    unfold costV
    rw [if_pos ⟨hvx, by omega, by omega⟩, if_pos ⟨hvp, by omega, by omega⟩, of_count_other hvp (by omega) (by omega) d e0]
  obtain ⟨lp, hlp⟩ : ∃ z, countV ls p c = z := ⟨_, rfl⟩
  obtain ⟨lq, hlq⟩ : ∃ z, countV ls q d = z := ⟨_, rfl⟩
  rw [hlp] at hcm hvp hvx hco hpos
  rw [hlq] at hcm hvq
  obtain ⟨lx, hlx⟩ : ∃ z, countV lp q d = z := ⟨_, rfl⟩
  rw [hlx] at hcm hvx hco hpos
  obtain ⟨v, hvv⟩ : ∃ v, costV lp p = v := ⟨_, rfl⟩
  rw [hvv] at hco
  have HP := Lib.hid (show afterV ls p c 1 = lp from hlp)
  have HQ := Lib.hid (show afterV ls q d 1 = lq from hlq)
  have HX := Lib.hid (show afterV lp q d 1 = lx from hlx)
  have HY := Lib.hid (show afterV lq p c 1 = lx from hcm.symm)
  have HCO := Lib.hid hco; have HV1 := Lib.hid hvv; have HVP := Lib.hid hvp; have HVQ := Lib.hid hvq
  clear hv hcm hvp hvq hvx hlen hlen0 hco hlp hlq hlx hvv
  have i0 : 0 ≤ p := by omega
  have i1 : p ≤ 59 := by omega
  have i2 : 0 ≤ q := by omega
  have i3 : q ≤ 59 := by omega
  have hpq : (p == q) = false := by simp [e0]
  go_enter Try.func8, Try.ntmps8
  go_wp2_with fail
  refine (head_any _).mono ?_
  rintro e w1 ⟨rfl, b1⟩
  have hl := hl.keep b1
  go_wp2_with fail
  refine (rvalid_at n a cap ls _ _ HN.out hl HM.out HV.out).mono ?_
  rintro e w2 ⟨rfl, b⟩
  have B := bstep b1 b
  have hl := hl.keep b
  clear b b1
  go_wp2_with fail
  refine (after_at 1 1 n a cap ls lp p c _ rfl HN.out hl HC1.out HC2.out HV.out i0 i1 (by decide) HP.out).mono ?_
  rintro e w11 ⟨a1, c1, rfl, l1, x1, y1, b⟩
  have B := bstep B b
  have hl := hl.keep b
  clear b
  obtain ⟨m1, hz1⟩ : ∃ m, lp.length = m := ⟨_, rfl⟩
  rw [hz1] at x1 ⊢
  go_wp2_with fail
  refine (after_at 1 1 m1 a1 c1 lp lx q d _ rfl hz1.symm l1 (by rw [hz1]; exact x1) y1 HVP.out i2 i3 (by decide) HX.out).mono ?_
  rintro e w12 ⟨a2, c2, rfl, l2, x2, y2, b⟩
  have B := bstep B b
  have hl := hl.keep b
  clear b
  obtain ⟨m2, hz2⟩ : ∃ m, lx.length = m := ⟨_, rfl⟩
  rw [hz2] at x2 ⊢
  go_wp2_with fail
  refine (after_at 1 1 n a cap ls lq q d _ rfl HN.out hl HC1.out HC2.out HV.out i2 i3 (by decide) HQ.out).mono ?_
  rintro e w13 ⟨a3, c3, rfl, l3, x3, y3, b⟩
  have B := bstep B b
  have hl := hl.keep b
  have l2 := l2.keep b
  clear b
  obtain ⟨m3, hz3⟩ : ∃ m, lq.length = m := ⟨_, rfl⟩
  rw [hz3] at x3 ⊢
  go_wp2_with fail
  refine (after_at 1 1 m3 a3 c3 lq lx p c _ rfl hz3.symm l3 (by rw [hz3]; exact x3) y3 HVQ.out i0 i1 (by decide) HY.out).mono ?_
  rintro e w14 ⟨a4, c4, rfl, l4, x4, y4, b⟩
  have B := bstep B b
  have hl := hl.keep b
  have l2 := l2.keep b
  clear b
  obtain ⟨m4, hz4⟩ : ∃ m, lx.length = m := ⟨_, rfl⟩
  rw [hz4] at x4 ⊢
  go_wp2_with fail
  refine (same_at m2 m4 a2 a4 c2 c4 lx _ hz2.symm hz4.symm l2 l4 (by rw [hz2]; exact Nat.le_trans x2 y2)).mono ?_
  rintro e w15 ⟨rfl, b⟩
  have B := bstep B b
  have hl := hl.keep b
  have l2 := l2.keep b
  clear b
  have hm2 : (0 : Int) < (m2 : Int) := by omega
  go_wp2_with fail
  refine (cost_at m2 a2 c2 lx p v _ hz2.symm l2 (by rw [hz2]; exact Nat.le_trans x2 y2) HCO.out).mono ?_
  rintro e w16 ⟨rfl, b⟩
  have B := bstep B b
  have hl := hl.keep b
  clear b
  go_wp2_with fail
  refine (after_at 1 1 n a cap ls lp p c _ rfl HN.out hl HC1.out HC2.out HV.out i0 i1 (by decide) HP.out).mono ?_
  rintro e w25 ⟨a5, c5, rfl, l5, x5, y5, b⟩
  have B := bstep B b
  have hl := hl.keep b
  clear b
  obtain ⟨m5, hz5⟩ : ∃ m, lp.length = m := ⟨_, rfl⟩
  rw [hz5] at x5 ⊢
  go_wp2_with fail
  refine (cost_at m5 a5 c5 lp p v _ hz5.symm l5 (by rw [hz5]; exact Nat.le_trans x5 y5) HV1.out).mono ?_
  rintro e w17 ⟨rfl, b⟩
  have B := bstep B b
  clear b
  go_wp2_with fail
  go_ret
  exact ⟨by simp, B⟩
end Go.Proofs.Ytfhdpogngdgklaa
