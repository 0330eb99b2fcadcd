/- Proved: that the laws LinkRecovery returns true for every input. Conditions: the list lies in memory. (Printed by genL15.py.) -/
import Derived.Test.YtfhdpogngdgklaaL15
namespace Go.Proofs.Ytfhdpogngdgklaa
open Go.RowKit Go.Sort Go.BigFrame
set_option linter.unusedVariables false
set_option linter.unusedSimpArgs false
attribute [local go_sem] cell_alloc_old
attribute [local irreducible] afterV cntN

set_option maxRecDepth 100000 in
set_option maxHeartbeats 4000000 in
theorem lawRecovery (a : Option Addr) (cap : Nat) (ls : List Lk) (peer : Int) (w : World) (hl : LkAt w a ls) (hcap : ls.length ≤ cap) (hcm : cap ≤ maxLen) :
    Calls Try.prog 7 #[.slice a ls.length cap, .int .i64 peer] w fun e w' => e = .returned (.bool true) ∧ Below w.heap.size w w' := by
  have hm : ls.length ≤ maxLen := Nat.le_trans hcap hcm
  obtain ⟨n, hn⟩ : ∃ n, n = ls.length := ⟨_, rfl⟩
  rw [← hn]
  have HN := Lib.hid hn; have HM := Lib.hid hm; have HC1 := Lib.hid hcap; have HC2 := Lib.hid hcm
  clear hn hm hcap hcm
  cases hv : validV ls
  · have HV := Lib.hid hv; clear hv
    go_enter Try.func7, Try.ntmps7
    go_wp2_with fail
    refine (head_any _).mono ?_
    rintro e w1 ⟨rfl, b1⟩
    have hl := hl.keep b1
    go_wp2_with fail
    refine (rvalid_at n a cap ls _ _ HN.out hl HM.out HV.out).mono ?_
    rintro e w2 ⟨rfl, b⟩
    have B := bstep b1 b
    have hl := hl.keep b
    clear b b1
    go_wp2_with fail
    go_ret
    exact ⟨rfl, B⟩
  by_cases p0 : peer < 0
  · have HV := Lib.hid hv; clear hv
    go_enter Try.func7, Try.ntmps7
    go_wp2_with fail
    refine (head_any _).mono ?_
    rintro e w1 ⟨rfl, b1⟩
    have hl := hl.keep b1
    go_wp2_with fail
    refine (rvalid_at n a cap ls _ _ HN.out hl HM.out HV.out).mono ?_
    rintro e w2 ⟨rfl, b⟩
    have B := bstep b1 b
    have hl := hl.keep b
    clear b b1
    go_wp2_with fail
    go_ret
    exact ⟨rfl, B⟩
  by_cases p1 : 60 ≤ peer
  · have HV := Lib.hid hv; clear hv
    go_enter Try.func7, Try.ntmps7
    go_wp2_with fail
    refine (head_any _).mono ?_
    rintro e w1 ⟨rfl, b1⟩
    have hl := hl.keep b1
    go_wp2_with fail
    refine (rvalid_at n a cap ls _ _ HN.out hl HM.out HV.out).mono ?_
    rintro e w2 ⟨rfl, b⟩
    have B := bstep b1 b
    have hl := hl.keep b
    clear b b1
    go_wp2_with fail
    go_ret
    exact ⟨rfl, B⟩
  have q0 : 0 ≤ peer := by omega
  have q1 : peer ≤ 59 := by omega
  have hok := of_ok hv q0 q1
  have hb := recovery_of hok.1
  have h1 := cost_after hv q0 q1 true 5
  have h2 := cost_after hv q0 q1 true 96
  have h3 := cost_after hv q0 q1 false 160
  obtain ⟨za, hza⟩ : ∃ z, afterV ls peer true 5 = z := ⟨_, rfl⟩
  obtain ⟨zb, hzb⟩ : ∃ z, afterV ls peer true 96 = z := ⟨_, rfl⟩
  obtain ⟨zc, hzc⟩ : ∃ z, afterV ls peer false 160 = z := ⟨_, rfl⟩
  rw [hza] at h1
  rw [hzb] at h2
  rw [hzc] at h3
  have Hza := Lib.hid hza; have Hzb := Lib.hid hzb; have Hzc := Lib.hid hzc
  clear hza hzb hzc
  obtain ⟨x, hx⟩ : ∃ x, ofV ls peer = x := ⟨_, rfl⟩
  rw [hx] at hb h1 h2 h3
  generalize priceV (cntN x true 5) = va at *
  generalize priceV (cntN x true 96) = vb at *
  generalize priceV (cntN x false 160) = vc at *
  have H1 := Lib.hid h1; have H2 := Lib.hid h2; have H3 := Lib.hid h3
  obtain ⟨r1, r2, r3⟩ := hb
  clear hx hok h1 h2 h3
  have HV := Lib.hid hv; clear hv
  go_enter Try.func7, Try.ntmps7
  go_wp2_with fail
  refine (head_any _).mono ?_
  rintro e w1 ⟨rfl, b1⟩
  have hl := hl.keep b1
  go_wp2_with fail
  refine (rvalid_at n a cap ls _ _ HN.out hl HM.out HV.out).mono ?_
  rintro e w2 ⟨rfl, b⟩
  have B := bstep b1 b
  have hl := hl.keep b
  clear b b1
  go_wp2_with fail
  refine (after_at 5 5 n a cap ls za peer true _ rfl HN.out hl HC1.out HC2.out HV.out q0 q1 (by decide) Hza.out).mono ?_
  rintro e w5 ⟨a5, c5, rfl, l5, x5, y5, b⟩
  have B := bstep B b
  have hl := hl.keep b
  clear b
  have z5 := Nat.le_trans x5 y5
  generalize hz5 : za.length = m5 at *
  go_wp2_with fail
  refine (cost_at m5 a5 c5 za peer va _ hz5.symm l5 (by rw [hz5]; exact z5) H1.out).mono ?_
  rintro e v5 ⟨rfl, b⟩
  have B := bstep B b
  have hl := hl.keep b
  clear b l5 x5 y5 z5 hz5
  go_wp2_with fail
  refine (after_at 96 96 n a cap ls zb peer true _ rfl HN.out hl HC1.out HC2.out HV.out q0 q1 (by decide) Hzb.out).mono ?_
  rintro e w6 ⟨a6, c6, rfl, l6, x6, y6, b⟩
  have B := bstep B b
  have hl := hl.keep b
  clear b
  have z6 := Nat.le_trans x6 y6
  generalize hz6 : zb.length = m6 at *
  go_wp2_with fail
  refine (cost_at m6 a6 c6 zb peer vb _ hz6.symm l6 (by rw [hz6]; exact z6) H2.out).mono ?_
  rintro e v6 ⟨rfl, b⟩
  have B := bstep B b
  have hl := hl.keep b
  clear b l6 x6 y6 z6 hz6
  go_wp2_with fail
  refine (after_at 160 160 n a cap ls zc peer false _ rfl HN.out hl HC1.out HC2.out HV.out q0 q1 (by decide) Hzc.out).mono ?_
  rintro e w7 ⟨a7, c7, rfl, l7, x7, y7, b⟩
  have B := bstep B b
  have hl := hl.keep b
  clear b
  have z7 := Nat.le_trans x7 y7
  generalize hz7 : zc.length = m7 at *
  go_wp2_with fail
  refine (cost_at m7 a7 c7 zc peer vc _ hz7.symm l7 (by rw [hz7]; exact z7) H3.out).mono ?_
  rintro e v7 ⟨rfl, b⟩
  have B := bstep B b
  have hl := hl.keep b
  clear b l7 x7 y7 z7 hz7
  go_wp2_with fail
  go_ret
  exact ⟨by simp, B⟩
end Go.Proofs.Ytfhdpogngdgklaa
