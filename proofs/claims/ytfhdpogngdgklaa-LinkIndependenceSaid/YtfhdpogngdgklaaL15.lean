/- Proved: that the laws LinkBounds, LinkBetter and LinkRecovery return true for every input. Conditions: the list lies in memory. (Printed by genL15.py.) -/
import Derived.Test.YtfhdpogngdgklaaL14
namespace Go.Proofs.Ytfhdpogngdgklaa
open Go.RowKit Go.Sort Go.BigFrame
set_option linter.unusedVariables false
set_option linter.unusedSimpArgs false
attribute [local go_sem] cell_alloc_old

set_option maxRecDepth 100000 in
set_option maxHeartbeats 4000000 in
theorem lawBounds (a : Option Addr) (cap : Nat) (ls : List Lk) (peer : Int) (w : World) (hl : LkAt w a ls) (hcap : ls.length ≤ cap) (hcm : cap ≤ maxLen) :
    Calls Try.prog 5 #[.slice a ls.length cap, .int .i64 peer] w fun e w' => e = .returned (.bool true) ∧ Below w.heap.size w w' := by
  have hm : ls.length ≤ maxLen := Nat.le_trans hcap hcm
  obtain ⟨n, hn⟩ : ∃ n, n = ls.length := ⟨_, rfl⟩
  rw [← hn]
  have HN := Lib.hid hn; have HM := Lib.hid hm; have HC1 := Lib.hid hcap; have HC2 := Lib.hid hcm
  clear hn hm hcap hcm
  cases hv : validV ls
  · have HV := Lib.hid hv; clear hv
    go_enter Try.func5, Try.ntmps5
    go_wp2_with fail
    refine (head_any _).mono ?_
    rintro e w1 ⟨rfl, b1⟩
    have hl := hl.keep b1
    go_wp2_with fail
    refine (rvalid_at n a cap ls _ _ HN.out hl HM.out HV.out).mono ?_
    rintro e w2 ⟨rfl, b⟩
    have B := bstep b1 b
    have hl := hl.keep b
    clear b b1
    go_wp2_with fail
    go_ret
    exact ⟨rfl, B⟩
  by_cases p0 : peer < 0
  · have HV := Lib.hid hv; clear hv
    go_enter Try.func5, Try.ntmps5
    go_wp2_with fail
    refine (head_any _).mono ?_
    rintro e w1 ⟨rfl, b1⟩
    have hl := hl.keep b1
    go_wp2_with fail
    refine (rvalid_at n a cap ls _ _ HN.out hl HM.out HV.out).mono ?_
    rintro e w2 ⟨rfl, b⟩
    have B := bstep b1 b
    have hl := hl.keep b
    clear b b1
    go_wp2_with fail
    go_ret
    exact ⟨rfl, B⟩
  by_cases p1 : 60 ≤ peer
  · have HV := Lib.hid hv; clear hv
    go_enter Try.func5, Try.ntmps5
    go_wp2_with fail
    refine (head_any _).mono ?_
    rintro e w1 ⟨rfl, b1⟩
    have hl := hl.keep b1
    go_wp2_with fail
    refine (rvalid_at n a cap ls _ _ HN.out hl HM.out HV.out).mono ?_
    rintro e w2 ⟨rfl, b⟩
    have B := bstep b1 b
    have hl := hl.keep b
    clear b b1
    go_wp2_with fail
    go_ret
    exact ⟨rfl, B⟩
  have q0 : 0 ≤ peer := by omega
  have q1 : peer ≤ 59 := by omega
  have hok := of_ok hv q0 q1
  have hb := bounds_of hok.1
  have hcost : costV ls peer = priceV (ofV ls peer) := by unfold costV; rw [if_pos ⟨hv, q0, q1⟩]
  obtain ⟨x, hx⟩ : ∃ x, ofV ls peer = x := ⟨_, rfl⟩
  rw [hx] at hb hcost
  obtain ⟨v, hvv⟩ : ∃ v, priceV x = v := ⟨_, rfl⟩
  rw [hvv] at hb hcost
  have HX := Lib.hid hx; have HCO := Lib.hid hcost
  obtain ⟨r1, r2, r3⟩ := hb
  have hbe : ((v == 128) == (x.s == x.g)) = true := by
    by_cases h : x.s = x.g
    · simp [h, r3.2 h]
    · have : ¬ v = 128 := fun hh => h (r3.1 hh)
      have e1 : (x.s == x.g) = false := by simp [h]
      have e2 : (v == 128) = false := by simp [this]
      rw [e1, e2]; rfl
  clear hx hcost hok hvv r3
  have HV := Lib.hid hv; clear hv
  go_enter Try.func5, Try.ntmps5
  go_wp2_with fail
  refine (head_any _).mono ?_
  rintro e w1 ⟨rfl, b1⟩
  have hl := hl.keep b1
  go_wp2_with fail
  refine (rvalid_at n a cap ls _ _ HN.out hl HM.out HV.out).mono ?_
  rintro e w2 ⟨rfl, b⟩
  have B := bstep b1 b
  have hl := hl.keep b
  clear b b1
  go_wp2_with fail
  refine (rof_at n a cap ls peer _ HN.out hl HM.out x HX.out).mono ?_
  rintro e w3 ⟨rfl, b⟩
  have B := bstep B b
  have hl := hl.keep b
  clear b
  have t1 : (w3.alloc (.cells #[.int .i64 x.p, .int .i64 x.s, .int .i64 x.g] 32)).cell? ⟨w3.heap.size, 1, none⟩ = some (.int .i64 x.s) := new0 rfl rfl
  have t2 : (w3.alloc (.cells #[.int .i64 x.p, .int .i64 x.s, .int .i64 x.g] 32)).cell? ⟨w3.heap.size, 2, none⟩ = some (.int .i64 x.g) := new0 rfl rfl
  have hl := hl.keep (ball (Below.refl w3.heap.size w3) (.cells #[.int .i64 x.p, .int .i64 x.s, .int .i64 x.g] 32))
  have B := ball B (.cells #[.int .i64 x.p, .int .i64 x.s, .int .i64 x.g] 32)
  go_wp2_with fail
  refine (cost_at n a cap ls peer v _ HN.out hl HM.out HCO.out).mono ?_
  rintro e w4 ⟨rfl, b⟩
  have B := bstep B b
  have t1 := keep1 b t1
  have t2 := keep1 b t2
  clear b hl
  go_wp2_with fail
  go_ret
  exact ⟨by simp, B⟩

set_option maxRecDepth 100000 in
set_option maxHeartbeats 4000000 in
theorem lawBetter (a : Option Addr) (cap : Nat) (ls : List Lk) (peer : Int) (w : World) (hl : LkAt w a ls) (hcap : ls.length ≤ cap) (hcm : cap ≤ maxLen) :
    Calls Try.prog 6 #[.slice a ls.length cap, .int .i64 peer] w fun e w' => e = .returned (.bool true) ∧ Below w.heap.size w w' := by
  have hm : ls.length ≤ maxLen := Nat.le_trans hcap hcm
  obtain ⟨n, hn⟩ : ∃ n, n = ls.length := ⟨_, rfl⟩
  rw [← hn]
  have HN := Lib.hid hn; have HM := Lib.hid hm; have HC1 := Lib.hid hcap; have HC2 := Lib.hid hcm
  clear hn hm hcap hcm
  cases hv : validV ls
  · have HV := Lib.hid hv; clear hv
    go_enter Try.func6, Try.ntmps6
    go_wp2_with fail
    refine (head_any _).mono ?_
    rintro e w1 ⟨rfl, b1⟩
    have hl := hl.keep b1
    go_wp2_with fail
    refine (rvalid_at n a cap ls _ _ HN.out hl HM.out HV.out).mono ?_
    rintro e w2 ⟨rfl, b⟩
    have B := bstep b1 b
    have hl := hl.keep b
    clear b b1
    go_wp2_with fail
    go_ret
    exact ⟨rfl, B⟩
  by_cases p0 : peer < 0
  · have HV := Lib.hid hv; clear hv
    go_enter Try.func6, Try.ntmps6
    go_wp2_with fail
    refine (head_any _).mono ?_
    rintro e w1 ⟨rfl, b1⟩
    have hl := hl.keep b1
    go_wp2_with fail
    refine (rvalid_at n a cap ls _ _ HN.out hl HM.out HV.out).mono ?_
    rintro e w2 ⟨rfl, b⟩
    have B := bstep b1 b
    have hl := hl.keep b
    clear b b1
    go_wp2_with fail
    go_ret
    exact ⟨rfl, B⟩
  by_cases p1 : 60 ≤ peer
  · have HV := Lib.hid hv; clear hv
    go_enter Try.func6, Try.ntmps6
    go_wp2_with fail
    refine (head_any _).mono ?_
    rintro e w1 ⟨rfl, b1⟩
    have hl := hl.keep b1
    go_wp2_with fail
    refine (rvalid_at n a cap ls _ _ HN.out hl HM.out HV.out).mono ?_
    rintro e w2 ⟨rfl, b⟩
    have B := bstep b1 b
    have hl := hl.keep b
    clear b b1
    go_wp2_with fail
    go_ret
    exact ⟨rfl, B⟩
  have q0 : 0 ≤ peer := by omega
  have q1 : peer ≤ 59 := by omega
  have hok := of_ok hv q0 q1
  have hb := better_of hok.1
  have hcost : costV ls peer = priceV (ofV ls peer) := by unfold costV; rw [if_pos ⟨hv, q0, q1⟩]
  have hg := cost_after hv q0 q1 true 1
  have hbd := cost_after hv q0 q1 false 1
  obtain ⟨za, hza⟩ : ∃ z, afterV ls peer true 1 = z := ⟨_, rfl⟩
  obtain ⟨zb, hzb⟩ : ∃ z, afterV ls peer false 1 = z := ⟨_, rfl⟩
  rw [hza] at hg
  rw [hzb] at hbd
  have Hza := Lib.hid hza; have Hzb := Lib.hid hzb
  clear hza hzb
  have hf : ∀ (p s g : Int) (w : World), (Instr.field 32 (.agg #[.int .i64 p, .int .i64 s, .int .i64 g]) 1).run Try.prog w = .ok (.int .i64 s) w := fun _ _ _ _ => by kernel_rfl
  simp only [cntN] at hg hbd
  obtain ⟨x, hx⟩ : ∃ x, ofV ls peer = x := ⟨_, rfl⟩
  rw [hx] at hb hcost hg hbd
  generalize priceV (cntV x true) = vg at *
  generalize priceV (cntV x false) = vb at *
  generalize priceV x = vn at *
  have HX := Lib.hid hx; have HCO := Lib.hid hcost; have HG := Lib.hid hg; have HBD := Lib.hid hbd
  obtain ⟨r1, r3⟩ := hb
  have R3 := Lib.hid r3
  clear hx hcost hok hg hbd r3
  have HV := Lib.hid hv; clear hv
  go_enter Try.func6, Try.ntmps6
  go_wp2_with fail
  refine (head_any _).mono ?_
  rintro e w1 ⟨rfl, b1⟩
  have hl := hl.keep b1
  go_wp2_with fail
  refine (rvalid_at n a cap ls _ _ HN.out hl HM.out HV.out).mono ?_
  rintro e w2 ⟨rfl, b⟩
  have B := bstep b1 b
  have hl := hl.keep b
  clear b b1
  go_wp2_with fail
  refine (cost_at n a cap ls peer vn _ HN.out hl HM.out HCO.out).mono ?_
  rintro e w4 ⟨rfl, b⟩
  have B := bstep B b
  have hl := hl.keep b
  clear b
  go_wp2_with fail
  refine (after_at 1 1 n a cap ls za peer true _ rfl HN.out hl HC1.out HC2.out HV.out q0 q1 (by decide) Hza.out).mono ?_
  rintro e w5 ⟨a5, c5, rfl, l5, x5, y5, b⟩
  have B := bstep B b
  have hl := hl.keep b
  clear b
  have z5 := Nat.le_trans x5 y5
  generalize hz5 : za.length = m5 at *
  go_wp2_with fail
  refine (cost_at m5 a5 c5 za peer vg _ hz5.symm l5 (by rw [hz5]; exact z5) HG.out).mono ?_
  rintro e v5 ⟨rfl, b⟩
  have B := bstep B b
  have hl := hl.keep b
  clear b l5 x5 y5 z5 hz5
  go_wp2_with fail
  refine (after_at 1 1 n a cap ls zb peer false _ rfl HN.out hl HC1.out HC2.out HV.out q0 q1 (by decide) Hzb.out).mono ?_
  rintro e w6 ⟨a6, c6, rfl, l6, x6, y6, b⟩
  have B := bstep B b
  have hl := hl.keep b
  clear b
  have z6 := Nat.le_trans x6 y6
  generalize hz6 : zb.length = m6 at *
  go_wp2_with fail
  refine (cost_at m6 a6 c6 zb peer vb _ hz6.symm l6 (by rw [hz6]; exact z6) HBD.out).mono ?_
  rintro e v6 ⟨rfl, b⟩
  have B := bstep B b
  have hl := hl.keep b
  clear b l6 x6 y6 z6 hz6
  go_wp2_with fail
  refine (rof_at n a cap ls peer _ HN.out hl HM.out x HX.out).mono ?_
  rintro e w7 ⟨rfl, b⟩
  have B := bstep B b
  clear b hl
  by_cases h31 : x.s = 31
  · go_wp2_with fail
    go_ret
    exact ⟨by simp, B⟩
  · have hs : (x.s == 31) = false := by simp [h31]
    obtain ⟨u1, u2⟩ := R3.out.resolve_left h31
    go_wp2_with fail
    go_ret
    exact ⟨by simp, B⟩

end Go.Proofs.Ytfhdpogngdgklaa
