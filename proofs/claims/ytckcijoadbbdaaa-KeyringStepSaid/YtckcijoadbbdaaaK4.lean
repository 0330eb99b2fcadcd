/- Proved: that the laws KeyringLearning and KeyringAging return true for every input. Conditions: the numbers fit their types. -/
import Derived.Test.YtckcijoadbbdaaaK3
namespace Go.Proofs.Ytckcijoadbbdaaa
open Go.RowKit Go.Sort Go.BigFrame
set_option linter.unusedVariables false
set_option linter.unusedSimpArgs false
attribute [local go_sem] cell_alloc_old

theorem validR_iff {f n : Int} : validR f n = true ↔ (f = 0 ∧ n = 0) ∨ (0 ≤ f ∧ f ≤ 500000 ∧ f + 1 ≤ n ∧ n ≤ 500002) := by
  simp only [validR, Bool.or_eq_true, decide_eq_true_eq]
theorem knowsR_iff {f n e : Int} : knowsR f n e = true ↔ 0 ≤ f ∧ f ≤ 500000 ∧ f + 1 ≤ n ∧ n ≤ 500002 ∧ f ≤ e ∧ e < n := by
  simp only [knowsR, Bool.and_eq_true, decide_eq_true_eq, validR_iff]; omega
theorem bool_ext {a b : Bool} (h : a = true ↔ b = true) : a = b := by
  cases a <;> cases b <;> simp_all
/-- What a node knows after it has learnt. -/
theorem learn_law {f n g m a q : Int} (x : Int) (h0 : 0 ≤ a) (h1 : a ≤ 1000000000) (hq : epV a = q) (hq1 : q ≤ 499998) (hq0 : 0 ≤ q) :
    knowsR (learnF f n g m a) (learnN f n g m a) x = (knowsR f n x || ((knowsR f n q && (knowsR g m q && !knowsR g m (q + 2))) && knowsR g m x)) ∧
    (q + 1 < x → knowsR (learnF f n g m a) (learnN f n g m a) x = knowsR f n x) := by
  have hs : slotN a = true := by simp [slotN, h0, h1]
  by_cases hc : learnC f n g m a = true
  · have h2 := hc
    simp only [learnC, hs, hq, Bool.true_and, Bool.and_eq_true, decide_eq_true_eq] at h2
    obtain ⟨k1, k2, k3⟩ := h2
    have e1 : learnF f n g m a = min f g := by unfold learnF; rw [if_pos hc]
    have e2 : learnN f n g m a = max n m := by unfold learnN; rw [if_pos hc]
    have k4 : knowsR g m (q + 2) = false := by
      cases h : knowsR g m (q + 2)
      · rfl
      · have := knowsR_iff.1 h; omega
    rw [e1, e2, k1, k2, k4]
    have j1 := knowsR_iff.1 k1
    have j2 := knowsR_iff.1 k2
    refine ⟨bool_ext ?_, fun hx => bool_ext ?_⟩
    · simp only [Bool.true_and, Bool.not_false, Bool.or_eq_true, knowsR_iff]; omega
    · simp only [knowsR_iff]; omega
  · have e1 : learnF f n g m a = f := by unfold learnF; rw [if_neg hc]
    have e2 : learnN f n g m a = n := by unfold learnN; rw [if_neg hc]
    rw [e1, e2]
    refine ⟨?_, fun _ => rfl⟩
    have h3 : (knowsR f n q && (knowsR g m q && !knowsR g m (q + 2))) = false := by
      cases h4 : (knowsR f n q && (knowsR g m q && !knowsR g m (q + 2)))
      · rfl
      · exfalso
        simp only [Bool.and_eq_true, Bool.not_eq_true'] at h4
        obtain ⟨k1, k2, k3⟩ := h4
        apply hc
        have j2 := knowsR_iff.1 k2
        have : ¬ (knowsR g m (q + 2) = true) := by rw [k3]; simp
        rw [knowsR_iff] at this
        have k5 : m ≤ q + 2 := by omega
        simp [learnC, hs, hq, k1, k2, k5]
    rw [h3, Bool.false_and, Bool.or_false]

set_option maxRecDepth 100000 in
set_option maxHeartbeats 8000000 in
theorem lawLearning (f n g m s x : Int) (w : World) (h0 : 0 ≤ s) (h1 : s ≤ 4294967295) (hx0 : -9223372036854775808 ≤ x) (hx1 : x ≤ 9223372036854775807) :
    Calls Try.prog 6 #[.agg #[.int .i64 f, .int .i64 n], .agg #[.int .i64 g, .int .i64 m], .int .u32 s, .int .i64 x] w fun e w' => e = .returned (.bool true) ∧ Below w.heap.size w w' := by
  obtain ⟨a, ha⟩ : ∃ a, s % 999996000 = a := ⟨_, rfl⟩
  have a0 : 0 ≤ a := by omega
  have a1 : a < 999996000 := by omega
  obtain ⟨q, hq⟩ : ∃ q, q = a / 2000 := ⟨_, rfl⟩
  have q0 : 0 ≤ q := by omega
  have q1 : q ≤ 499998 := by omega
  have E1 : Hid (epV a = q) := Lib.hid (by rw [epV_in a0 (by omega)]; omega)
  have E2 : Hid (epE a = 0) := Lib.hid (epE_in a0 (by omega))
  obtain ⟨l1, l2⟩ := learn_law (f := f) (n := n) (g := g) (m := m) x a0 (by omega) E1.out q1 q0
  obtain ⟨F, hF⟩ : ∃ F, learnF f n g m a = F := ⟨_, rfl⟩
  obtain ⟨N, hN⟩ : ∃ N, learnN f n g m a = N := ⟨_, rfl⟩
  rw [hF, hN] at l1 l2
  have HA := Lib.hid ha; have HF := Lib.hid hF; have HN := Lib.hid hN
  clear ha hq hF hN
  obtain ⟨kx, hkx⟩ : ∃ b, knowsR f n x = b := ⟨_, rfl⟩
  obtain ⟨kq, hkq⟩ : ∃ b, knowsR f n q = b := ⟨_, rfl⟩
  obtain ⟨tq, htq⟩ : ∃ b, knowsR g m q = b := ⟨_, rfl⟩
  obtain ⟨t2, ht2⟩ : ∃ b, knowsR g m (q + 2) = b := ⟨_, rfl⟩
  obtain ⟨tx, htx⟩ : ∃ b, knowsR g m x = b := ⟨_, rfl⟩
  obtain ⟨X, hX⟩ : ∃ b, knowsR F N x = b := ⟨_, rfl⟩
  rw [hkx, hkq, htq, ht2, htx, hX] at l1
  rw [hkx, hX] at l2
  have KX := Lib.hid hkx; have KQ := Lib.hid hkq; have TQ := Lib.hid htq; have T2 := Lib.hid ht2; have TX := Lib.hid htx; have HX := Lib.hid hX
  clear hkx hkq htq ht2 htx hX
  have l3 : (decide (x ≤ q + 1) || (X == kx)) = true := by
    by_cases h : x ≤ q + 1
    · simp [h]
    · rw [l2 (by omega)]; simp
  have L1 := Lib.hid l1; have L3 := Lib.hid l3; clear l1 l2 l3
  go_enter Try.func6, Try.ntmps6
  go_wp2_with fail
  refine (head_any _).mono ?_
  rintro e w1 ⟨rfl, hb1⟩
  have r0 : w1.cell? ⟨w.heap.size, 0, none⟩ = some (.int .i64 f) := keep1 hb1 (old1 (by simp) _)
  have r1 : w1.cell? ⟨w.heap.size, 1, none⟩ = some (.int .i64 n) := keep1 hb1 (old1 (by simp) _)
  have t0 : w1.cell? ⟨w.heap.size + 1, 0, none⟩ = some (.int .i64 g) := keep1 hb1 (by simp)
  have t1 : w1.cell? ⟨w.heap.size + 1, 1, none⟩ = some (.int .i64 m) := keep1 hb1 (by simp)
  have BB := bstep (ball (ball (Below.refl w.heap.size w) _) _) hb1
  go_wp2_with fail
  refine (slot_at s a _ h0 h1 HA.out).mono ?_
  rintro e w2 ⟨rfl, hb2⟩
  have r0 := keep1 hb2 (r0)
  have r1 := keep1 hb2 (r1)
  have t0 := keep1 hb2 (t0)
  have t1 := keep1 hb2 (t1)
  have BB := bstep BB hb2
  go_wp2_with fail
  refine (ep_at a q 0 _ E1.out E2.out).mono ?_
  rintro e w3 ⟨rfl, hb3⟩
  have r0 := keep1 hb3 (r0)
  have r1 := keep1 hb3 (r1)
  have t0 := keep1 hb3 (t0)
  have t1 := keep1 hb3 (t1)
  have BB := bstep BB hb3
  have lt0 := World.block_lt_of_cell? _ _ t0
  simp only at lt0
  have le0 : w.heap.size ≤ w3.heap.size := by omega
  have ne0 : ¬ w3.heap.size = w.heap.size := by omega
  have ne0' : ¬ w3.heap.size = w.heap.size + 1 := by omega
  go_upto_region 3 with fail
  go_cut [12] (fun s12 wx => ∃ b : Nat, s12 = .pointer (some ⟨b, 0, none⟩) ∧ w3.heap.size ≤ b ∧ wx.cell? ⟨b, 0, none⟩ = some (.int .i64 F) ∧ wx.cell? ⟨b, 1, none⟩ = some (.int .i64 N) ∧ Below w3.heap.size w3 wx)
  case first =>
    go_region_held3 (fun w' => w'.cell? ⟨w.heap.size, 0, none⟩ = some (.int .i64 f) ∧ w'.cell? ⟨w.heap.size, 1, none⟩ = some (.int .i64 n) ∧ w'.cell? ⟨w.heap.size + 1, 0, none⟩ = some (.int .i64 g) ∧ w'.cell? ⟨w.heap.size + 1, 1, none⟩ = some (.int .i64 m)) (go_keep)
      (first
      | (go_at_call 21; refine (slot_any s _ h0 h1).mono ?_; rw [HA.out]; rintro e w' ⟨rfl, rfl⟩)
      | (go_at_call 17; refine (learn_at f n g m a F N _ HF.out HN.out).mono ?_; rintro e w9 ⟨rfl, hb9⟩; obtain ⟨hc9, hf9⟩ := bcell hb9; have x0 : w9.cell? ⟨w.heap.size, 0, none⟩ = some (.int .i64 f) := keep1 hb9 (by first | assumption | exact old1 r0 _ | exact r0); have x1 : w9.cell? ⟨w.heap.size, 1, none⟩ = some (.int .i64 n) := keep1 hb9 (by first | assumption | exact old1 r1 _ | exact r1); have x2 : w9.cell? ⟨w.heap.size + 1, 0, none⟩ = some (.int .i64 g) := keep1 hb9 (by first | assumption | exact old1 t0 _ | exact t0); have x3 : w9.cell? ⟨w.heap.size + 1, 1, none⟩ = some (.int .i64 m) := keep1 hb9 (by first | assumption | exact old1 t1 _ | exact t1); have z9 := hb9.size; (try simp only [World.size_alloc, World.size_drew] at z9); have z4 : w3.heap.size ≤ w9.heap.size := (by omega); have ne9 : ¬ w9.heap.size = w.heap.size := (by omega); have ne9' : ¬ w9.heap.size = w.heap.size + 1 := (by omega)))
    all_goals
      go_wp2_with fail
      go_meet
      refine ⟨_, rfl, ?_, ?_, ?_, ?_⟩
      · first | exact Nat.le_refl _ | exact z4
      · go_simp
      · go_simp
      · repeat (first | exact bstep (Below.refl _ _).drew hb9 | exact bstep ((Below.refl _ _).alloc (Nat.le_refl _) _).drew hb9 | exact bstep (Below.refl _ _) hb9 | exact bstep ((Below.refl _ _).alloc (Nat.le_refl _) _) hb9 | refine Below.setCell ?_ (by simp <;> omega) _ | refine Below.alloc ?_ z4 _ | refine Below.alloc ?_ (by simp <;> omega) _ | refine Below.drew ?_)
  case rest =>
    obtain ⟨b, rfl, hgb, x0, x1, hbx⟩ := hcut
    have r0 := keep1 hbx r0
    have r1 := keep1 hbx r1
    have t0 := keep1 hbx t0
    have t1 := keep1 hbx t1
    have BB := bstep BB hbx
    clear lt0 le0 ne0 ne0' hbx
    cases kq
    ·
      cases kx
      ·
        obtain rfl : X = false := by have h := L1.out; simpa using h
        by_cases hxq : x ≤ q + 1
        ·
          have hd : decide (x ≤ q + 1) = true := by simpa using hxq
          go_wp2_with fail
          refine (kn_at f n q false _ KQ.out).mono ?_
          rintro e w21 ⟨rfl, hb21⟩
          have r0 := keep1 hb21 (r0)
          have r1 := keep1 hb21 (r1)
          have t0 := keep1 hb21 (t0)
          have t1 := keep1 hb21 (t1)
          have x0 := keep1 hb21 (x0)
          have x1 := keep1 hb21 (x1)
          have BB := bstep BB hb21
          go_wp2_with fail
          have kr0 := cell_regrown r0
          have kr1 := cell_regrown r1
          have kt0 := cell_regrown t0
          have kt1 := cell_regrown t1
          have kx0 := cell_regrown x0
          have kx1 := cell_regrown x1
          refine wp_region_quiet_below (by kernel_rfl) (by kernel_rfl) ?_
          repeat (go_big_quiet_step (first
            | (go_at_call 13; exact rg_of fun w' h => kn_at _ _ _ _ _ (by first | exact HX.out | exact KX.out | exact TX.out))))
          refine wpQuiet_nil ?_
          intro _ hw'
          obtain ⟨⟨dq, osq⟩, hw''⟩ := hw'
          subst hw''
          have B9 := bstep BB (below_regrown w21 dq osq)
          go_wp2
          go_ret
          exact ⟨rfl, B9⟩
        ·
          have hd : decide (x ≤ q + 1) = false := by simpa using hxq
          go_wp2_with fail
          refine (kn_at f n q false _ KQ.out).mono ?_
          rintro e w21 ⟨rfl, hb21⟩
          have r0 := keep1 hb21 (r0)
          have r1 := keep1 hb21 (r1)
          have t0 := keep1 hb21 (t0)
          have t1 := keep1 hb21 (t1)
          have x0 := keep1 hb21 (x0)
          have x1 := keep1 hb21 (x1)
          have BB := bstep BB hb21
          go_wp2_with fail
          have kr0 := cell_regrown r0
          have kr1 := cell_regrown r1
          have kt0 := cell_regrown t0
          have kt1 := cell_regrown t1
          have kx0 := cell_regrown x0
          have kx1 := cell_regrown x1
          refine wp_region_quiet_below (by kernel_rfl) (by kernel_rfl) ?_
          repeat (go_big_quiet_step (first
            | (go_at_call 13; exact rg_of fun w' h => kn_at _ _ _ _ _ (by first | exact HX.out | exact KX.out | exact TX.out))))
          refine wpQuiet_nil ?_
          intro _ hw'
          obtain ⟨⟨dq, osq⟩, hw''⟩ := hw'
          subst hw''
          have B9 := bstep BB (below_regrown w21 dq osq)
          go_wp2
          go_ret
          exact ⟨rfl, B9⟩
      ·
        obtain rfl : X = true := by have h := L1.out; simpa using h
        by_cases hxq : x ≤ q + 1
        ·
          have hd : decide (x ≤ q + 1) = true := by simpa using hxq
          go_wp2_with fail
          refine (kn_at f n q false _ KQ.out).mono ?_
          rintro e w21 ⟨rfl, hb21⟩
          have r0 := keep1 hb21 (r0)
          have r1 := keep1 hb21 (r1)
          have t0 := keep1 hb21 (t0)
          have t1 := keep1 hb21 (t1)
          have x0 := keep1 hb21 (x0)
          have x1 := keep1 hb21 (x1)
          have BB := bstep BB hb21
          go_wp2_with fail
          have kr0 := cell_regrown r0
          have kr1 := cell_regrown r1
          have kt0 := cell_regrown t0
          have kt1 := cell_regrown t1
          have kx0 := cell_regrown x0
          have kx1 := cell_regrown x1
          refine wp_region_quiet_below (by kernel_rfl) (by kernel_rfl) ?_
          repeat (go_big_quiet_step (first
            | (go_at_call 13; exact rg_of fun w' h => kn_at _ _ _ _ _ (by first | exact HX.out | exact KX.out | exact TX.out))))
          refine wpQuiet_nil ?_
          intro _ hw'
          obtain ⟨⟨dq, osq⟩, hw''⟩ := hw'
          subst hw''
          have B9 := bstep BB (below_regrown w21 dq osq)
          go_wp2
          go_ret
          exact ⟨rfl, B9⟩
        ·
          have hd : decide (x ≤ q + 1) = false := by simpa using hxq
          go_wp2_with fail
          refine (kn_at f n q false _ KQ.out).mono ?_
          rintro e w21 ⟨rfl, hb21⟩
          have r0 := keep1 hb21 (r0)
          have r1 := keep1 hb21 (r1)
          have t0 := keep1 hb21 (t0)
          have t1 := keep1 hb21 (t1)
          have x0 := keep1 hb21 (x0)
          have x1 := keep1 hb21 (x1)
          have BB := bstep BB hb21
          go_wp2_with fail
          have kr0 := cell_regrown r0
          have kr1 := cell_regrown r1
          have kt0 := cell_regrown t0
          have kt1 := cell_regrown t1
          have kx0 := cell_regrown x0
          have kx1 := cell_regrown x1
          refine wp_region_quiet_below (by kernel_rfl) (by kernel_rfl) ?_
          repeat (go_big_quiet_step (first
            | (go_at_call 13; exact rg_of fun w' h => kn_at _ _ _ _ _ (by first | exact HX.out | exact KX.out | exact TX.out))))
          refine wpQuiet_nil ?_
          intro _ hw'
          obtain ⟨⟨dq, osq⟩, hw''⟩ := hw'
          subst hw''
          have B9 := bstep BB (below_regrown w21 dq osq)
          go_wp2
          go_ret
          exact ⟨rfl, B9⟩
    · cases tq
      ·
        cases kx
        ·
          obtain rfl : X = false := by have h := L1.out; simpa using h
          by_cases hxq : x ≤ q + 1
          ·
            have hd : decide (x ≤ q + 1) = true := by simpa using hxq
            go_wp2_with fail
            refine (kn_at f n q true _ KQ.out).mono ?_
            rintro e w21 ⟨rfl, hb21⟩
            have r0 := keep1 hb21 (r0)
            have r1 := keep1 hb21 (r1)
            have t0 := keep1 hb21 (t0)
            have t1 := keep1 hb21 (t1)
            have x0 := keep1 hb21 (x0)
            have x1 := keep1 hb21 (x1)
            have BB := bstep BB hb21
            go_wp2_with fail
            refine (kn_at g m q false _ TQ.out).mono ?_
            rintro e w22 ⟨rfl, hb22⟩
            have r0 := keep1 hb22 (r0)
            have r1 := keep1 hb22 (r1)
            have t0 := keep1 hb22 (t0)
            have t1 := keep1 hb22 (t1)
            have x0 := keep1 hb22 (x0)
            have x1 := keep1 hb22 (x1)
            have BB := bstep BB hb22
            go_wp2_with fail
            have kr0 := cell_regrown r0
            have kr1 := cell_regrown r1
            have kt0 := cell_regrown t0
            have kt1 := cell_regrown t1
            have kx0 := cell_regrown x0
            have kx1 := cell_regrown x1
            refine wp_region_quiet_below (by kernel_rfl) (by kernel_rfl) ?_
            repeat (go_big_quiet_step (first
              | (go_at_call 13; exact rg_of fun w' h => kn_at _ _ _ _ _ (by first | exact HX.out | exact KX.out | exact TX.out))))
            refine wpQuiet_nil ?_
            intro _ hw'
            obtain ⟨⟨dq, osq⟩, hw''⟩ := hw'
            subst hw''
            have B9 := bstep BB (below_regrown w22 dq osq)
            go_wp2
            go_ret
            exact ⟨rfl, B9⟩
          ·
            have hd : decide (x ≤ q + 1) = false := by simpa using hxq
            go_wp2_with fail
            refine (kn_at f n q true _ KQ.out).mono ?_
            rintro e w21 ⟨rfl, hb21⟩
            have r0 := keep1 hb21 (r0)
            have r1 := keep1 hb21 (r1)
            have t0 := keep1 hb21 (t0)
            have t1 := keep1 hb21 (t1)
            have x0 := keep1 hb21 (x0)
            have x1 := keep1 hb21 (x1)
            have BB := bstep BB hb21
            go_wp2_with fail
            refine (kn_at g m q false _ TQ.out).mono ?_
            rintro e w22 ⟨rfl, hb22⟩
            have r0 := keep1 hb22 (r0)
            have r1 := keep1 hb22 (r1)
            have t0 := keep1 hb22 (t0)
            have t1 := keep1 hb22 (t1)
            have x0 := keep1 hb22 (x0)
            have x1 := keep1 hb22 (x1)
            have BB := bstep BB hb22
            go_wp2_with fail
            have kr0 := cell_regrown r0
            have kr1 := cell_regrown r1
            have kt0 := cell_regrown t0
            have kt1 := cell_regrown t1
            have kx0 := cell_regrown x0
            have kx1 := cell_regrown x1
            refine wp_region_quiet_below (by kernel_rfl) (by kernel_rfl) ?_
            repeat (go_big_quiet_step (first
              | (go_at_call 13; exact rg_of fun w' h => kn_at _ _ _ _ _ (by first | exact HX.out | exact KX.out | exact TX.out))))
            refine wpQuiet_nil ?_
            intro _ hw'
            obtain ⟨⟨dq, osq⟩, hw''⟩ := hw'
            subst hw''
            have B9 := bstep BB (below_regrown w22 dq osq)
            go_wp2
            go_ret
            exact ⟨rfl, B9⟩
        ·
          obtain rfl : X = true := by have h := L1.out; simpa using h
          by_cases hxq : x ≤ q + 1
          ·
            have hd : decide (x ≤ q + 1) = true := by simpa using hxq
            go_wp2_with fail
            refine (kn_at f n q true _ KQ.out).mono ?_
            rintro e w21 ⟨rfl, hb21⟩
            have r0 := keep1 hb21 (r0)
            have r1 := keep1 hb21 (r1)
            have t0 := keep1 hb21 (t0)
            have t1 := keep1 hb21 (t1)
            have x0 := keep1 hb21 (x0)
            have x1 := keep1 hb21 (x1)
            have BB := bstep BB hb21
            go_wp2_with fail
            refine (kn_at g m q false _ TQ.out).mono ?_
            rintro e w22 ⟨rfl, hb22⟩
            have r0 := keep1 hb22 (r0)
            have r1 := keep1 hb22 (r1)
            have t0 := keep1 hb22 (t0)
            have t1 := keep1 hb22 (t1)
            have x0 := keep1 hb22 (x0)
            have x1 := keep1 hb22 (x1)
            have BB := bstep BB hb22
            go_wp2_with fail
            have kr0 := cell_regrown r0
            have kr1 := cell_regrown r1
            have kt0 := cell_regrown t0
            have kt1 := cell_regrown t1
            have kx0 := cell_regrown x0
            have kx1 := cell_regrown x1
            refine wp_region_quiet_below (by kernel_rfl) (by kernel_rfl) ?_
            repeat (go_big_quiet_step (first
              | (go_at_call 13; exact rg_of fun w' h => kn_at _ _ _ _ _ (by first | exact HX.out | exact KX.out | exact TX.out))))
            refine wpQuiet_nil ?_
            intro _ hw'
            obtain ⟨⟨dq, osq⟩, hw''⟩ := hw'
            subst hw''
            have B9 := bstep BB (below_regrown w22 dq osq)
            go_wp2
            go_ret
            exact ⟨rfl, B9⟩
          ·
            have hd : decide (x ≤ q + 1) = false := by simpa using hxq
            go_wp2_with fail
            refine (kn_at f n q true _ KQ.out).mono ?_
            rintro e w21 ⟨rfl, hb21⟩
            have r0 := keep1 hb21 (r0)
            have r1 := keep1 hb21 (r1)
            have t0 := keep1 hb21 (t0)
            have t1 := keep1 hb21 (t1)
            have x0 := keep1 hb21 (x0)
            have x1 := keep1 hb21 (x1)
            have BB := bstep BB hb21
            go_wp2_with fail
            refine (kn_at g m q false _ TQ.out).mono ?_
            rintro e w22 ⟨rfl, hb22⟩
            have r0 := keep1 hb22 (r0)
            have r1 := keep1 hb22 (r1)
            have t0 := keep1 hb22 (t0)
            have t1 := keep1 hb22 (t1)
            have x0 := keep1 hb22 (x0)
            have x1 := keep1 hb22 (x1)
            have BB := bstep BB hb22
            go_wp2_with fail
            have kr0 := cell_regrown r0
            have kr1 := cell_regrown r1
            have kt0 := cell_regrown t0
            have kt1 := cell_regrown t1
            have kx0 := cell_regrown x0
            have kx1 := cell_regrown x1
            refine wp_region_quiet_below (by kernel_rfl) (by kernel_rfl) ?_
            repeat (go_big_quiet_step (first
              | (go_at_call 13; exact rg_of fun w' h => kn_at _ _ _ _ _ (by first | exact HX.out | exact KX.out | exact TX.out))))
            refine wpQuiet_nil ?_
            intro _ hw'
            obtain ⟨⟨dq, osq⟩, hw''⟩ := hw'
            subst hw''
            have B9 := bstep BB (below_regrown w22 dq osq)
            go_wp2
            go_ret
            exact ⟨rfl, B9⟩
      · cases t2
        ·
          cases kx
          ·
            obtain rfl : X = tx := by have h := L1.out; simpa using h
            by_cases hxq : x ≤ q + 1
            ·
              have hd : decide (x ≤ q + 1) = true := by simpa using hxq
              go_wp2_with fail
              refine (kn_at f n q true _ KQ.out).mono ?_
              rintro e w21 ⟨rfl, hb21⟩
              have r0 := keep1 hb21 (r0)
              have r1 := keep1 hb21 (r1)
              have t0 := keep1 hb21 (t0)
              have t1 := keep1 hb21 (t1)
              have x0 := keep1 hb21 (x0)
              have x1 := keep1 hb21 (x1)
              have BB := bstep BB hb21
              go_wp2_with fail
              refine (kn_at g m q true _ TQ.out).mono ?_
              rintro e w22 ⟨rfl, hb22⟩
              have r0 := keep1 hb22 (r0)
              have r1 := keep1 hb22 (r1)
              have t0 := keep1 hb22 (t0)
              have t1 := keep1 hb22 (t1)
              have x0 := keep1 hb22 (x0)
              have x1 := keep1 hb22 (x1)
              have BB := bstep BB hb22
              go_wp2_with fail
              refine (kn_at g m (q + 2) false _ T2.out).mono ?_
              rintro e w23 ⟨rfl, hb23⟩
              have r0 := keep1 hb23 (r0)
              have r1 := keep1 hb23 (r1)
              have t0 := keep1 hb23 (t0)
              have t1 := keep1 hb23 (t1)
              have x0 := keep1 hb23 (x0)
              have x1 := keep1 hb23 (x1)
              have BB := bstep BB hb23
              go_wp2_with fail
              have kr0 := cell_regrown r0
              have kr1 := cell_regrown r1
              have kt0 := cell_regrown t0
              have kt1 := cell_regrown t1
              have kx0 := cell_regrown x0
              have kx1 := cell_regrown x1
              refine wp_region_quiet_below (by kernel_rfl) (by kernel_rfl) ?_
              repeat (go_big_quiet_step (first
                | (go_at_call 13; exact rg_of fun w' h => kn_at _ _ _ _ _ (by first | exact HX.out | exact KX.out | exact TX.out))))
              refine wpQuiet_nil ?_
              intro _ hw'
              obtain ⟨⟨dq, osq⟩, hw''⟩ := hw'
              subst hw''
              have B9 := bstep BB (below_regrown w23 dq osq)
              go_wp2
              go_ret
              exact ⟨rfl, B9⟩
            ·
              have hd : decide (x ≤ q + 1) = false := by simpa using hxq
              obtain rfl : X = false := by have h := L3.out; rw [hd] at h; simpa using h
              go_wp2_with fail
              refine (kn_at f n q true _ KQ.out).mono ?_
              rintro e w21 ⟨rfl, hb21⟩
              have r0 := keep1 hb21 (r0)
              have r1 := keep1 hb21 (r1)
              have t0 := keep1 hb21 (t0)
              have t1 := keep1 hb21 (t1)
              have x0 := keep1 hb21 (x0)
              have x1 := keep1 hb21 (x1)
              have BB := bstep BB hb21
              go_wp2_with fail
              refine (kn_at g m q true _ TQ.out).mono ?_
              rintro e w22 ⟨rfl, hb22⟩
              have r0 := keep1 hb22 (r0)
              have r1 := keep1 hb22 (r1)
              have t0 := keep1 hb22 (t0)
              have t1 := keep1 hb22 (t1)
              have x0 := keep1 hb22 (x0)
              have x1 := keep1 hb22 (x1)
              have BB := bstep BB hb22
              go_wp2_with fail
              refine (kn_at g m (q + 2) false _ T2.out).mono ?_
              rintro e w23 ⟨rfl, hb23⟩
              have r0 := keep1 hb23 (r0)
              have r1 := keep1 hb23 (r1)
              have t0 := keep1 hb23 (t0)
              have t1 := keep1 hb23 (t1)
              have x0 := keep1 hb23 (x0)
              have x1 := keep1 hb23 (x1)
              have BB := bstep BB hb23
              go_wp2_with fail
              have kr0 := cell_regrown r0
              have kr1 := cell_regrown r1
              have kt0 := cell_regrown t0
              have kt1 := cell_regrown t1
              have kx0 := cell_regrown x0
              have kx1 := cell_regrown x1
              refine wp_region_quiet_below (by kernel_rfl) (by kernel_rfl) ?_
              repeat (go_big_quiet_step (first
                | (go_at_call 13; exact rg_of fun w' h => kn_at _ _ _ _ _ (by first | exact HX.out | exact KX.out | exact TX.out))))
              refine wpQuiet_nil ?_
              intro _ hw'
              obtain ⟨⟨dq, osq⟩, hw''⟩ := hw'
              subst hw''
              have B9 := bstep BB (below_regrown w23 dq osq)
              go_wp2
              go_ret
              exact ⟨rfl, B9⟩
          ·
            obtain rfl : X = true := by have h := L1.out; simpa using h
            by_cases hxq : x ≤ q + 1
            ·
              have hd : decide (x ≤ q + 1) = true := by simpa using hxq
              go_wp2_with fail
              refine (kn_at f n q true _ KQ.out).mono ?_
              rintro e w21 ⟨rfl, hb21⟩
              have r0 := keep1 hb21 (r0)
              have r1 := keep1 hb21 (r1)
              have t0 := keep1 hb21 (t0)
              have t1 := keep1 hb21 (t1)
              have x0 := keep1 hb21 (x0)
              have x1 := keep1 hb21 (x1)
              have BB := bstep BB hb21
              go_wp2_with fail
              refine (kn_at g m q true _ TQ.out).mono ?_
              rintro e w22 ⟨rfl, hb22⟩
              have r0 := keep1 hb22 (r0)
              have r1 := keep1 hb22 (r1)
              have t0 := keep1 hb22 (t0)
              have t1 := keep1 hb22 (t1)
              have x0 := keep1 hb22 (x0)
              have x1 := keep1 hb22 (x1)
              have BB := bstep BB hb22
              go_wp2_with fail
              refine (kn_at g m (q + 2) false _ T2.out).mono ?_
              rintro e w23 ⟨rfl, hb23⟩
              have r0 := keep1 hb23 (r0)
              have r1 := keep1 hb23 (r1)
              have t0 := keep1 hb23 (t0)
              have t1 := keep1 hb23 (t1)
              have x0 := keep1 hb23 (x0)
              have x1 := keep1 hb23 (x1)
              have BB := bstep BB hb23
              go_wp2_with fail
              have kr0 := cell_regrown r0
              have kr1 := cell_regrown r1
              have kt0 := cell_regrown t0
              have kt1 := cell_regrown t1
              have kx0 := cell_regrown x0
              have kx1 := cell_regrown x1
              refine wp_region_quiet_below (by kernel_rfl) (by kernel_rfl) ?_
              repeat (go_big_quiet_step (first
                | (go_at_call 13; exact rg_of fun w' h => kn_at _ _ _ _ _ (by first | exact HX.out | exact KX.out | exact TX.out))))
              refine wpQuiet_nil ?_
              intro _ hw'
              obtain ⟨⟨dq, osq⟩, hw''⟩ := hw'
              subst hw''
              have B9 := bstep BB (below_regrown w23 dq osq)
              go_wp2
              go_ret
              exact ⟨rfl, B9⟩
            ·
              have hd : decide (x ≤ q + 1) = false := by simpa using hxq
              go_wp2_with fail
              refine (kn_at f n q true _ KQ.out).mono ?_
              rintro e w21 ⟨rfl, hb21⟩
              have r0 := keep1 hb21 (r0)
              have r1 := keep1 hb21 (r1)
              have t0 := keep1 hb21 (t0)
              have t1 := keep1 hb21 (t1)
              have x0 := keep1 hb21 (x0)
              have x1 := keep1 hb21 (x1)
              have BB := bstep BB hb21
              go_wp2_with fail
              refine (kn_at g m q true _ TQ.out).mono ?_
              rintro e w22 ⟨rfl, hb22⟩
              have r0 := keep1 hb22 (r0)
              have r1 := keep1 hb22 (r1)
              have t0 := keep1 hb22 (t0)
              have t1 := keep1 hb22 (t1)
              have x0 := keep1 hb22 (x0)
              have x1 := keep1 hb22 (x1)
              have BB := bstep BB hb22
              go_wp2_with fail
              refine (kn_at g m (q + 2) false _ T2.out).mono ?_
              rintro e w23 ⟨rfl, hb23⟩
              have r0 := keep1 hb23 (r0)
              have r1 := keep1 hb23 (r1)
              have t0 := keep1 hb23 (t0)
              have t1 := keep1 hb23 (t1)
              have x0 := keep1 hb23 (x0)
              have x1 := keep1 hb23 (x1)
              have BB := bstep BB hb23
              go_wp2_with fail
              have kr0 := cell_regrown r0
              have kr1 := cell_regrown r1
              have kt0 := cell_regrown t0
              have kt1 := cell_regrown t1
              have kx0 := cell_regrown x0
              have kx1 := cell_regrown x1
              refine wp_region_quiet_below (by kernel_rfl) (by kernel_rfl) ?_
              repeat (go_big_quiet_step (first
                | (go_at_call 13; exact rg_of fun w' h => kn_at _ _ _ _ _ (by first | exact HX.out | exact KX.out | exact TX.out))))
              refine wpQuiet_nil ?_
              intro _ hw'
              obtain ⟨⟨dq, osq⟩, hw''⟩ := hw'
              subst hw''
              have B9 := bstep BB (below_regrown w23 dq osq)
              go_wp2
              go_ret
              exact ⟨rfl, B9⟩
        ·
          cases kx
          ·
            obtain rfl : X = false := by have h := L1.out; simpa using h
            by_cases hxq : x ≤ q + 1
            ·
              have hd : decide (x ≤ q + 1) = true := by simpa using hxq
              go_wp2_with fail
              refine (kn_at f n q true _ KQ.out).mono ?_
              rintro e w21 ⟨rfl, hb21⟩
              have r0 := keep1 hb21 (r0)
              have r1 := keep1 hb21 (r1)
              have t0 := keep1 hb21 (t0)
              have t1 := keep1 hb21 (t1)
              have x0 := keep1 hb21 (x0)
              have x1 := keep1 hb21 (x1)
              have BB := bstep BB hb21
              go_wp2_with fail
              refine (kn_at g m q true _ TQ.out).mono ?_
              rintro e w22 ⟨rfl, hb22⟩
              have r0 := keep1 hb22 (r0)
              have r1 := keep1 hb22 (r1)
              have t0 := keep1 hb22 (t0)
              have t1 := keep1 hb22 (t1)
              have x0 := keep1 hb22 (x0)
              have x1 := keep1 hb22 (x1)
              have BB := bstep BB hb22
              go_wp2_with fail
              refine (kn_at g m (q + 2) true _ T2.out).mono ?_
              rintro e w23 ⟨rfl, hb23⟩
              have r0 := keep1 hb23 (r0)
              have r1 := keep1 hb23 (r1)
              have t0 := keep1 hb23 (t0)
              have t1 := keep1 hb23 (t1)
              have x0 := keep1 hb23 (x0)
              have x1 := keep1 hb23 (x1)
              have BB := bstep BB hb23
              go_wp2_with fail
              have kr0 := cell_regrown r0
              have kr1 := cell_regrown r1
              have kt0 := cell_regrown t0
              have kt1 := cell_regrown t1
              have kx0 := cell_regrown x0
              have kx1 := cell_regrown x1
              refine wp_region_quiet_below (by kernel_rfl) (by kernel_rfl) ?_
              repeat (go_big_quiet_step (first
                | (go_at_call 13; exact rg_of fun w' h => kn_at _ _ _ _ _ (by first | exact HX.out | exact KX.out | exact TX.out))))
              refine wpQuiet_nil ?_
              intro _ hw'
              obtain ⟨⟨dq, osq⟩, hw''⟩ := hw'
              subst hw''
              have B9 := bstep BB (below_regrown w23 dq osq)
              go_wp2
              go_ret
              exact ⟨rfl, B9⟩
            ·
              have hd : decide (x ≤ q + 1) = false := by simpa using hxq
              go_wp2_with fail
              refine (kn_at f n q true _ KQ.out).mono ?_
              rintro e w21 ⟨rfl, hb21⟩
              have r0 := keep1 hb21 (r0)
              have r1 := keep1 hb21 (r1)
              have t0 := keep1 hb21 (t0)
              have t1 := keep1 hb21 (t1)
              have x0 := keep1 hb21 (x0)
              have x1 := keep1 hb21 (x1)
              have BB := bstep BB hb21
              go_wp2_with fail
              refine (kn_at g m q true _ TQ.out).mono ?_
              rintro e w22 ⟨rfl, hb22⟩
              have r0 := keep1 hb22 (r0)
              have r1 := keep1 hb22 (r1)
              have t0 := keep1 hb22 (t0)
              have t1 := keep1 hb22 (t1)
              have x0 := keep1 hb22 (x0)
              have x1 := keep1 hb22 (x1)
              have BB := bstep BB hb22
              go_wp2_with fail
              refine (kn_at g m (q + 2) true _ T2.out).mono ?_
              rintro e w23 ⟨rfl, hb23⟩
              have r0 := keep1 hb23 (r0)
              have r1 := keep1 hb23 (r1)
              have t0 := keep1 hb23 (t0)
              have t1 := keep1 hb23 (t1)
              have x0 := keep1 hb23 (x0)
              have x1 := keep1 hb23 (x1)
              have BB := bstep BB hb23
              go_wp2_with fail
              have kr0 := cell_regrown r0
              have kr1 := cell_regrown r1
              have kt0 := cell_regrown t0
              have kt1 := cell_regrown t1
              have kx0 := cell_regrown x0
              have kx1 := cell_regrown x1
              refine wp_region_quiet_below (by kernel_rfl) (by kernel_rfl) ?_
              repeat (go_big_quiet_step (first
                | (go_at_call 13; exact rg_of fun w' h => kn_at _ _ _ _ _ (by first | exact HX.out | exact KX.out | exact TX.out))))
              refine wpQuiet_nil ?_
              intro _ hw'
              obtain ⟨⟨dq, osq⟩, hw''⟩ := hw'
              subst hw''
              have B9 := bstep BB (below_regrown w23 dq osq)
              go_wp2
              go_ret
              exact ⟨rfl, B9⟩
          ·
            obtain rfl : X = true := by have h := L1.out; simpa using h
            by_cases hxq : x ≤ q + 1
            ·
              have hd : decide (x ≤ q + 1) = true := by simpa using hxq
              go_wp2_with fail
              refine (kn_at f n q true _ KQ.out).mono ?_
              rintro e w21 ⟨rfl, hb21⟩
              have r0 := keep1 hb21 (r0)
              have r1 := keep1 hb21 (r1)
              have t0 := keep1 hb21 (t0)
              have t1 := keep1 hb21 (t1)
              have x0 := keep1 hb21 (x0)
              have x1 := keep1 hb21 (x1)
              have BB := bstep BB hb21
              go_wp2_with fail
              refine (kn_at g m q true _ TQ.out).mono ?_
              rintro e w22 ⟨rfl, hb22⟩
              have r0 := keep1 hb22 (r0)
              have r1 := keep1 hb22 (r1)
              have t0 := keep1 hb22 (t0)
              have t1 := keep1 hb22 (t1)
              have x0 := keep1 hb22 (x0)
              have x1 := keep1 hb22 (x1)
              have BB := bstep BB hb22
              go_wp2_with fail
              refine (kn_at g m (q + 2) true _ T2.out).mono ?_
              rintro e w23 ⟨rfl, hb23⟩
              have r0 := keep1 hb23 (r0)
              have r1 := keep1 hb23 (r1)
              have t0 := keep1 hb23 (t0)
              have t1 := keep1 hb23 (t1)
              have x0 := keep1 hb23 (x0)
              have x1 := keep1 hb23 (x1)
              have BB := bstep BB hb23
              go_wp2_with fail
              have kr0 := cell_regrown r0
              have kr1 := cell_regrown r1
              have kt0 := cell_regrown t0
              have kt1 := cell_regrown t1
              have kx0 := cell_regrown x0
              have kx1 := cell_regrown x1
              refine wp_region_quiet_below (by kernel_rfl) (by kernel_rfl) ?_
              repeat (go_big_quiet_step (first
                | (go_at_call 13; exact rg_of fun w' h => kn_at _ _ _ _ _ (by first | exact HX.out | exact KX.out | exact TX.out))))
              refine wpQuiet_nil ?_
              intro _ hw'
              obtain ⟨⟨dq, osq⟩, hw''⟩ := hw'
              subst hw''
              have B9 := bstep BB (below_regrown w23 dq osq)
              go_wp2
              go_ret
              exact ⟨rfl, B9⟩
            ·
              have hd : decide (x ≤ q + 1) = false := by simpa using hxq
              go_wp2_with fail
              refine (kn_at f n q true _ KQ.out).mono ?_
              rintro e w21 ⟨rfl, hb21⟩
              have r0 := keep1 hb21 (r0)
              have r1 := keep1 hb21 (r1)
              have t0 := keep1 hb21 (t0)
              have t1 := keep1 hb21 (t1)
              have x0 := keep1 hb21 (x0)
              have x1 := keep1 hb21 (x1)
              have BB := bstep BB hb21
              go_wp2_with fail
              refine (kn_at g m q true _ TQ.out).mono ?_
              rintro e w22 ⟨rfl, hb22⟩
              have r0 := keep1 hb22 (r0)
              have r1 := keep1 hb22 (r1)
              have t0 := keep1 hb22 (t0)
              have t1 := keep1 hb22 (t1)
              have x0 := keep1 hb22 (x0)
              have x1 := keep1 hb22 (x1)
              have BB := bstep BB hb22
              go_wp2_with fail
              refine (kn_at g m (q + 2) true _ T2.out).mono ?_
              rintro e w23 ⟨rfl, hb23⟩
              have r0 := keep1 hb23 (r0)
              have r1 := keep1 hb23 (r1)
              have t0 := keep1 hb23 (t0)
              have t1 := keep1 hb23 (t1)
              have x0 := keep1 hb23 (x0)
              have x1 := keep1 hb23 (x1)
              have BB := bstep BB hb23
              go_wp2_with fail
              have kr0 := cell_regrown r0
              have kr1 := cell_regrown r1
              have kt0 := cell_regrown t0
              have kt1 := cell_regrown t1
              have kx0 := cell_regrown x0
              have kx1 := cell_regrown x1
              refine wp_region_quiet_below (by kernel_rfl) (by kernel_rfl) ?_
              repeat (go_big_quiet_step (first
                | (go_at_call 13; exact rg_of fun w' h => kn_at _ _ _ _ _ (by first | exact HX.out | exact KX.out | exact TX.out))))
              refine wpQuiet_nil ?_
              intro _ hw'
              obtain ⟨⟨dq, osq⟩, hw''⟩ := hw'
              subst hw''
              have B9 := bstep BB (below_regrown w23 dq osq)
              go_wp2
              go_ret
              exact ⟨rfl, B9⟩
end Go.Proofs.Ytckcijoadbbdaaa
