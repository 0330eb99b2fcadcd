/- Proved: that the law KeyringAging returns true for every input. Conditions: the numbers fit their types. -/
import Derived.Test.YtckcijoadbbdaaaK3
namespace Go.Proofs.Ytckcijoadbbdaaa
open Go.RowKit Go.Sort Go.BigFrame
set_option linter.unusedVariables false
set_option linter.unusedSimpArgs false
attribute [local go_sem] cell_alloc_old

theorem validR_iff' {f n : Int} : validR f n = true ↔ (f = 0 ∧ n = 0) ∨ (0 ≤ f ∧ f ≤ 500000 ∧ f + 1 ≤ n ∧ n ≤ 500002) := by
  simp only [validR, Bool.or_eq_true, decide_eq_true_eq]
theorem knowsR_iff' {f n e : Int} : knowsR f n e = true ↔ 0 ≤ f ∧ f ≤ 500000 ∧ f + 1 ≤ n ∧ n ≤ 500002 ∧ f ≤ e ∧ e < n := by
  simp only [knowsR, Bool.and_eq_true, decide_eq_true_eq, validR_iff']; omega
theorem bool_ext' {a b : Bool} (h : a = true ↔ b = true) : a = b := by
  cases a <;> cases b <;> simp_all
theorem ageK_iff {f n a : Int} : ageK f n a = true ↔ (slotN a = false ∨ validR f n = false ∨ epV a ≤ f) := by
  simp only [ageK, Bool.or_eq_true, Bool.not_eq_true', decide_eq_true_eq]
/-- Aging again, or in an earlier slot, changes nothing. -/
theorem age_again {f n a b : Int} (h0 : 0 ≤ a) (h1 : a ≤ 999999999) (hb0 : 0 ≤ b) (hb1 : b ≤ a) :
    ageF (ageF f n a) (ageN f n a) b = ageF f n a ∧ ageN (ageF f n a) (ageN f n a) b = ageN f n a := by
  have sa : slotN a = true := by simp [slotN]; omega
  have sb : slotN b = true := by simp [slotN]; omega
  have ea : epV a = a / 2000 := by simp [epV, sa]
  have eb : epV b = b / 2000 := by simp [epV, sb]
  have hab : b / 2000 ≤ a / 2000 := by omega
  have hb2 : 0 ≤ b / 2000 := by omega
  by_cases hk : ageK f n a = true
  · have e1 : ageF f n a = f := by unfold ageF; rw [if_pos hk]
    have e2 : ageN f n a = n := by unfold ageN; rw [if_pos hk]
    rw [e1, e2]
    have hk2 : ageK f n b = true := by
      rw [ageK_iff] at hk ⊢
      rcases hk with h | h | h
      · rw [sa] at h; cases h
      · exact .inr (.inl h)
      · right; right; omega
    exact ⟨by unfold ageF; rw [if_pos hk2], by unfold ageN; rw [if_pos hk2]⟩
  · have hk' := hk
    rw [ageK_iff] at hk'
    have hv : validR f n = true := by cases h : validR f n <;> simp_all
    have hfe : ¬ epV a ≤ f := fun h => hk' (.inr (.inr h))
    have hv2 := validR_iff'.1 hv
    by_cases hn : n ≤ epV a
    · have e1 : ageF f n a = 0 := by unfold ageF; rw [if_neg hk, if_pos hn]
      have e2 : ageN f n a = 0 := by unfold ageN; rw [if_neg hk, if_pos hn]
      rw [e1, e2]
      by_cases hz : epV b ≤ 0
      · have hk2 : ageK 0 0 b = true := ageK_iff.2 (.inr (.inr hz))
        exact ⟨by unfold ageF; rw [if_pos hk2], by unfold ageN; rw [if_pos hk2]⟩
      · have hk2 : ¬ ageK 0 0 b = true := by rw [ageK_iff]; intro h; rcases h with h | h | h; (rw [sb] at h; cases h); (revert h; decide); exact hz h
        have hz2 : (0 : Int) ≤ epV b := by omega
        exact ⟨by unfold ageF; rw [if_neg hk2, if_pos hz2], by unfold ageN; rw [if_neg hk2, if_pos hz2]⟩
    · have e1 : ageF f n a = epV a := by unfold ageF; rw [if_neg hk, if_neg hn]
      have e2 : ageN f n a = n := by unfold ageN; rw [if_neg hk, if_neg hn]
      rw [e1, e2]
      have hk2 : ageK (epV a) n b = true := ageK_iff.2 (.inr (.inr (by omega)))
      exact ⟨by unfold ageF; rw [if_pos hk2], by unfold ageN; rw [if_pos hk2]⟩
/-- What a node knows after it has aged. -/
theorem age_law {f n a : Int} (x : Int) (h0 : 0 ≤ a) (h1 : a ≤ 999999999) :
    knowsR (ageF f n a) (ageN f n a) x = (knowsR f n x && decide (epV a ≤ x)) := by
  have sa : slotN a = true := by simp [slotN]; omega
  have ea : epV a = a / 2000 := by simp [epV, sa]
  by_cases hk : ageK f n a = true
  · have e1 : ageF f n a = f := by unfold ageF; rw [if_pos hk]
    have e2 : ageN f n a = n := by unfold ageN; rw [if_pos hk]
    rw [e1, e2]
    rw [ageK_iff] at hk
    rcases hk with h | h | h
    · rw [sa] at h; cases h
    · simp [knowsR, h]
    · refine bool_ext' ?_
      simp only [Bool.and_eq_true, decide_eq_true_eq, knowsR_iff']; omega
  · have hk' := hk
    rw [ageK_iff] at hk'
    have hv : validR f n = true := by cases h : validR f n <;> simp_all
    have hfe : ¬ epV a ≤ f := fun h => hk' (.inr (.inr h))
    have hv2 := validR_iff'.1 hv
    refine bool_ext' ?_
    by_cases hn : n ≤ epV a
    · have e1 : ageF f n a = 0 := by unfold ageF; rw [if_neg hk, if_pos hn]
      have e2 : ageN f n a = 0 := by unfold ageN; rw [if_neg hk, if_pos hn]
      rw [e1, e2]
      simp only [Bool.and_eq_true, decide_eq_true_eq, knowsR_iff']; omega
    · have e1 : ageF f n a = epV a := by unfold ageF; rw [if_neg hk, if_neg hn]
      have e2 : ageN f n a = n := by unfold ageN; rw [if_neg hk, if_neg hn]
      rw [e1, e2]
      simp only [Bool.and_eq_true, decide_eq_true_eq, knowsR_iff']; omega

set_option maxRecDepth 100000 in
set_option maxHeartbeats 4000000 in
theorem lawAging (f n s u x : Int) (w : World) (h0 : 0 ≤ s) (h1 : s ≤ 4294967295) (u0 : 0 ≤ u) (u1 : u ≤ 4294967295) :
    Calls Try.prog 8 #[.agg #[.int .i64 f, .int .i64 n], .int .u32 s, .int .u32 u, .int .i64 x] w fun e w' => e = .returned (.bool true) ∧ Below w.heap.size w w' := by
  obtain ⟨a, ha⟩ : ∃ a, s % 999996000 = a := ⟨_, rfl⟩
  have a0 : 0 ≤ a := by omega
  have a1 : a < 999996000 := by omega
  obtain ⟨q, hq⟩ : ∃ q, q = a / 2000 := ⟨_, rfl⟩
  have q0 : 0 ≤ q := by omega
  have q1 : q ≤ 499998 := by omega
  have hE1 : epV a = q := by rw [epV_in a0 (by omega)]; omega
  have E1 : Hid (epV a = q) := Lib.hid hE1
  have E2 : Hid (epE a = 0) := Lib.hid (epE_in a0 (by omega))
  obtain ⟨b, hb⟩ : ∃ b, u.tmod (a + 1) = b := ⟨_, rfl⟩
  have hb' := hb
  rw [Int.tmod_eq_emod_of_nonneg u0] at hb'
  have b0 : 0 ≤ b := by rw [← hb']; exact Int.emod_nonneg _ (by omega)
  have b1 : b ≤ a := by have := Int.emod_lt_of_pos u (b := a + 1) (by omega); omega
  obtain ⟨p1, p2⟩ := age_again (f := f) (n := n) a0 (by omega) a0 (Int.le_refl a)
  obtain ⟨p3, p4⟩ := age_again (f := f) (n := n) a0 (by omega) b0 b1
  have l1 := age_law (f := f) (n := n) x a0 (by omega)
  obtain ⟨F, hF⟩ : ∃ F, ageF f n a = F := ⟨_, rfl⟩
  obtain ⟨N, hN⟩ : ∃ N, ageN f n a = N := ⟨_, rfl⟩
  rw [hF, hN] at l1 p1 p2 p3 p4
  rw [hE1] at l1
  have HA := Lib.hid ha; have HB := Lib.hid hb'; have HF := Lib.hid hF; have HN := Lib.hid hN
  have P1 := Lib.hid p1; have P2 := Lib.hid p2; have P3 := Lib.hid p3; have P4 := Lib.hid p4
  clear ha hq hF hN hE1 p1 p2 p3 p4 hb'
  obtain ⟨kx, hkx⟩ : ∃ b, knowsR f n x = b := ⟨_, rfl⟩
  obtain ⟨X, hX⟩ : ∃ b, knowsR F N x = b := ⟨_, rfl⟩
  rw [hkx, hX] at l1
  have KX := Lib.hid hkx; have HX := Lib.hid hX; have L1 := Lib.hid l1
  clear hkx hX l1
  have hne : ¬ a + 1 = 0 := by omega
  cases kx
  ·
    obtain rfl : X = false := by have h := L1.out; simpa using h
    go_enter Try.func8, Try.ntmps8
    go_wp2_with fail
    refine (head_any _).mono ?_
    rintro e w1 ⟨rfl, hb1⟩
    have r0 : w1.cell? ⟨w.heap.size, 0, none⟩ = some (.int .i64 f) := keep1 hb1 (by simp)
    have r1 : w1.cell? ⟨w.heap.size, 1, none⟩ = some (.int .i64 n) := keep1 hb1 (by simp)
    have BB := bstep (ball (Below.refl w.heap.size w) _) hb1
    go_wp2_with fail
    refine (slot_at s a _ h0 h1 HA.out).mono ?_
    rintro e w2 ⟨rfl, hb2⟩
    have r0 := keep1 hb2 (r0)
    have r1 := keep1 hb2 (r1)
    have BB := bstep BB hb2
    go_wp2_with fail
    refine (ep_at a q 0 _ E1.out E2.out).mono ?_
    rintro e w3 ⟨rfl, hb3⟩
    have r0 := keep1 hb3 (r0)
    have r1 := keep1 hb3 (r1)
    have BB := bstep BB hb3
    go_wp2_with fail
    refine (age_at f n a F N _ HF.out HN.out).mono ?_
    rintro e w4 ⟨rfl, hb4⟩
    have r0 := keep1 hb4 (r0)
    have r1 := keep1 hb4 (r1)
    have BB := bstep BB hb4
    go_wp2_with fail
    obtain ⟨W, hW⟩ : ∃ W, W = (w4.alloc (.cells #[.int .i64 F, .int .i64 N] 23)) := ⟨_, rfl⟩
    replace r0 := (old1 r0 (.cells #[.int .i64 F, .int .i64 N] 23))
    rw [← hW] at r0
    replace r1 := (old1 r1 (.cells #[.int .i64 F, .int .i64 N] 23))
    rw [← hW] at r1
    have z0 : W.cell? ⟨w4.heap.size, 0, none⟩ = some (.int .i64 F) := by rw [hW]; exact by simp
    have z1 : W.cell? ⟨w4.heap.size, 1, none⟩ = some (.int .i64 N) := by rw [hW]; exact by simp
    have BB := (ball BB (.cells #[.int .i64 F, .int .i64 N] 23))
    rw [← hW] at BB ⊢
    clear hW
    have p1 := P1.out; have p2 := P2.out; have p3 := P3.out; have p4 := P4.out
    have kr0 := cell_regrown r0
    have kr1 := cell_regrown r1
    have kz0 := cell_regrown z0
    have kz1 := cell_regrown z1
    refine wp_region_quiet_below (by kernel_rfl) (by kernel_rfl) ?_
    repeat (go_big_quiet_step (first
      | (go_at_call 19; exact rg_of fun w' h => age_any _ _ _ _)))
    refine wpQuiet_nil ?_
    intro _ hw'
    obtain ⟨⟨dq, osq⟩, hw''⟩ := hw'
    subst hw''
    have hbq := below_regrown W dq osq
    have r0 := keep1 hbq r0
    have r1 := keep1 hbq r1
    have z0 := keep1 hbq z0
    have z1 := keep1 hbq z1
    clear kr0 kr1 kz0 kz1
    have BB := bstep BB hbq
    clear p1 p2 p3 p4
    go_wp2_with fail
    obtain ⟨V, hV⟩ : ∃ V, V = grow (redrawn W dq) osq := ⟨_, rfl⟩
    rw [← hV] at r0
    rw [← hV] at r1
    rw [← hV] at z0
    rw [← hV] at z1
    rw [← hV] at BB ⊢
    clear hV hbq
    have kr0 := cell_regrown r0
    have kr1 := cell_regrown r1
    have kz0 := cell_regrown z0
    have kz1 := cell_regrown z1
    refine wp_region_quiet_below (by kernel_rfl) (by kernel_rfl) ?_
    repeat (go_big_quiet_step (first
      | (go_at_call 13; exact rg_of fun w' h => kn_at _ _ _ _ _ (by first | exact HX.out | exact KX.out))))
    refine wpQuiet_nil ?_
    intro _ hw'
    obtain ⟨⟨dq, osq⟩, hw''⟩ := hw'
    subst hw''
    have B9 := bstep BB (below_regrown V dq osq)
    go_wp2
    go_ret
    exact ⟨rfl, B9⟩
  ·
    obtain rfl : X = decide (q ≤ x) := by have h := L1.out; simpa using h
    go_enter Try.func8, Try.ntmps8
    go_wp2_with fail
    refine (head_any _).mono ?_
    rintro e w1 ⟨rfl, hb1⟩
    have r0 : w1.cell? ⟨w.heap.size, 0, none⟩ = some (.int .i64 f) := keep1 hb1 (by simp)
    have r1 : w1.cell? ⟨w.heap.size, 1, none⟩ = some (.int .i64 n) := keep1 hb1 (by simp)
    have BB := bstep (ball (Below.refl w.heap.size w) _) hb1
    go_wp2_with fail
    refine (slot_at s a _ h0 h1 HA.out).mono ?_
    rintro e w2 ⟨rfl, hb2⟩
    have r0 := keep1 hb2 (r0)
    have r1 := keep1 hb2 (r1)
    have BB := bstep BB hb2
    go_wp2_with fail
    refine (ep_at a q 0 _ E1.out E2.out).mono ?_
    rintro e w3 ⟨rfl, hb3⟩
    have r0 := keep1 hb3 (r0)
    have r1 := keep1 hb3 (r1)
    have BB := bstep BB hb3
    go_wp2_with fail
    refine (age_at f n a F N _ HF.out HN.out).mono ?_
    rintro e w4 ⟨rfl, hb4⟩
    have r0 := keep1 hb4 (r0)
    have r1 := keep1 hb4 (r1)
    have BB := bstep BB hb4
    go_wp2_with fail
    obtain ⟨W, hW⟩ : ∃ W, W = (w4.alloc (.cells #[.int .i64 F, .int .i64 N] 23)) := ⟨_, rfl⟩
    replace r0 := (old1 r0 (.cells #[.int .i64 F, .int .i64 N] 23))
    rw [← hW] at r0
    replace r1 := (old1 r1 (.cells #[.int .i64 F, .int .i64 N] 23))
    rw [← hW] at r1
    have z0 : W.cell? ⟨w4.heap.size, 0, none⟩ = some (.int .i64 F) := by rw [hW]; exact by simp
    have z1 : W.cell? ⟨w4.heap.size, 1, none⟩ = some (.int .i64 N) := by rw [hW]; exact by simp
    have BB := (ball BB (.cells #[.int .i64 F, .int .i64 N] 23))
    rw [← hW] at BB ⊢
    clear hW
    have p1 := P1.out; have p2 := P2.out; have p3 := P3.out; have p4 := P4.out
    have kr0 := cell_regrown r0
    have kr1 := cell_regrown r1
    have kz0 := cell_regrown z0
    have kz1 := cell_regrown z1
    refine wp_region_quiet_below (by kernel_rfl) (by kernel_rfl) ?_
    repeat (go_big_quiet_step (first
      | (go_at_call 19; exact rg_of fun w' h => age_any _ _ _ _)))
    refine wpQuiet_nil ?_
    intro _ hw'
    obtain ⟨⟨dq, osq⟩, hw''⟩ := hw'
    subst hw''
    have hbq := below_regrown W dq osq
    have r0 := keep1 hbq r0
    have r1 := keep1 hbq r1
    have z0 := keep1 hbq z0
    have z1 := keep1 hbq z1
    clear kr0 kr1 kz0 kz1
    have BB := bstep BB hbq
    clear p1 p2 p3 p4
    go_wp2_with fail
    obtain ⟨V, hV⟩ : ∃ V, V = grow (redrawn W dq) osq := ⟨_, rfl⟩
    rw [← hV] at r0
    rw [← hV] at r1
    rw [← hV] at z0
    rw [← hV] at z1
    rw [← hV] at BB ⊢
    clear hV hbq
    have kr0 := cell_regrown r0
    have kr1 := cell_regrown r1
    have kz0 := cell_regrown z0
    have kz1 := cell_regrown z1
    refine wp_region_quiet_below (by kernel_rfl) (by kernel_rfl) ?_
    repeat (go_big_quiet_step (first
      | (go_at_call 13; exact rg_of fun w' h => kn_at _ _ _ _ _ (by first | exact HX.out | exact KX.out))))
    refine wpQuiet_nil ?_
    intro _ hw'
    obtain ⟨⟨dq, osq⟩, hw''⟩ := hw'
    subst hw''
    have B9 := bstep BB (below_regrown V dq osq)
    go_wp2
    go_ret
    exact ⟨rfl, B9⟩
end Go.Proofs.Ytckcijoadbbdaaa
