/- Proved: what isValid of package trickle and Valid of its reference return. Conditions: none. -/
import Derived.Test.YteeajkopigdblaaDoorW1
namespace Go.Proofs.YteeajkopigdblaaDoor
open Go.RowKit Go.Sort Go.BigFrame Go.Proofs.YteeajkopigdblaaDoor.K
set_option linter.unusedVariables false
set_option linter.unusedSimpArgs false
attribute [local go_sem] cell_alloc_old

theorem and_len {i : Int} (h1 : 1 ≤ i) (h8 : i ≤ 8) : (bits .and .i64 i (i - 1) != 0) = !lenB i := by
  rcases (by omega : i = 1 ∨ i = 2 ∨ i = 3 ∨ i = 4 ∨ i = 5 ∨ i = 6 ∨ i = 7 ∨ i = 8) with h | h | h | h | h | h | h | h <;> subst h <;> decide +kernel
theorem len_in {i : Int} (h : lenB i = true) : 1 ≤ i ∧ i ≤ 8 := by
  simp [lenB] at h; omega
theorem fire_eq (i b f c s : Int) : fireB ⟨i, b, f, c, s⟩ = (decide (b + i / 2 ≤ f) && decide (f ≤ b + i - 1)) := rfl

set_option maxRecDepth 100000 in
theorem valid_A (i b f c s : Int) (w : World) (HA : Hid ((decide (1 ≤ i) && decide (i ≤ 8)) = false)) : Calls Tryd.prog 23 #[.agg #[.int .i64 i, .int .i64 b, .int .i64 f, .int .i64 c, .int .i64 s]] w fun e w' => e = .returned (.bool false) ∧ Below w.heap.size w w' := by
  go_enter Tryd.func23, Tryd.ntmps23
  go_wp2_with fail
  refine (in_at _ _ _ _ _ HA.out).mono ?_
  rintro e w1 ⟨rfl, rfl⟩
  go_wp2_with fail
  go_ret
  exact ⟨rfl, ball (Below.refl _ _) _⟩
set_option maxRecDepth 100000 in
theorem valid_L (i b f c s : Int) (w : World) (HA : Hid ((decide (1 ≤ i) && decide (i ≤ 8)) = true)) (i1 : 1 ≤ i) (i8 : i ≤ 8) (hB : (bits .and .i64 i (i - 1) != 0) = true) : Calls Tryd.prog 23 #[.agg #[.int .i64 i, .int .i64 b, .int .i64 f, .int .i64 c, .int .i64 s]] w fun e w' => e = .returned (.bool false) ∧ Below w.heap.size w w' := by
  go_enter Tryd.func23, Tryd.ntmps23
  go_wp2_with fail
  refine (in_at _ _ _ _ _ HA.out).mono ?_
  rintro e w1 ⟨rfl, rfl⟩
  go_wp2_with fail
  go_ret
  exact ⟨rfl, ball (Below.refl _ _) _⟩
set_option maxRecDepth 100000 in
theorem valid_C (i b f c s : Int) (w : World) (HA : Hid ((decide (1 ≤ i) && decide (i ≤ 8)) = true)) (i1 : 1 ≤ i) (i8 : i ≤ 8) (hB : (bits .and .i64 i (i - 1) != 0) = false) (HC : Hid (frameB b = false)) : Calls Tryd.prog 23 #[.agg #[.int .i64 i, .int .i64 b, .int .i64 f, .int .i64 c, .int .i64 s]] w fun e w' => e = .returned (.bool false) ∧ Below w.heap.size w w' := by
  go_enter Tryd.func23, Tryd.ntmps23
  go_wp2_with fail
  refine (in_at _ _ _ _ _ HA.out).mono ?_
  rintro e w1 ⟨rfl, rfl⟩
  go_wp2_with fail
  refine (frame_at _ _ _ HC.out).mono ?_
  rintro e w2 ⟨rfl, rfl⟩
  go_wp2_with fail
  go_ret
  exact ⟨rfl, ball (Below.refl _ _) _⟩
set_option maxRecDepth 100000 in
theorem valid_D (i b f c s : Int) (w : World) (HA : Hid ((decide (1 ≤ i) && decide (i ≤ 8)) = true)) (i1 : 1 ≤ i) (i8 : i ≤ 8) (hB : (bits .and .i64 i (i - 1) != 0) = false) (HC : Hid (frameB b = true)) (HD : Hid (seedB s = false)) : Calls Tryd.prog 23 #[.agg #[.int .i64 i, .int .i64 b, .int .i64 f, .int .i64 c, .int .i64 s]] w fun e w' => e = .returned (.bool false) ∧ Below w.heap.size w w' := by
  go_enter Tryd.func23, Tryd.ntmps23
  go_wp2_with fail
  refine (in_at _ _ _ _ _ HA.out).mono ?_
  rintro e w1 ⟨rfl, rfl⟩
  go_wp2_with fail
  refine (frame_at _ _ _ HC.out).mono ?_
  rintro e w2 ⟨rfl, rfl⟩
  go_wp2_with fail
  refine (seed_at _ _ _ HD.out).mono ?_
  rintro e w3 ⟨rfl, rfl⟩
  go_wp2_with fail
  go_ret
  exact ⟨rfl, ball (Below.refl _ _) _⟩
set_option maxRecDepth 100000 in
theorem valid_E (i b f c s : Int) (w : World) (HA : Hid ((decide (1 ≤ i) && decide (i ≤ 8)) = true)) (i1 : 1 ≤ i) (i8 : i ≤ 8) (hB : (bits .and .i64 i (i - 1) != 0) = false) (HC : Hid (frameB b = true)) (HD : Hid (seedB s = true)) (b0 : 0 ≤ b) (b1 : b ≤ 999999984) (HE : Hid ((decide (b + i / 2 ≤ f) && decide (f ≤ b + i - 1)) = false)) : Calls Tryd.prog 23 #[.agg #[.int .i64 i, .int .i64 b, .int .i64 f, .int .i64 c, .int .i64 s]] w fun e w' => e = .returned (.bool false) ∧ Below w.heap.size w w' := by
  go_enter Tryd.func23, Tryd.ntmps23
  go_wp2_with fail
  refine (in_at _ _ _ _ _ HA.out).mono ?_
  rintro e w1 ⟨rfl, rfl⟩
  go_wp2_with fail
  refine (frame_at _ _ _ HC.out).mono ?_
  rintro e w2 ⟨rfl, rfl⟩
  go_wp2_with fail
  refine (seed_at _ _ _ HD.out).mono ?_
  rintro e w3 ⟨rfl, rfl⟩
  go_wp2_with fail
  refine (in_at _ _ _ _ _ HE.out).mono ?_
  rintro e w4 ⟨rfl, rfl⟩
  go_wp2_with fail
  go_ret
  exact ⟨rfl, ball (Below.refl _ _) _⟩
set_option maxRecDepth 100000 in
theorem valid_F (i b f c s : Int) (w : World) (y : Bool) (HA : Hid ((decide (1 ≤ i) && decide (i ≤ 8)) = true)) (i1 : 1 ≤ i) (i8 : i ≤ 8) (hB : (bits .and .i64 i (i - 1) != 0) = false) (HC : Hid (frameB b = true)) (HD : Hid (seedB s = true)) (b0 : 0 ≤ b) (b1 : b ≤ 999999984) (HE : Hid ((decide (b + i / 2 ≤ f) && decide (f ≤ b + i - 1)) = true)) (HF : Hid ((decide (0 ≤ c) && decide (c ≤ 100)) = y)) : Calls Tryd.prog 23 #[.agg #[.int .i64 i, .int .i64 b, .int .i64 f, .int .i64 c, .int .i64 s]] w fun e w' => e = .returned (.bool y) ∧ Below w.heap.size w w' := by
  go_enter Tryd.func23, Tryd.ntmps23
  go_wp2_with fail
  refine (in_at _ _ _ _ _ HA.out).mono ?_
  rintro e w1 ⟨rfl, rfl⟩
  go_wp2_with fail
  refine (frame_at _ _ _ HC.out).mono ?_
  rintro e w2 ⟨rfl, rfl⟩
  go_wp2_with fail
  refine (seed_at _ _ _ HD.out).mono ?_
  rintro e w3 ⟨rfl, rfl⟩
  go_wp2_with fail
  refine (in_at _ _ _ _ _ HE.out).mono ?_
  rintro e w4 ⟨rfl, rfl⟩
  go_wp2_with fail
  refine (in_at _ _ _ _ _ HF.out).mono ?_
  rintro e w5 ⟨rfl, rfl⟩
  go_wp2_with fail
  go_ret
  exact ⟨rfl, ball (Below.refl _ _) _⟩
theorem valid_any (t : Tk) (w : World) : Calls Tryd.prog 23 #[t.v] w fun e w' => e = .returned (.bool (validT t)) ∧ Below w.heap.size w w' := by
  obtain ⟨i, b, f, c, s⟩ := t
  by_cases hA : 1 ≤ i ∧ i ≤ 8
  · obtain ⟨i1, i8⟩ := hA
    have hB := and_len i1 i8
    have HA := Lib.hid (show (decide (1 ≤ i) && decide (i ≤ 8)) = true by simp; omega)
    cases hL : lenB i
    · rw [show validT ⟨i, b, f, c, s⟩ = false by simp [validT, hL]]
      exact valid_L i b f c s w HA i1 i8 (by rw [hB, hL]; rfl)
    · have hB' : (bits .and .i64 i (i - 1) != 0) = false := by rw [hB, hL]; rfl
      cases hC : frameB b
      · rw [show validT ⟨i, b, f, c, s⟩ = false by simp [validT, hC]]
        exact valid_C i b f c s w HA i1 i8 hB' (Lib.hid hC)
      · obtain ⟨b0, b1⟩ := frameB_iff.1 hC
        cases hD : seedB s
        · rw [show validT ⟨i, b, f, c, s⟩ = false by simp [validT, hD]]
          exact valid_D i b f c s w HA i1 i8 hB' (Lib.hid hC) (Lib.hid hD)
        · cases hE : fireB ⟨i, b, f, c, s⟩
          · rw [show validT ⟨i, b, f, c, s⟩ = false by simp [validT, hE]]
            rw [fire_eq] at hE
            exact valid_E i b f c s w HA i1 i8 hB' (Lib.hid hC) (Lib.hid hD) b0 b1 (Lib.hid hE)
          · rw [show validT ⟨i, b, f, c, s⟩ = countB c by simp [validT, hL, hC, hD, hE]]
            rw [fire_eq] at hE
            exact valid_F i b f c s w _ HA i1 i8 hB' (Lib.hid hC) (Lib.hid hD) b0 b1 (Lib.hid hE) (Lib.hid rfl)
  · have hL : lenB i = false := by
      cases hL : lenB i
      · rfl
      · exact absurd (len_in hL) hA
    rw [show validT ⟨i, b, f, c, s⟩ = false by simp [validT, hL]]
    exact valid_A i b f c s w (Lib.hid (by simp; omega))
theorem valid_at (t : Tk) (y : Bool) (w : World) (hy : validT t = y) : Calls Tryd.prog 23 #[t.v] w fun e w' => e = .returned (.bool y) ∧ Below w.heap.size w w' := by
  rw [← hy]; exact valid_any t w


set_option maxRecDepth 100000 in
set_option maxHeartbeats 1000000 in
theorem rvalid_1 (b f c s : Int) (w : World) (hC : frameB b = true) (b0 : 0 ≤ b) (b1 : b ≤ 999999984) (HF : Hid (∀ y, (decide (0 ≤ s) && decide (s ≤ 1000000000) && (decide (0 ≤ c) && decide (c ≤ 100)) && (decide (b + 1 / 2 ≤ f) && decide (f ≤ b + 1 - 1))) = y → validT ⟨1, b, f, c, s⟩ = y)) :
    Calls Tryd.prog 13 #[.agg #[.int .i64 1, .int .i64 b, .int .i64 f, .int .i64 c, .int .i64 s]] w fun e w' => e = .returned (.bool (validT ⟨1, b, f, c, s⟩)) ∧ Below w.heap.size w w' := by
  by_cases h1 : s < 0
  · rw [HF.out false (by simp; omega)]
    go_enter Tryd.func13, Tryd.ntmps13
    go_wp2_with fail
    refine (rframe_at _ _ _ hC).mono ?_
    rintro e w1 ⟨rfl, rfl⟩
    go_wp2_with fail
    go_ret
    exact ⟨rfl, ball (Below.refl _ _) _⟩
  by_cases h2 : 1000000000 < s
  · rw [HF.out false (by simp; omega)]
    go_enter Tryd.func13, Tryd.ntmps13
    go_wp2_with fail
    refine (rframe_at _ _ _ hC).mono ?_
    rintro e w1 ⟨rfl, rfl⟩
    go_wp2_with fail
    go_ret
    exact ⟨rfl, ball (Below.refl _ _) _⟩
  by_cases h3 : c < 0
  · rw [HF.out false (by simp; omega)]
    go_enter Tryd.func13, Tryd.ntmps13
    go_wp2_with fail
    refine (rframe_at _ _ _ hC).mono ?_
    rintro e w1 ⟨rfl, rfl⟩
    go_wp2_with fail
    go_ret
    exact ⟨rfl, ball (Below.refl _ _) _⟩
  by_cases h4 : 100 < c
  · rw [HF.out false (by simp; omega)]
    go_enter Tryd.func13, Tryd.ntmps13
    go_wp2_with fail
    refine (rframe_at _ _ _ hC).mono ?_
    rintro e w1 ⟨rfl, rfl⟩
    go_wp2_with fail
    go_ret
    exact ⟨rfl, ball (Below.refl _ _) _⟩
  have hb : ∀ y, (decide (b + 1 / 2 ≤ f) && decide (f ≤ b + 1 - 1)) = y → validT ⟨1, b, f, c, s⟩ = y := fun y hy => HF.out y (by rw [← hy]; simp [show 0 ≤ s by omega, show s ≤ 1000000000 by omega, show 0 ≤ c by omega, show c ≤ 100 by omega])
  have HB := Lib.hid hb; clear hb HF
  obtain ⟨z, hz⟩ : ∃ z, (decide (b + 1 / 2 ≤ f) && decide (f ≤ b + 1 - 1)) = z := ⟨_, rfl⟩
  rw [HB.out z hz]
  have HZ := Lib.hid hz; clear hz HB
  go_enter Tryd.func13, Tryd.ntmps13
  go_wp2_with fail
  refine (rframe_at _ _ _ hC).mono ?_
  rintro e w1 ⟨rfl, rfl⟩
  go_wp2_with fail
  all_goals
    go_ret
    exact ⟨by rw [← HZ.out]; congr 2; simp <;> omega, ball (Below.refl _ _) _⟩

set_option maxRecDepth 100000 in
set_option maxHeartbeats 1000000 in
theorem rvalid_2 (b f c s : Int) (w : World) (hC : frameB b = true) (b0 : 0 ≤ b) (b1 : b ≤ 999999984) (HF : Hid (∀ y, (decide (0 ≤ s) && decide (s ≤ 1000000000) && (decide (0 ≤ c) && decide (c ≤ 100)) && (decide (b + 2 / 2 ≤ f) && decide (f ≤ b + 2 - 1))) = y → validT ⟨2, b, f, c, s⟩ = y)) :
    Calls Tryd.prog 13 #[.agg #[.int .i64 2, .int .i64 b, .int .i64 f, .int .i64 c, .int .i64 s]] w fun e w' => e = .returned (.bool (validT ⟨2, b, f, c, s⟩)) ∧ Below w.heap.size w w' := by
  by_cases h1 : s < 0
  · rw [HF.out false (by simp; omega)]
    go_enter Tryd.func13, Tryd.ntmps13
    go_wp2_with fail
    refine (rframe_at _ _ _ hC).mono ?_
    rintro e w1 ⟨rfl, rfl⟩
    go_wp2_with fail
    go_ret
    exact ⟨rfl, ball (Below.refl _ _) _⟩
  by_cases h2 : 1000000000 < s
  · rw [HF.out false (by simp; omega)]
    go_enter Tryd.func13, Tryd.ntmps13
    go_wp2_with fail
    refine (rframe_at _ _ _ hC).mono ?_
    rintro e w1 ⟨rfl, rfl⟩
    go_wp2_with fail
    go_ret
    exact ⟨rfl, ball (Below.refl _ _) _⟩
  by_cases h3 : c < 0
  · rw [HF.out false (by simp; omega)]
    go_enter Tryd.func13, Tryd.ntmps13
    go_wp2_with fail
    refine (rframe_at _ _ _ hC).mono ?_
    rintro e w1 ⟨rfl, rfl⟩
    go_wp2_with fail
    go_ret
    exact ⟨rfl, ball (Below.refl _ _) _⟩
  by_cases h4 : 100 < c
  · rw [HF.out false (by simp; omega)]
    go_enter Tryd.func13, Tryd.ntmps13
    go_wp2_with fail
    refine (rframe_at _ _ _ hC).mono ?_
    rintro e w1 ⟨rfl, rfl⟩
    go_wp2_with fail
    go_ret
    exact ⟨rfl, ball (Below.refl _ _) _⟩
  have hb : ∀ y, (decide (b + 2 / 2 ≤ f) && decide (f ≤ b + 2 - 1)) = y → validT ⟨2, b, f, c, s⟩ = y := fun y hy => HF.out y (by rw [← hy]; simp [show 0 ≤ s by omega, show s ≤ 1000000000 by omega, show 0 ≤ c by omega, show c ≤ 100 by omega])
  have HB := Lib.hid hb; clear hb HF
  obtain ⟨z, hz⟩ : ∃ z, (decide (b + 2 / 2 ≤ f) && decide (f ≤ b + 2 - 1)) = z := ⟨_, rfl⟩
  rw [HB.out z hz]
  have HZ := Lib.hid hz; clear hz HB
  go_enter Tryd.func13, Tryd.ntmps13
  go_wp2_with fail
  refine (rframe_at _ _ _ hC).mono ?_
  rintro e w1 ⟨rfl, rfl⟩
  go_wp2_with fail
  all_goals
    go_ret
    exact ⟨by rw [← HZ.out]; congr 2; simp <;> omega, ball (Below.refl _ _) _⟩

set_option maxRecDepth 100000 in
set_option maxHeartbeats 1000000 in
theorem rvalid_4 (b f c s : Int) (w : World) (hC : frameB b = true) (b0 : 0 ≤ b) (b1 : b ≤ 999999984) (HF : Hid (∀ y, (decide (0 ≤ s) && decide (s ≤ 1000000000) && (decide (0 ≤ c) && decide (c ≤ 100)) && (decide (b + 4 / 2 ≤ f) && decide (f ≤ b + 4 - 1))) = y → validT ⟨4, b, f, c, s⟩ = y)) :
    Calls Tryd.prog 13 #[.agg #[.int .i64 4, .int .i64 b, .int .i64 f, .int .i64 c, .int .i64 s]] w fun e w' => e = .returned (.bool (validT ⟨4, b, f, c, s⟩)) ∧ Below w.heap.size w w' := by
  by_cases h1 : s < 0
  · rw [HF.out false (by simp; omega)]
    go_enter Tryd.func13, Tryd.ntmps13
    go_wp2_with fail
    refine (rframe_at _ _ _ hC).mono ?_
    rintro e w1 ⟨rfl, rfl⟩
    go_wp2_with fail
    go_ret
    exact ⟨rfl, ball (Below.refl _ _) _⟩
  by_cases h2 : 1000000000 < s
  · rw [HF.out false (by simp; omega)]
    go_enter Tryd.func13, Tryd.ntmps13
    go_wp2_with fail
    refine (rframe_at _ _ _ hC).mono ?_
    rintro e w1 ⟨rfl, rfl⟩
    go_wp2_with fail
    go_ret
    exact ⟨rfl, ball (Below.refl _ _) _⟩
  by_cases h3 : c < 0
  · rw [HF.out false (by simp; omega)]
    go_enter Tryd.func13, Tryd.ntmps13
    go_wp2_with fail
    refine (rframe_at _ _ _ hC).mono ?_
    rintro e w1 ⟨rfl, rfl⟩
    go_wp2_with fail
    go_ret
    exact ⟨rfl, ball (Below.refl _ _) _⟩
  by_cases h4 : 100 < c
  · rw [HF.out false (by simp; omega)]
    go_enter Tryd.func13, Tryd.ntmps13
    go_wp2_with fail
    refine (rframe_at _ _ _ hC).mono ?_
    rintro e w1 ⟨rfl, rfl⟩
    go_wp2_with fail
    go_ret
    exact ⟨rfl, ball (Below.refl _ _) _⟩
  have hb : ∀ y, (decide (b + 4 / 2 ≤ f) && decide (f ≤ b + 4 - 1)) = y → validT ⟨4, b, f, c, s⟩ = y := fun y hy => HF.out y (by rw [← hy]; simp [show 0 ≤ s by omega, show s ≤ 1000000000 by omega, show 0 ≤ c by omega, show c ≤ 100 by omega])
  have HB := Lib.hid hb; clear hb HF
  obtain ⟨z, hz⟩ : ∃ z, (decide (b + 4 / 2 ≤ f) && decide (f ≤ b + 4 - 1)) = z := ⟨_, rfl⟩
  rw [HB.out z hz]
  have HZ := Lib.hid hz; clear hz HB
  go_enter Tryd.func13, Tryd.ntmps13
  go_wp2_with fail
  refine (rframe_at _ _ _ hC).mono ?_
  rintro e w1 ⟨rfl, rfl⟩
  go_wp2_with fail
  all_goals
    go_ret
    exact ⟨by rw [← HZ.out]; congr 2; simp <;> omega, ball (Below.refl _ _) _⟩

set_option maxRecDepth 100000 in
set_option maxHeartbeats 1000000 in
theorem rvalid_8 (b f c s : Int) (w : World) (hC : frameB b = true) (b0 : 0 ≤ b) (b1 : b ≤ 999999984) (HF : Hid (∀ y, (decide (0 ≤ s) && decide (s ≤ 1000000000) && (decide (0 ≤ c) && decide (c ≤ 100)) && (decide (b + 8 / 2 ≤ f) && decide (f ≤ b + 8 - 1))) = y → validT ⟨8, b, f, c, s⟩ = y)) :
    Calls Tryd.prog 13 #[.agg #[.int .i64 8, .int .i64 b, .int .i64 f, .int .i64 c, .int .i64 s]] w fun e w' => e = .returned (.bool (validT ⟨8, b, f, c, s⟩)) ∧ Below w.heap.size w w' := by
  by_cases h1 : s < 0
  · rw [HF.out false (by simp; omega)]
    go_enter Tryd.func13, Tryd.ntmps13
    go_wp2_with fail
    refine (rframe_at _ _ _ hC).mono ?_
    rintro e w1 ⟨rfl, rfl⟩
    go_wp2_with fail
    go_ret
    exact ⟨rfl, ball (Below.refl _ _) _⟩
  by_cases h2 : 1000000000 < s
  · rw [HF.out false (by simp; omega)]
    go_enter Tryd.func13, Tryd.ntmps13
    go_wp2_with fail
    refine (rframe_at _ _ _ hC).mono ?_
    rintro e w1 ⟨rfl, rfl⟩
    go_wp2_with fail
    go_ret
    exact ⟨rfl, ball (Below.refl _ _) _⟩
  by_cases h3 : c < 0
  · rw [HF.out false (by simp; omega)]
    go_enter Tryd.func13, Tryd.ntmps13
    go_wp2_with fail
    refine (rframe_at _ _ _ hC).mono ?_
    rintro e w1 ⟨rfl, rfl⟩
    go_wp2_with fail
    go_ret
    exact ⟨rfl, ball (Below.refl _ _) _⟩
  by_cases h4 : 100 < c
  · rw [HF.out false (by simp; omega)]
    go_enter Tryd.func13, Tryd.ntmps13
    go_wp2_with fail
    refine (rframe_at _ _ _ hC).mono ?_
    rintro e w1 ⟨rfl, rfl⟩
    go_wp2_with fail
    go_ret
    exact ⟨rfl, ball (Below.refl _ _) _⟩
  have hb : ∀ y, (decide (b + 8 / 2 ≤ f) && decide (f ≤ b + 8 - 1)) = y → validT ⟨8, b, f, c, s⟩ = y := fun y hy => HF.out y (by rw [← hy]; simp [show 0 ≤ s by omega, show s ≤ 1000000000 by omega, show 0 ≤ c by omega, show c ≤ 100 by omega])
  have HB := Lib.hid hb; clear hb HF
  obtain ⟨z, hz⟩ : ∃ z, (decide (b + 8 / 2 ≤ f) && decide (f ≤ b + 8 - 1)) = z := ⟨_, rfl⟩
  rw [HB.out z hz]
  have HZ := Lib.hid hz; clear hz HB
  go_enter Tryd.func13, Tryd.ntmps13
  go_wp2_with fail
  refine (rframe_at _ _ _ hC).mono ?_
  rintro e w1 ⟨rfl, rfl⟩
  go_wp2_with fail
  all_goals
    go_ret
    exact ⟨by rw [← HZ.out]; congr 2; simp <;> omega, ball (Below.refl _ _) _⟩

set_option maxRecDepth 100000 in
theorem rvalid_any (t : Tk) (w : World) : Calls Tryd.prog 13 #[t.v] w fun e w' => e = .returned (.bool (validT t)) ∧ Below w.heap.size w w' := by
  obtain ⟨i, b, f, c, s⟩ := t
  cases hC : frameB b
  · have hv : validT ⟨i, b, f, c, s⟩ = false := by simp [validT, hC]
    rw [hv]; clear hv
    go_enter Tryd.func13, Tryd.ntmps13
    go_wp2_with fail
    refine (rframe_at _ _ _ hC).mono ?_
    rintro e w1 ⟨rfl, rfl⟩
    go_wp2_with fail
    all_goals (go_ret; exact ⟨rfl, ball (Below.refl _ _) _⟩)
  · obtain ⟨b0, b1⟩ := frameB_iff.1 hC
    cases hL : lenB i
    · have hv : validT ⟨i, b, f, c, s⟩ = false := by simp [validT, hL]
      rw [hv]; clear hv
      simp only [lenB, Bool.or_eq_false_iff, decide_eq_false_iff_not] at hL
      obtain ⟨⟨⟨n1, n2⟩, n4⟩, n8⟩ := hL
      go_enter Tryd.func13, Tryd.ntmps13
      go_wp2_with fail
      refine (rframe_at _ _ _ hC).mono ?_
      rintro e w1 ⟨rfl, rfl⟩
      go_wp2_with fail
      all_goals (go_ret; exact ⟨rfl, ball (Below.refl _ _) _⟩)
    · have HV : ∀ y, (seedB s && countB c && fireB ⟨i, b, f, c, s⟩) = y → validT ⟨i, b, f, c, s⟩ = y := fun y hy => by rw [← hy]; simp [validT, hL, hC, Bool.and_assoc]
      simp only [lenB, Bool.or_eq_true, decide_eq_true_eq] at hL
      rw [fire_eq] at HV
      simp only [seedB, countB] at HV
      have HF := Lib.hid HV; clear HV
      rcases hL with ((h | h) | h) | h <;> subst h
      · exact rvalid_1 b f c s w hC b0 b1 HF
      · exact rvalid_2 b f c s w hC b0 b1 HF
      · exact rvalid_4 b f c s w hC b0 b1 HF
      · exact rvalid_8 b f c s w hC b0 b1 HF
theorem rvalid_at (t : Tk) (y : Bool) (w : World) (hy : validT t = y) : Calls Tryd.prog 13 #[t.v] w fun e w' => e = .returned (.bool y) ∧ Below w.heap.size w w' := by
  rw [← hy]; exact rvalid_any t w
end Go.Proofs.YteeajkopigdblaaDoor
