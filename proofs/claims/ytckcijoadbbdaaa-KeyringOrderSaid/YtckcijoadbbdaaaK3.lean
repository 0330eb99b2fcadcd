/- Proved: that the fixed examples of the statements on rings hold, and that the laws KeyringMatchesReference, KeyringEpochs and KeyringRoot return true for every input. Conditions: the numbers fit their types. -/
import Derived.Test.YtckcijoadbbdaaaK2
namespace Go.Proofs.Ytckcijoadbbdaaa
open Go.RowKit Go.Sort Go.BigFrame
set_option linter.unusedVariables false
set_option linter.unusedSimpArgs false
attribute [local go_sem] cell_alloc_old

theorem root_at (a x y : Int) (w : World) (h1 : rootF a = x) (h2 : rootN a = y) : Calls Try.prog 15 #[.int .i64 a] w fun e w' => e = .returned (.agg #[.int .i64 x, .int .i64 y]) ∧ Below w.heap.size w w' := by
  rw [← h1, ← h2]; exact root_any a w
theorem learn_at (f n g m a x y : Int) (w : World) (h1 : learnF f n g m a = x) (h2 : learnN f n g m a = y) : Calls Try.prog 17 #[.agg #[.int .i64 f, .int .i64 n], .agg #[.int .i64 g, .int .i64 m], .int .i64 a] w fun e w' =>
    e = .returned (.agg #[.int .i64 x, .int .i64 y]) ∧ Below w.heap.size w w' := by
  rw [← h1, ← h2]; exact learn_any f n g m a w
theorem age_at (f n a x y : Int) (w : World) (h1 : ageF f n a = x) (h2 : ageN f n a = y) : Calls Try.prog 19 #[.agg #[.int .i64 f, .int .i64 n], .int .i64 a] w fun e w' =>
    e = .returned (.agg #[.int .i64 x, .int .i64 y]) ∧ Below w.heap.size w w' := by
  rw [← h1, ← h2]; exact age_any f n a w
theorem slot_at (n a : Int) (w : World) (h0 : 0 ≤ n) (h1 : n ≤ 4294967295) (ha : n % 999996000 = a) : Calls Try.prog 21 #[.int .u32 n] w fun e w' => e = .returned (.int .i64 a) ∧ Below w.heap.size w w' := by
  rw [← ha]; exact callsB (slot_any n w h0 h1)

theorem head_any (w : World) : Calls Try.prog 10 #[] w fun e w' => e = .returned (.bool true) ∧ Below w.heap.size w w' := by
  go_enter Try.func10, Try.ntmps10
  go_wp2_with fail
  refine (ep_at (1999) 0 0 _ (by decide) (by decide)).mono ?_
  rintro e w1 ⟨rfl, hb1⟩
  have BB := hb1
  go_wp2_with fail
  refine (ep_at (2000) 1 0 _ (by decide) (by decide)).mono ?_
  rintro e w2 ⟨rfl, hb2⟩
  have BB := bstep BB hb2
  go_wp2_with fail
  refine (ep_at (-1) 0 1 _ (by decide) (by decide)).mono ?_
  rintro e w3 ⟨rfl, hb3⟩
  have BB := bstep BB hb3
  go_wp2_with fail
  refine (root_at 2500 1 3 _ (by decide) (by decide)).mono ?_
  rintro e w4 ⟨rfl, hb4⟩
  have BB := bstep BB hb4
  go_wp2_with fail
  refine (ring_any 1 3 _).mono ?_
  rintro e w5 ⟨rfl, hb5⟩
  have BB := bstep BB hb5
  go_wp2_with fail
  refine (root_at (-1) 0 0 _ (by decide) (by decide)).mono ?_
  rintro e w6 ⟨rfl, hb6⟩
  have BB := bstep BB hb6
  go_wp2_with fail
  refine (ring_any 0 0 _).mono ?_
  rintro e w7 ⟨rfl, hb7⟩
  have BB := bstep BB hb7
  go_wp2_with fail
  refine (ring_any 1 2 _).mono ?_
  rintro e w8 ⟨rfl, hb8⟩
  have BB := bstep BB hb8
  go_wp2_with fail
  refine (ring_any 1 3 _).mono ?_
  rintro e w9 ⟨rfl, hb9⟩
  have BB := bstep BB hb9
  go_wp2_with fail
  refine (learn_at 1 2 1 3 2500 1 3 _ (by decide) (by decide)).mono ?_
  rintro e w10 ⟨rfl, hb10⟩
  have BB := bstep BB hb10
  go_wp2_with fail
  refine (ring_any 1 3 _).mono ?_
  rintro e w11 ⟨rfl, hb11⟩
  have BB := bstep BB hb11
  go_wp2_with fail
  refine (ring_any 1 2 _).mono ?_
  rintro e w12 ⟨rfl, hb12⟩
  have BB := bstep BB hb12
  go_wp2_with fail
  refine (ring_any 2 3 _).mono ?_
  rintro e w13 ⟨rfl, hb13⟩
  have BB := bstep BB hb13
  go_wp2_with fail
  refine (learn_at 1 2 2 3 2500 1 2 _ (by decide) (by decide)).mono ?_
  rintro e w14 ⟨rfl, hb14⟩
  have BB := bstep BB hb14
  go_wp2_with fail
  refine (ring_any 1 2 _).mono ?_
  rintro e w15 ⟨rfl, hb15⟩
  have BB := bstep BB hb15
  go_wp2_with fail
  refine (ring_any 0 3 _).mono ?_
  rintro e w16 ⟨rfl, hb16⟩
  have BB := bstep BB hb16
  go_wp2_with fail
  refine (age_at 0 3 2500 1 3 _ (by decide) (by decide)).mono ?_
  rintro e w17 ⟨rfl, hb17⟩
  have BB := bstep BB hb17
  go_wp2_with fail
  refine (ring_any 1 3 _).mono ?_
  rintro e w18 ⟨rfl, hb18⟩
  have BB := bstep BB hb18
  go_wp2_with fail
  refine (ring_any 0 1 _).mono ?_
  rintro e w19 ⟨rfl, hb19⟩
  have BB := bstep BB hb19
  go_wp2_with fail
  refine (age_at 0 1 2500 0 0 _ (by decide) (by decide)).mono ?_
  rintro e w20 ⟨rfl, hb20⟩
  have BB := bstep BB hb20
  go_wp2_with fail
  refine (ring_any 0 0 _).mono ?_
  rintro e w21 ⟨rfl, hb21⟩
  have BB := bstep BB hb21
  go_wp2_with fail
  refine (ring_any 1 3 _).mono ?_
  rintro e w22 ⟨rfl, hb22⟩
  have BB := bstep BB hb22
  go_wp2_with fail
  refine (kn_at 1 3 2 true _ (by decide)).mono ?_
  rintro e w23 ⟨rfl, hb23⟩
  have BB := bstep BB hb23
  go_wp2_with fail
  refine (ring_any 1 3 _).mono ?_
  rintro e w24 ⟨rfl, hb24⟩
  have BB := bstep BB hb24
  go_wp2_with fail
  refine (kn_at 1 3 3 false _ (by decide)).mono ?_
  rintro e w25 ⟨rfl, hb25⟩
  have BB := bstep BB hb25
  go_wp2_with fail
  refine (ring_any 0 0 _).mono ?_
  rintro e w26 ⟨rfl, hb26⟩
  have BB := bstep BB hb26
  go_wp2_with fail
  refine (kn_at 0 0 0 false _ (by decide)).mono ?_
  rintro e w27 ⟨rfl, hb27⟩
  have BB := bstep BB hb27
  go_wp2_with fail
  go_ret
  exact ⟨rfl, BB⟩

set_option maxHeartbeats 1000000 in
theorem lawMatches (f n g m a x : Int) (w : World) :
    Calls Try.prog 3 #[.agg #[.int .i64 f, .int .i64 n], .agg #[.int .i64 g, .int .i64 m], .int .i64 a, .int .i64 x] w fun e w' => e = .returned (.bool true) ∧ Below w.heap.size w w' := by
  go_enter Try.func3, Try.ntmps3
  go_wp2_with fail
  refine (head_any _).mono ?_
  rintro e w1 ⟨rfl, hb1⟩
  have r0 : w1.cell? ⟨w.heap.size, 0, none⟩ = some (.int .i64 f) := keep1 hb1 (old1 (by simp) _)
  have r1 : w1.cell? ⟨w.heap.size, 1, none⟩ = some (.int .i64 n) := keep1 hb1 (old1 (by simp) _)
  have t0 : w1.cell? ⟨w.heap.size + 1, 0, none⟩ = some (.int .i64 g) := keep1 hb1 (by simp)
  have t1 : w1.cell? ⟨w.heap.size + 1, 1, none⟩ = some (.int .i64 m) := keep1 hb1 (by simp)
  have BB := bstep (ball (ball (Below.refl w.heap.size w) _) _) hb1
  go_wp2_with fail
  refine (epoch_any a _).mono ?_
  rintro e w2 ⟨rfl, hb2⟩
  have r0 := keep1 hb2 (r0)
  have r1 := keep1 hb2 (r1)
  have t0 := keep1 hb2 (t0)
  have t1 := keep1 hb2 (t1)
  have BB := bstep BB hb2
  go_wp2_with fail
  refine (rep_at a _ _ _ rfl rfl).mono ?_
  rintro e w3 ⟨rfl, hb3⟩
  have r0 := keep1 hb3 (r0)
  have r1 := keep1 hb3 (r1)
  have t0 := keep1 hb3 (t0)
  have t1 := keep1 hb3 (t1)
  have BB := bstep BB hb3
  go_wp2_with fail
  have kr0 := cell_regrown r0
  have kr1 := cell_regrown r1
  have kt0 := cell_regrown t0
  have kt1 := cell_regrown t1
  refine wp_region_quiet_below (by kernel_rfl) (by kernel_rfl) ?_
  repeat (go_big_quiet_step (first
    | (go_at_call 13; exact rg_of fun w' h => knows_any _ _ _ _)
    | (go_at_call 14; exact rg_of fun w' h => rkn_at _ _ _ _ _ rfl)
    | (go_at_call 15; exact rg_of fun w' h => root_any _ _)
    | (go_at_call 16; exact rg_of fun w' h => rroot_any _ _)
    | (go_at_call 17; exact rg_of fun w' h => learn_any _ _ _ _ _ _)
    | (go_at_call 18; exact rg_of fun w' h => rlearn_any _ _ _ _ _ _)
    | (go_at_call 19; exact rg_of fun w' h => age_any _ _ _ _)
    | (go_at_call 20; exact rg_of fun w' h => rage_any _ _ _ _)))
  refine wpQuiet_nil ?_
  intro _ hw'
  obtain ⟨⟨dq, osq⟩, hw''⟩ := hw'
  subst hw''
  go_wp2
  go_ret
  exact ⟨rfl, bstep BB (below_regrown w3 dq osq)⟩

theorem epE_in {a : Int} (h0 : 0 ≤ a) (h1 : a ≤ 1000000000) : epE a = 0 := by simp [epE, slotN, h0, h1]
theorem epV_in {a : Int} (h0 : 0 ≤ a) (h1 : a ≤ 1000000000) : epV a = a / 2000 := by simp [epV, slotN, h0, h1]

set_option maxRecDepth 100000 in
set_option maxHeartbeats 1000000 in
theorem lawEpochs (n b : Int) (w : World) (h0 : 0 ≤ n) (h1 : n ≤ 4294967295) (hb0 : 0 ≤ b) (hb1 : b ≤ 65535) :
    Calls Try.prog 4 #[.int .u32 n, .int .u16 b] w fun e w' => e = .returned (.bool true) ∧ Below w.heap.size w w' := by
  obtain ⟨a, ha⟩ : ∃ a, n % 999996000 = a := ⟨_, rfl⟩
  have a0 : 0 ≤ a := by omega
  have a1 : a < 999996000 := by omega
  obtain ⟨q, hq⟩ : ∃ q, q = a / 2000 := ⟨_, rfl⟩
  have er : a.tmod 2000 = a % 2000 := Int.tmod_eq_emod_of_nonneg a0
  obtain ⟨s, hs⟩ : ∃ s, s = a % 2000 := ⟨_, rfl⟩
  have es : a = 2000 * q + s := by omega
  have s0 : 0 ≤ s := by omega
  have s1 : s < 2000 := by omega
  have q0 : 0 ≤ q := by omega
  rw [← hs] at er
  have E1 : Hid (epV a = q) := Lib.hid (by rw [epV_in a0 (by omega)]; omega)
  have E2 : Hid (epE a = 0) := Lib.hid (epE_in a0 (by omega))
  obtain ⟨k, hk⟩ : ∃ k, max (a - s) (a - b) = k := ⟨_, rfl⟩
  have k1 : a - s ≤ k := by omega
  have k2 : k ≤ a := by omega
  have K1 : Hid (epV k = q) := Lib.hid (by rw [epV_in (by omega) (by omega)]; omega)
  have K2 : Hid (epE k = 0) := Lib.hid (epE_in (by omega) (by omega))
  have L1 : Hid (epV (a + 2000) = q + 1) := Lib.hid (by rw [epV_in (by omega) (by omega)]; omega)
  have L2 : Hid (epE (a + 2000) = 0) := Lib.hid (epE_in (by omega) (by omega))
  have HA := Lib.hid ha; have HK := Lib.hid hk; have ES := Lib.hid es; have HQ := Lib.hid hq; have HS := Lib.hid hs
  by_cases hf : a - s = 0
  · have M1 : Hid (epV (a - s - 1) = 0) := Lib.hid (by rw [hf]; decide)
    have M2 : Hid (epE (a - s - 1) = 1) := Lib.hid (by rw [hf]; decide)
    have hf' : (a - s == 0) = true := by simpa using hf
    have HF := Lib.hid hf
    clear ha hk es hq hs hf
    go_enter Try.func4, Try.ntmps4
    go_wp2_with fail
    refine (head_any _).mono ?_
    rintro e w1 ⟨rfl, hb1⟩
    have BB := hb1
    go_wp2_with fail
    refine (slot_at n a _ h0 h1 HA.out).mono ?_
    rintro e w2 ⟨rfl, hb2⟩
    have BB := bstep BB hb2
    go_wp2_with fail
    refine (ep_at a q 0 _ E1.out E2.out).mono ?_
    rintro e w3 ⟨rfl, hb3⟩
    have BB := bstep BB hb3
    go_wp2_with fail
    rw [HK.out]
    refine (ep_at k q 0 _ K1.out K2.out).mono ?_
    rintro e w4 ⟨rfl, hb4⟩
    have BB := bstep BB hb4
    go_wp2_with fail
    refine (ep_at (a + 2000) (q + 1) 0 _ L1.out L2.out).mono ?_
    rintro e w5 ⟨rfl, hb5⟩
    have BB := bstep BB hb5
    go_wp2_with fail
    refine (ep_at (a - s - 1) 0 1 _ M1.out M2.out).mono ?_
    rintro e w6 ⟨rfl, hb6⟩
    have BB := bstep BB hb6
    have q1 : q ≤ 500000 := by have := ES.out; omega
    have as0 : 0 ≤ a - s := by have := ES.out; omega
    generalize a - s = z at *
    clear k1 k2 er s0 s1 a0 a1 hb0 hb1 h0 h1 HF HK HA
    go_wp2_with fail
    go_ret
    exact ⟨rfl, BB⟩
  · have M1 : Hid (epV (a - s - 1) = q - 1) := Lib.hid (by rw [epV_in (by omega) (by omega)]; omega)
    have M2 : Hid (epE (a - s - 1) = 0) := Lib.hid (epE_in (by omega) (by omega))
    have hf' : (a - s == 0) = false := by simpa using hf
    have hf2 : decide (0 < a - s) = true := by simp; omega
    have HF := Lib.hid hf
    clear ha hk es hq hs hf
    go_enter Try.func4, Try.ntmps4
    go_wp2_with fail
    refine (head_any _).mono ?_
    rintro e w1 ⟨rfl, hb1⟩
    have BB := hb1
    go_wp2_with fail
    refine (slot_at n a _ h0 h1 HA.out).mono ?_
    rintro e w2 ⟨rfl, hb2⟩
    have BB := bstep BB hb2
    go_wp2_with fail
    refine (ep_at a q 0 _ E1.out E2.out).mono ?_
    rintro e w3 ⟨rfl, hb3⟩
    have BB := bstep BB hb3
    go_wp2_with fail
    rw [HK.out]
    refine (ep_at k q 0 _ K1.out K2.out).mono ?_
    rintro e w4 ⟨rfl, hb4⟩
    have BB := bstep BB hb4
    go_wp2_with fail
    refine (ep_at (a + 2000) (q + 1) 0 _ L1.out L2.out).mono ?_
    rintro e w5 ⟨rfl, hb5⟩
    have BB := bstep BB hb5
    go_wp2_with fail
    refine (ep_at (a - s - 1) (q - 1) 0 _ M1.out M2.out).mono ?_
    rintro e w6 ⟨rfl, hb6⟩
    have BB := bstep BB hb6
    have q1 : q ≤ 500000 := by have := ES.out; omega
    have as0 : 0 ≤ a - s := by have := ES.out; omega
    generalize a - s = z at *
    clear k1 k2 er s0 s1 a0 a1 hb0 hb1 h0 h1 HF HK HA
    go_wp2_with fail
    go_ret
    exact ⟨rfl, BB⟩

set_option maxRecDepth 100000 in
set_option maxHeartbeats 1000000 in
theorem lawRoot (n o : Int) (w : World) (h0 : 0 ≤ n) (h1 : n ≤ 4294967295) :
    Calls Try.prog 5 #[.int .u32 n, .int .i64 o] w fun e w' => e = .returned (.bool true) ∧ Below w.heap.size w w' := by
  obtain ⟨a, ha⟩ : ∃ a, n % 999996000 = a := ⟨_, rfl⟩
  have a0 : 0 ≤ a := by omega
  have a1 : a < 999996000 := by omega
  obtain ⟨q, hq⟩ : ∃ q, q = a / 2000 := ⟨_, rfl⟩
  have q0 : 0 ≤ q := by omega
  have q1 : q ≤ 499998 := by omega
  have E1 : Hid (epV a = q) := Lib.hid (by rw [epV_in a0 (by omega)]; omega)
  have E2 : Hid (epE a = 0) := Lib.hid (epE_in a0 (by omega))
  have R1 : Hid (rootF a = q) := Lib.hid (by simp [rootF, slotN]; omega)
  have R2 : Hid (rootN a = q + 2) := Lib.hid (by simp [rootN, slotN]; omega)
  have hv : validR q (q + 2) = true := by simp [validR]; omega
  have N1 : Hid (knowsR q (q + 2) q = true) := Lib.hid (by simp only [knowsR, hv, Bool.true_and, decide_eq_true_eq]; omega)
  have N2 : Hid (knowsR q (q + 2) (q + 1) = true) := Lib.hid (by simp only [knowsR, hv, Bool.true_and, decide_eq_true_eq]; omega)
  have N3 : Hid (knowsR q (q + 2) o = (o == q || o == q + 1)) := Lib.hid (by
    unfold knowsR; rw [hv, Bool.true_and]
    by_cases x : q ≤ o ∧ o < q + 2
    · rw [decide_eq_true x]
      by_cases x1 : o = q
      · simp [x1]
      · have : o = q + 1 := by omega
        simp [this]
    · rw [decide_eq_false x]
      have x1 : (o == q) = false := by simp; omega
      have x2 : (o == q + 1) = false := by simp; omega
      rw [x1, x2]; rfl)
  have HA := Lib.hid ha
  clear ha hq hv
  cases ho : (o == q)
  ·
    rw [ho] at N3
    rw [Bool.false_or] at N3
    go_enter Try.func5, Try.ntmps5
    go_wp2_with fail
    refine (head_any _).mono ?_
    rintro e w1 ⟨rfl, hb1⟩
    have BB := hb1
    go_wp2_with fail
    refine (slot_at n a _ h0 h1 HA.out).mono ?_
    rintro e w2 ⟨rfl, hb2⟩
    have BB := bstep BB hb2
    go_wp2_with fail
    refine (ep_at a q 0 _ E1.out E2.out).mono ?_
    rintro e w3 ⟨rfl, hb3⟩
    have BB := bstep BB hb3
    go_wp2_with fail
    refine (slot_at n a _ h0 h1 HA.out).mono ?_
    rintro e w4 ⟨rfl, hb4⟩
    have BB := bstep BB hb4
    go_wp2_with fail
    refine (root_at a q (q + 2) _ R1.out R2.out).mono ?_
    rintro e w5 ⟨rfl, hb5⟩
    have BB := bstep BB hb5
    go_wp2_with fail
    refine (kn_at q (q + 2) q true _ N1.out).mono ?_
    rintro e w6 ⟨rfl, hb6⟩
    have r0 : w6.cell? ⟨w5.heap.size, 0, none⟩ = some (.int .i64 q) := keep1 hb6 (by simp)
    have r1 : w6.cell? ⟨w5.heap.size, 1, none⟩ = some (.int .i64 (q + 2)) := keep1 hb6 (by simp)
    have BB := bstep (ball BB _) hb6
    go_wp2_with fail
    refine (kn_at q (q + 2) (q + 1) true _ N2.out).mono ?_
    rintro e w7 ⟨rfl, hb7⟩
    have r0 := keep1 hb7 (r0)
    have r1 := keep1 hb7 (r1)
    have BB := bstep BB hb7
    go_wp2_with fail
    refine (kn_at q (q + 2) o _ _ N3.out).mono ?_
    rintro e w8 ⟨rfl, hb8⟩
    have r0 := keep1 hb8 (r0)
    have r1 := keep1 hb8 (r1)
    have BB := bstep BB hb8
    go_wp2_with fail
    go_ret
    exact ⟨rfl, BB⟩
  ·
    rw [ho] at N3
    rw [Bool.true_or] at N3
    go_enter Try.func5, Try.ntmps5
    go_wp2_with fail
    refine (head_any _).mono ?_
    rintro e w1 ⟨rfl, hb1⟩
    have BB := hb1
    go_wp2_with fail
    refine (slot_at n a _ h0 h1 HA.out).mono ?_
    rintro e w2 ⟨rfl, hb2⟩
    have BB := bstep BB hb2
    go_wp2_with fail
    refine (ep_at a q 0 _ E1.out E2.out).mono ?_
    rintro e w3 ⟨rfl, hb3⟩
    have BB := bstep BB hb3
    go_wp2_with fail
    refine (slot_at n a _ h0 h1 HA.out).mono ?_
    rintro e w4 ⟨rfl, hb4⟩
    have BB := bstep BB hb4
    go_wp2_with fail
    refine (root_at a q (q + 2) _ R1.out R2.out).mono ?_
    rintro e w5 ⟨rfl, hb5⟩
    have BB := bstep BB hb5
    go_wp2_with fail
    refine (kn_at q (q + 2) q true _ N1.out).mono ?_
    rintro e w6 ⟨rfl, hb6⟩
    have r0 : w6.cell? ⟨w5.heap.size, 0, none⟩ = some (.int .i64 q) := keep1 hb6 (by simp)
    have r1 : w6.cell? ⟨w5.heap.size, 1, none⟩ = some (.int .i64 (q + 2)) := keep1 hb6 (by simp)
    have BB := bstep (ball BB _) hb6
    go_wp2_with fail
    refine (kn_at q (q + 2) (q + 1) true _ N2.out).mono ?_
    rintro e w7 ⟨rfl, hb7⟩
    have r0 := keep1 hb7 (r0)
    have r1 := keep1 hb7 (r1)
    have BB := bstep BB hb7
    go_wp2_with fail
    refine (kn_at q (q + 2) o _ _ N3.out).mono ?_
    rintro e w8 ⟨rfl, hb8⟩
    have r0 := keep1 hb8 (r0)
    have r1 := keep1 hb8 (r1)
    have BB := bstep BB hb8
    go_wp2_with fail
    go_ret
    exact ⟨rfl, BB⟩
end Go.Proofs.Ytckcijoadbbdaaa
