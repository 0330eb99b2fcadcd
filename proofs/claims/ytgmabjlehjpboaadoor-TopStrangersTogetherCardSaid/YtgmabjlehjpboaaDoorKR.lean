/- Proved: what the program's functions on rings return: numbers that do not decrease, the epoch of a slot, a valid ring, a known epoch, the root's ring. Conditions: none. -/
import Derived.Test.YtgmabjlehjpboaaDoorMade
import Derived.Test.YtgmabjlehjpboaaDoorBd
namespace Go.Proofs.YtgmabjlehjpboaaDoor
open Go.RowKit Go.Sort Go.Proofs.YtgmabjlehjpboaaDoor.K
set_option linter.unusedVariables false
set_option linter.unusedSimpArgs false
attribute [local go_sem] cell_alloc_old

def slotN (a : Int) : Bool := decide (0 ≤ a ∧ a ≤ 1000000000)
def epV (a : Int) : Int := if slotN a then a / 2000 else 0
def epE (a : Int) : Int := if slotN a then 0 else 1
def validR (f n : Int) : Bool := decide (f = 0 ∧ n = 0) || decide (0 ≤ f ∧ f ≤ 500000 ∧ f + 1 ≤ n ∧ n ≤ 500002)
def knowsR (f n e : Int) : Bool := validR f n && decide (f ≤ e ∧ e < n)
abbrev box (f n : Int) : Obj := .cells #[.int .i64 f, .int .i64 n] 35
abbrev box1 (f n : Int) : Obj := .cells #[.int .i64 f, .int .i64 n] 95

theorem valid_bd {f n : Int} (h : validR f n = true) : 0 ≤ f ∧ f ≤ 500000 ∧ 0 ≤ n ∧ n ≤ 500002 := by
  simp only [validR, Bool.or_eq_true, decide_eq_true_eq] at h; omega
theorem knows_bd {f n e : Int} (h : knowsR f n e = true) : validR f n = true ∧ f ≤ e ∧ e < n := by
  simpa only [knowsR, Bool.and_eq_true, decide_eq_true_eq] using h
theorem epV_bd (a : Int) : 0 ≤ epV a ∧ epV a ≤ 500000 := by
  unfold epV slotN; split
  · rename_i h; simp at h; omega
  · omega

theorem ret_t {a b : Bool} (h : a = b) : Ending.returned (.bool a) = .returned (.bool b) := by rw [h]


set_option maxHeartbeats 400000 in
theorem within_at (x y z : Int) (b : Nat) (w : World) (hx : w.cell? ⟨b, 0, none⟩ = some (.int .i64 x)) (hy : w.cell? ⟨b, 1, none⟩ = some (.int .i64 y)) (hz : w.cell? ⟨b, 2, none⟩ = some (.int .i64 z)) (F : Bool) (hF : decide (x ≤ y ∧ y ≤ z) = F) :
    Calls Tryd.prog 36 #[.slice (some ⟨b, 0, none⟩) 3 3] w fun e w' => e = .returned (.bool F) ∧ Below w.heap.size w w' := by
  subst hF
  by_cases h1 : x ≤ y
  · have h1' : decide (y < x) = false := by simpa using h1
    by_cases h2 : y ≤ z
    · have h2' : decide (z < y) = false := by simpa using h2
      have e1 : decide (x ≤ y ∧ y ≤ z) = true := by simp [h1, h2]
      rw [e1]; clear e1
      go_enter Tryd.func36, Tryd.ntmps36
      go_wp2_with fail
      refine wp_loop_rounds 3 ?_
      rw [rounds_succ]
      go_wp2_with fail
      go_quiet (fail)
      go_wp2_with fail
      rw [rounds_succ]
      go_wp2_with fail
      go_quiet (fail)
      go_wp2_with fail
      rw [rounds_succ]
      go_wp2_with fail
      go_ret
      exact ⟨rfl, below_drewN (Below.refl _ _) _⟩
    · have h2' : decide (z < y) = true := by simp; omega
      have e1 : decide (x ≤ y ∧ y ≤ z) = false := by simp [h2]
      rw [e1]; clear e1
      go_enter Tryd.func36, Tryd.ntmps36
      go_wp2_with fail
      refine wp_loop_rounds 3 ?_
      rw [rounds_succ]
      go_wp2_with fail
      go_quiet (fail)
      go_wp2_with fail
      rw [rounds_succ]
      go_wp2_with fail
      go_quiet (fail)
      go_wp2_with fail
      go_ret
      exact ⟨rfl, below_drewN (below_drewN (Below.refl _ _) _) _⟩
  · have h1' : decide (y < x) = true := by simp; omega
    have e1 : decide (x ≤ y ∧ y ≤ z) = false := by simp [h1]
    rw [e1]; clear e1
    go_enter Tryd.func36, Tryd.ntmps36
    go_wp2_with fail
    refine wp_loop_rounds 3 ?_
    rw [rounds_succ]
    go_wp2_with fail
    go_quiet (fail)
    go_wp2_with fail
    go_ret
    exact ⟨rfl, below_drewN (Below.refl _ _) _⟩

theorem epoch_any (a : Int) (w : World) :
    Calls Tryd.prog 18 #[.int .i64 a] w fun e w' => e = .returned (.tuple #[.int .i64 (epV a), .int .i64 (epE a)]) ∧ Below w.heap.size w w' := by
  cases h : slotN a
  · have e1 : epV a = 0 := by simp [epV, h]
    have e2 : epE a = 1 := by simp [epE, h]
    rw [e1, e2]; clear e1 e2
    go_enter Tryd.func18, Tryd.ntmps18
    go_wp2_with (first | (go_at_call 36; refine (within_at 0 a 1000000000 w.heap.size _ (by simp) (by simp) (by simp) false h).mono ?_; rintro e w' ⟨rfl, hb⟩))
    go_ret2
    exact ⟨rfl, bstep (ball (Below.refl _ _) _) hb⟩
  · have e1 : epV a = a / 2000 := by simp [epV, h]
    have e2 : epE a = 0 := by simp [epE, h]
    have h' : 0 ≤ a ∧ a ≤ 1000000000 := by simpa [slotN] using h
    have e3 : a.tdiv 2000 = a / 2000 := Int.tdiv_eq_ediv_of_nonneg h'.1
    rw [e1, e2]; clear e1 e2
    go_enter Tryd.func18, Tryd.ntmps18
    go_wp2_with (first | (go_at_call 36; refine (within_at 0 a 1000000000 w.heap.size _ (by simp) (by simp) (by simp) true h).mono ?_; rintro e w' ⟨rfl, hb⟩))
    go_ret2
    exact ⟨rfl, bstep (ball (Below.refl _ _) _) hb⟩

theorem empty_any (f n : Int) (w : World) :
    Calls Tryd.prog 64 #[.agg #[.int .i64 f, .int .i64 n]] w fun e w' => e = .returned (.bool (decide (f = 0 ∧ n = 0))) ∧ w.alloc (box1 f n) = w' := by
  by_cases h0 : f = 0
  · subst h0
    have e1 : decide ((0 : Int) = 0 ∧ n = 0) = (n == 0) := by by_cases h : n = 0 <;> simp [h]
    rw [e1]
    go_enter Tryd.func64, Tryd.ntmps64
    go_wp2
    go_ret
    exact ⟨rfl, rfl⟩
  · have h1 : (f == 0) = false := by simp [h0]
    have e1 : decide (f = 0 ∧ n = 0) = false := by simp [h0]
    rw [e1]
    go_enter Tryd.func64, Tryd.ntmps64
    go_wp2
    go_ret
    exact ⟨rfl, rfl⟩

theorem empty_at (f n : Int) (w : World) (F : Bool) (hF : decide (f = 0 ∧ n = 0) = F) :
    Calls Tryd.prog 64 #[.agg #[.int .i64 f, .int .i64 n]] w fun e w' => e = .returned (.bool F) ∧ Below w.heap.size w w' := by
  subst hF; exact (empty_any f n w).mono fun e w' ⟨a, b⟩ => ⟨a, b ▸ ball (Below.refl _ _) _⟩

set_option maxHeartbeats 800000 in
theorem valid_any (f n : Int) (w : World) :
    Calls Tryd.prog 59 #[.agg #[.int .i64 f, .int .i64 n]] w fun e w' => e = .returned (.bool (validR f n)) ∧ Below w.heap.size w w' := by
  by_cases hE : f = 0 ∧ n = 0
  · have e1 : validR f n = true := by simp [validR, hE]
    rw [e1]
    have HE : Hid (decide (f = 0 ∧ n = 0) = true) := Lib.hid (by simpa using hE)
    clear hE e1
    go_enter Tryd.func59, Tryd.ntmps59
    go_wp2_with fail
    refine (empty_at _ _ _ _ HE.out).mono ?_
    rintro e w0 ⟨rfl, hb0⟩
    go_wp2_with fail
    go_ret
    exact ⟨rfl, bstep (ball (Below.refl _ _) _) hb0⟩
  · have HE : Hid (decide (f = 0 ∧ n = 0) = false) := Lib.hid (by simpa using hE)
    by_cases hf : 0 ≤ f ∧ f ≤ 500000
    · obtain ⟨f1, f2⟩ := hf
      have e1 : validR f n = decide (f + 1 ≤ n ∧ n ≤ 500002) := by unfold validR; rw [HE.out]; simp [f1, f2]
      obtain ⟨F, hF⟩ : ∃ F, F = decide (f + 1 ≤ n ∧ n ≤ 500002) := ⟨_, rfl⟩
      rw [e1, ← hF]; clear e1
      have HF := Lib.hid hF; clear hF hE
      go_enter Tryd.func59, Tryd.ntmps59
      go_wp2_with fail
      refine (empty_at _ _ _ _ HE.out).mono ?_
      rintro e w0 ⟨rfl, hb0⟩
      have t0 : w0.cell? ⟨w.heap.size, 0, none⟩ = some (.int .i64 f) := keep1 hb0 (by simp)
      have t1 : w0.cell? ⟨w.heap.size, 1, none⟩ = some (.int .i64 n) := keep1 hb0 (by simp)
      have B0 := bstep (ball (Below.refl _ _) _) hb0
      go_wp2_with fail
      refine (within_at 0 f 500000 w0.heap.size _ (by simp) (by simp) (by simp) true (by simp [f1, f2])).mono ?_
      rintro e w1 ⟨rfl, hb⟩
      have B1 := bstep (ball B0 _) hb
      have t0 := keep1 hb (old1 t0 _)
      have t1 := keep1 hb (old1 t1 _)
      go_wp2_with fail
      refine (within_at (f + 1) n 500002 w1.heap.size _ (by simp) (by simp) (by simp) F HF.out.symm).mono ?_
      rintro e w2 ⟨rfl, hb2⟩
      go_wp2_with fail
      go_ret
      exact ⟨rfl, bstep (ball B1 _) hb2⟩
    · have e1 : validR f n = false := by
        unfold validR; rw [HE.out]
        have : ¬ (0 ≤ f ∧ f ≤ 500000 ∧ f + 1 ≤ n ∧ n ≤ 500002) := by omega
        simp only [this, decide_false, Bool.or_false]
      rw [e1]; clear e1
      have HF : Hid (decide (0 ≤ f ∧ f ≤ 500000) = false) := Lib.hid (by simpa using hf)
      clear hf hE
      go_enter Tryd.func59, Tryd.ntmps59
      go_wp2_with fail
      refine (empty_at _ _ _ _ HE.out).mono ?_
      rintro e w0 ⟨rfl, hb0⟩
      have t0 : w0.cell? ⟨w.heap.size, 0, none⟩ = some (.int .i64 f) := keep1 hb0 (by simp)
      have t1 : w0.cell? ⟨w.heap.size, 1, none⟩ = some (.int .i64 n) := keep1 hb0 (by simp)
      have B0 := bstep (ball (Below.refl _ _) _) hb0
      go_wp2_with fail
      refine (within_at 0 f 500000 w0.heap.size _ (by simp) (by simp) (by simp) false HF.out).mono ?_
      rintro e w1 ⟨rfl, hb⟩
      go_wp2_with fail
      go_ret
      exact ⟨rfl, bstep (ball B0 _) hb⟩

theorem know_any (f n x : Int) (w : World) :
    Calls Tryd.prog 45 #[.agg #[.int .i64 f, .int .i64 n], .int .i64 x] w fun e w' => e = .returned (.bool (knowsR f n x)) ∧ Below w.heap.size w w' := by
  cases hv : validR f n
  · have e1 : knowsR f n x = false := by simp [knowsR, hv]
    rw [e1]; clear e1
    go_enter Tryd.func45, Tryd.ntmps45
    go_wp2_with fail
    refine (valid_any f n _).mono ?_
    rw [hv]
    rintro e w1 ⟨rfl, hb⟩
    go_wp2_with fail
    go_ret
    exact ⟨rfl, bstep (ball (Below.refl _ _) _) hb⟩
  · obtain ⟨v1, v2, v3, v4⟩ := valid_bd hv
    have e1 : knowsR f n x = decide (f ≤ x ∧ x ≤ n - 1) := by
      unfold knowsR; rw [hv, Bool.true_and]
      by_cases h : f ≤ x ∧ x < n
      · have : f ≤ x ∧ x ≤ n - 1 := by omega
        simp only [h, this]
      · have : ¬ (f ≤ x ∧ x ≤ n - 1) := by omega
        simp only [h, this]
    obtain ⟨F, hF⟩ : ∃ F, F = decide (f ≤ x ∧ x ≤ n - 1) := ⟨_, rfl⟩
    rw [e1, ← hF]; clear e1
    have HF := Lib.hid hF; clear hF
    go_enter Tryd.func45, Tryd.ntmps45
    go_wp2_with fail
    refine (valid_any f n _).mono ?_
    rw [hv]
    rintro e w1 ⟨rfl, hb⟩
    have t0 : w1.cell? ⟨w.heap.size, 0, none⟩ = some (.int .i64 f) := keep1 hb (by simp)
    have t1 : w1.cell? ⟨w.heap.size, 1, none⟩ = some (.int .i64 n) := keep1 hb (by simp)
    have B1 := bstep (ball (Below.refl _ _) _) hb
    go_wp2_with fail
    refine (within_at f x (n - 1) w1.heap.size _ (by simp) (by simp) (by simp) F HF.out.symm).mono ?_
    rintro e w2 ⟨rfl, hb2⟩
    go_wp2_with fail
    go_ret
    exact ⟨rfl, bstep (ball B1 _) hb2⟩

theorem knows_any (f n x : Int) (w : World) :
    Calls Tryd.prog 21 #[(.agg #[.int .i64 f, .int .i64 n]), .int .i64 x] w fun e w' => e = .returned (.bool (knowsR f n x)) ∧ Below w.heap.size w w' := by
  go_enter Tryd.func21, Tryd.ntmps21
  go_wp2_with fail
  refine (know_any f n x _).mono ?_
  rintro e w1 ⟨rfl, hb⟩
  go_wp2_with fail
  go_ret
  exact ⟨rfl, bstep (ball (Below.refl _ _) _) hb⟩

def rootF (a : Int) : Int := if slotN a then a / 2000 else 0
def rootN (a : Int) : Int := if slotN a then a / 2000 + 2 else 0

theorem ep_at (a v e : Int) (w : World) (h1 : epV a = v) (h2 : epE a = e) :
    Calls Tryd.prog 18 #[.int .i64 a] w fun x w' => x = .returned (.tuple #[.int .i64 v, .int .i64 e]) ∧ Below w.heap.size w w' := by
  rw [← h1, ← h2]; exact epoch_any a w

theorem kn_at (f n x : Int) (F : Bool) (w : World) (h : knowsR f n x = F) :
    Calls Tryd.prog 21 #[.agg #[.int .i64 f, .int .i64 n], .int .i64 x] w fun e w' => e = .returned (.bool F) ∧ Below w.heap.size w w' := by
  rw [← h]; exact knows_any f n x w

theorem root_any (a : Int) (w : World) : Calls Tryd.prog 12 #[.int .i64 a] w fun e w' => e = .returned (.agg #[.int .i64 (rootF a), .int .i64 (rootN a)]) ∧ Below w.heap.size w w' := by
  cases h : slotN a
  · have e1 : rootF a = 0 := by simp [rootF, h]
    have e2 : rootN a = 0 := by simp [rootN, h]
    have e3 : epV a = 0 := by simp [epV, h]
    have e4 : epE a = 1 := by simp [epE, h]
    rw [e1, e2]; clear e1 e2
    have E3 := Lib.hid e3; have E4 := Lib.hid e4; clear e3 e4
    go_enter Tryd.func12, Tryd.ntmps12
    go_wp2_with fail
    refine (ep_at a (0) 1 _ E3.out E4.out).mono ?_
    rintro e w1 ⟨rfl, hb1⟩
    have z0 : w1.cell? ⟨w.heap.size, 0, none⟩ = some (.int .i64 0) := keep1 hb1 (by simp)
    have Fz0 : w1.frozen? ⟨w.heap.size, 0, none⟩ = false := keepF hb1 (v := .int .i64 0) (by simp) ((frozen?_alloc_cells _ _ _ _).trans (frz_new (by first | (simp; done) | (simp only; omega))))
    have z1 : w1.cell? ⟨w.heap.size, 1, none⟩ = some (.int .i64 0) := keep1 hb1 (by simp)
    have Fz1 : w1.frozen? ⟨w.heap.size, 1, none⟩ = false := keepF hb1 (v := .int .i64 0) (by simp) ((frozen?_alloc_cells _ _ _ _).trans (frz_new (by first | (simp; done) | (simp only; omega))))
    have BB := bstep (ball (Below.refl w.heap.size w) _) hb1
    go_wp2_with fail
    refine bodyPost_ret (v := .agg #[.int .i64 (0), .int .i64 (0)]) (by simp [results, Tryd.results12, go_sem, z0, z1]) rfl ⟨rfl, ?_⟩
    repeat (first | exact BB | exact Below.refl _ _ | refine Below.setCell ?_ (by first | exact Nat.le_refl _ | (simp; done) | (simp; omega)) _ | refine Below.alloc ?_ (by simp <;> omega) _ | refine Below.drew ?_ | refine below_drewN ?_ _)
  · have e1 : rootF a = a / 2000 := by simp [rootF, h]
    have e2 : rootN a = a / 2000 + 2 := by simp [rootN, h]
    have e3 : epV a = a / 2000 := by simp [epV, h]
    have e4 : epE a = 0 := by simp [epE, h]
    have bd := epV_bd a
    rw [e3] at bd
    rw [e1, e2]; clear e1 e2
    have E3 := Lib.hid e3; have E4 := Lib.hid e4; clear e3 e4
    obtain ⟨q, hq⟩ : ∃ q, q = a / 2000 := ⟨_, rfl⟩
    rw [← hq] at bd E3 ⊢
    clear hq
    go_enter Tryd.func12, Tryd.ntmps12
    go_wp2_with fail
    refine (ep_at a (q) 0 _ E3.out E4.out).mono ?_
    rintro e w1 ⟨rfl, hb1⟩
    have z0 : w1.cell? ⟨w.heap.size, 0, none⟩ = some (.int .i64 0) := keep1 hb1 (by simp)
    have Fz0 : w1.frozen? ⟨w.heap.size, 0, none⟩ = false := keepF hb1 (v := .int .i64 0) (by simp) ((frozen?_alloc_cells _ _ _ _).trans (frz_new (by first | (simp; done) | (simp only; omega))))
    have z1 : w1.cell? ⟨w.heap.size, 1, none⟩ = some (.int .i64 0) := keep1 hb1 (by simp)
    have Fz1 : w1.frozen? ⟨w.heap.size, 1, none⟩ = false := keepF hb1 (v := .int .i64 0) (by simp) ((frozen?_alloc_cells _ _ _ _).trans (frz_new (by first | (simp; done) | (simp only; omega))))
    have BB := bstep (ball (Below.refl w.heap.size w) _) hb1
    go_wp2_with fail
    refine bodyPost_ret (v := .agg #[.int .i64 (q), .int .i64 (q + 2)]) (by simp [results, Tryd.results12, go_sem, z0, z1]) rfl ⟨rfl, ?_⟩
    repeat (first | exact BB | exact Below.refl _ _ | refine Below.setCell ?_ (by first | exact Nat.le_refl _ | (simp; done) | (simp; omega)) _ | refine Below.alloc ?_ (by simp <;> omega) _ | refine Below.drew ?_ | refine below_drewN ?_ _)
end Go.Proofs.YtgmabjlehjpboaaDoor
