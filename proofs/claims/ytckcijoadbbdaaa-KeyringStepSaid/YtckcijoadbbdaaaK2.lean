/- Proved: what the program's and the reference's functions on whole rings return: they are the same. Conditions: none, but that numbers fit their types. -/
import Derived.Test.YtckcijoadbbdaaaK1
namespace Go.Proofs.Ytckcijoadbbdaaa
open Go.RowKit Go.Sort
set_option linter.unusedVariables false
set_option linter.unusedSimpArgs false
attribute [local go_sem] cell_alloc_old

def rootF (a : Int) : Int := if slotN a then a / 2000 else 0
def rootN (a : Int) : Int := if slotN a then a / 2000 + 2 else 0
def learnC (f n g m a : Int) : Bool := slotN a && (knowsR f n (epV a) && (knowsR g m (epV a) && decide (m ≤ epV a + 2)))
def learnF (f n g m a : Int) : Int := if learnC f n g m a then min f g else f
def learnN (f n g m a : Int) : Int := if learnC f n g m a then max n m else n
def ageK (f n a : Int) : Bool := !slotN a || (!validR f n || decide (epV a ≤ f))
def ageF (f n a : Int) : Int := if ageK f n a then f else if n ≤ epV a then 0 else epV a
def ageN (f n a : Int) : Int := if ageK f n a then n else if n ≤ epV a then 0 else n

theorem ep_at (a v e : Int) (w : World) (h1 : epV a = v) (h2 : epE a = e) :
    Calls Try.prog 11 #[.int .i64 a] w fun x w' => x = .returned (.tuple #[.int .i64 v, .int .i64 e]) ∧ Below w.heap.size w w' := by
  rw [← h1, ← h2]; exact epoch_any a w
theorem rep_at (a v e : Int) (w : World) (h1 : epV a = v) (h2 : epE a = e) :
    Calls Try.prog 12 #[.int .i64 a] w fun x w' => x = .returned (.tuple #[.int .i64 v, .int .i64 e]) ∧ Below w.heap.size w w' := by
  rw [← h1, ← h2]; exact callsB (repoch_any a w)
theorem kn_at (f n x : Int) (F : Bool) (w : World) (h : knowsR f n x = F) :
    Calls Try.prog 13 #[.agg #[.int .i64 f, .int .i64 n], .int .i64 x] w fun e w' => e = .returned (.bool F) ∧ Below w.heap.size w w' := by
  rw [← h]; exact knows_any f n x w
theorem rkn_at (f n x : Int) (F : Bool) (w : World) (h : knowsR f n x = F) :
    Calls Try.prog 14 #[.agg #[.int .i64 f, .int .i64 n], .int .i64 x] w fun e w' => e = .returned (.bool F) ∧ Below w.heap.size w w' := by
  rw [← h]; exact (rknows_any f n x w).mono fun e w' ⟨a, b⟩ => ⟨a, b ▸ ball (ball (Below.refl _ _) _) _⟩
theorem va_at (f n : Int) (F : Bool) (w : World) (h : validR f n = F) :
    Calls Try.prog 29 #[.agg #[.int .i64 f, .int .i64 n]] w fun e w' => e = .returned (.bool F) ∧ Below w.heap.size w w' := by
  rw [← h]; exact valid_any f n w
theorem rva_at (f n : Int) (F : Bool) (w : World) (h : validR f n = F) :
    Calls Try.prog 28 #[.agg #[.int .i64 f, .int .i64 n]] w fun e w' => e = .returned (.bool F) ∧ Below w.heap.size w w' := by
  rw [← h]; exact (rvalid_any f n w).mono fun e w' ⟨a, b⟩ => ⟨a, b ▸ ball (Below.refl _ _) _⟩

theorem ring_any (f n : Int) (w : World) : Calls Try.prog 24 #[.int .i64 f, .int .i64 n] w fun e w' => e = .returned (.agg #[.int .i64 f, .int .i64 n]) ∧ Below w.heap.size w w' := by
  go_enter Try.func24, Try.ntmps24
  go_wp2_with fail
  refine bodyPost_ret (v := .agg #[.int .i64 f, .int .i64 n]) (by simp [results, Try.results24, go_sem]) rfl ⟨rfl, ?_⟩
  repeat (first | exact BB | exact Below.refl _ _ | refine Below.setCell ?_ (by first | exact Nat.le_refl _ | (simp; done) | (simp; omega)) _ | refine Below.alloc ?_ (by simp <;> omega) _ | refine Below.drew ?_ | refine below_drewN ?_ _)

theorem slot_any (n : Int) (w : World) (h0 : 0 ≤ n) (h1 : n ≤ 4294967295) : Calls Try.prog 21 #[.int .u32 n] w fun e w' => e = .returned (.int .i64 (n % 999996000)) ∧ w = w' := by
  have e1 : n.tmod 999996000 = n % 999996000 := Int.tmod_eq_emod_of_nonneg h0
  have E1 := Lib.hid e1; clear e1
  go_enter Try.func21, Try.ntmps21
  go_wp2
  go_ret
  exact ⟨by first | rfl | (rw [← E1.out]; rfl), rfl⟩

theorem root_any (a : Int) (w : World) : Calls Try.prog 15 #[.int .i64 a] w fun e w' => e = .returned (.agg #[.int .i64 (rootF a), .int .i64 (rootN a)]) ∧ Below w.heap.size w w' := by
  cases h : slotN a
  · have e1 : rootF a = 0 := by simp [rootF, h]
    have e2 : rootN a = 0 := by simp [rootN, h]
    have e3 : epV a = 0 := by simp [epV, h]
    have e4 : epE a = 1 := by simp [epE, h]
    rw [e1, e2]; clear e1 e2
    have E3 := Lib.hid e3; have E4 := Lib.hid e4; clear e3 e4
    go_enter Try.func15, Try.ntmps15
    go_wp2_with fail
    refine (ep_at a (0) 1 _ E3.out E4.out).mono ?_
    rintro e w1 ⟨rfl, hb1⟩
    have z0 : w1.cell? ⟨w.heap.size, 0, none⟩ = some (.int .i64 0) := keep1 hb1 (by simp)
    have Fz0 : w1.frozen? ⟨w.heap.size, 0, none⟩ = false := keepF hb1 (v := .int .i64 0) (by simp) ((frozen?_alloc_cells _ _ _ _).trans (frz_new (by first | (simp; done) | (simp only; omega))))
    have z1 : w1.cell? ⟨w.heap.size, 1, none⟩ = some (.int .i64 0) := keep1 hb1 (by simp)
    have Fz1 : w1.frozen? ⟨w.heap.size, 1, none⟩ = false := keepF hb1 (v := .int .i64 0) (by simp) ((frozen?_alloc_cells _ _ _ _).trans (frz_new (by first | (simp; done) | (simp only; omega))))
    have BB := bstep (ball (Below.refl w.heap.size w) _) hb1
    go_wp2_with fail
    refine bodyPost_ret (v := .agg #[.int .i64 (0), .int .i64 (0)]) (by simp [results, Try.results15, go_sem, z0, z1]) rfl ⟨rfl, ?_⟩
    repeat (first | exact BB | exact Below.refl _ _ | refine Below.setCell ?_ (by first | exact Nat.le_refl _ | (simp; done) | (simp; omega)) _ | refine Below.alloc ?_ (by simp <;> omega) _ | refine Below.drew ?_ | refine below_drewN ?_ _)
  · have e1 : rootF a = a / 2000 := by simp [rootF, h]
    have e2 : rootN a = a / 2000 + 2 := by simp [rootN, h]
    have e3 : epV a = a / 2000 := by simp [epV, h]
    have e4 : epE a = 0 := by simp [epE, h]
    have bd := epV_bd a
    rw [e3] at bd
    rw [e1, e2]; clear e1 e2
    have E3 := Lib.hid e3; have E4 := Lib.hid e4; clear e3 e4
    obtain ⟨q, hq⟩ : ∃ q, q = a / 2000 := ⟨_, rfl⟩
    rw [← hq] at bd E3 ⊢
    clear hq
    go_enter Try.func15, Try.ntmps15
    go_wp2_with fail
    refine (ep_at a (q) 0 _ E3.out E4.out).mono ?_
    rintro e w1 ⟨rfl, hb1⟩
    have z0 : w1.cell? ⟨w.heap.size, 0, none⟩ = some (.int .i64 0) := keep1 hb1 (by simp)
    have Fz0 : w1.frozen? ⟨w.heap.size, 0, none⟩ = false := keepF hb1 (v := .int .i64 0) (by simp) ((frozen?_alloc_cells _ _ _ _).trans (frz_new (by first | (simp; done) | (simp only; omega))))
    have z1 : w1.cell? ⟨w.heap.size, 1, none⟩ = some (.int .i64 0) := keep1 hb1 (by simp)
    have Fz1 : w1.frozen? ⟨w.heap.size, 1, none⟩ = false := keepF hb1 (v := .int .i64 0) (by simp) ((frozen?_alloc_cells _ _ _ _).trans (frz_new (by first | (simp; done) | (simp only; omega))))
    have BB := bstep (ball (Below.refl w.heap.size w) _) hb1
    go_wp2_with fail
    refine bodyPost_ret (v := .agg #[.int .i64 (q), .int .i64 (q + 2)]) (by simp [results, Try.results15, go_sem, z0, z1]) rfl ⟨rfl, ?_⟩
    repeat (first | exact BB | exact Below.refl _ _ | refine Below.setCell ?_ (by first | exact Nat.le_refl _ | (simp; done) | (simp; omega)) _ | refine Below.alloc ?_ (by simp <;> omega) _ | refine Below.drew ?_ | refine below_drewN ?_ _)
theorem rroot_any (a : Int) (w : World) : Calls Try.prog 16 #[.int .i64 a] w fun e w' => e = .returned (.agg #[.int .i64 (rootF a), .int .i64 (rootN a)]) ∧ Below w.heap.size w w' := by
  cases h : slotN a
  · have e1 : rootF a = 0 := by simp [rootF, h]
    have e2 : rootN a = 0 := by simp [rootN, h]
    have e3 : epV a = 0 := by simp [epV, h]
    have e4 : epE a = 1 := by simp [epE, h]
    rw [e1, e2]; clear e1 e2
    have E3 := Lib.hid e3; have E4 := Lib.hid e4; clear e3 e4
    go_enter Try.func16, Try.ntmps16
    go_wp2_with fail
    refine (rep_at a (0) 1 _ E3.out E4.out).mono ?_
    rintro e w1 ⟨rfl, hb1⟩
    have z0 : w1.cell? ⟨w.heap.size, 0, none⟩ = some (.int .i64 0) := keep1 hb1 (by simp)
    have Fz0 : w1.frozen? ⟨w.heap.size, 0, none⟩ = false := keepF hb1 (v := .int .i64 0) (by simp) ((frozen?_alloc_cells _ _ _ _).trans (frz_new (by first | (simp; done) | (simp only; omega))))
    have z1 : w1.cell? ⟨w.heap.size, 1, none⟩ = some (.int .i64 0) := keep1 hb1 (by simp)
    have Fz1 : w1.frozen? ⟨w.heap.size, 1, none⟩ = false := keepF hb1 (v := .int .i64 0) (by simp) ((frozen?_alloc_cells _ _ _ _).trans (frz_new (by first | (simp; done) | (simp only; omega))))
    have BB := bstep (ball (Below.refl w.heap.size w) _) hb1
    go_wp2_with fail
    refine bodyPost_ret (v := .agg #[.int .i64 (0), .int .i64 (0)]) (by simp [results, Try.results16, go_sem, z0, z1]) rfl ⟨rfl, ?_⟩
    repeat (first | exact BB | exact Below.refl _ _ | refine Below.setCell ?_ (by first | exact Nat.le_refl _ | (simp; done) | (simp; omega)) _ | refine Below.alloc ?_ (by simp <;> omega) _ | refine Below.drew ?_ | refine below_drewN ?_ _)
  · have e1 : rootF a = a / 2000 := by simp [rootF, h]
    have e2 : rootN a = a / 2000 + 2 := by simp [rootN, h]
    have e3 : epV a = a / 2000 := by simp [epV, h]
    have e4 : epE a = 0 := by simp [epE, h]
    have bd := epV_bd a
    rw [e3] at bd
    rw [e1, e2]; clear e1 e2
    have E3 := Lib.hid e3; have E4 := Lib.hid e4; clear e3 e4
    obtain ⟨q, hq⟩ : ∃ q, q = a / 2000 := ⟨_, rfl⟩
    rw [← hq] at bd E3 ⊢
    clear hq
    go_enter Try.func16, Try.ntmps16
    go_wp2_with fail
    refine (rep_at a (q) 0 _ E3.out E4.out).mono ?_
    rintro e w1 ⟨rfl, hb1⟩
    have z0 : w1.cell? ⟨w.heap.size, 0, none⟩ = some (.int .i64 0) := keep1 hb1 (by simp)
    have Fz0 : w1.frozen? ⟨w.heap.size, 0, none⟩ = false := keepF hb1 (v := .int .i64 0) (by simp) ((frozen?_alloc_cells _ _ _ _).trans (frz_new (by first | (simp; done) | (simp only; omega))))
    have z1 : w1.cell? ⟨w.heap.size, 1, none⟩ = some (.int .i64 0) := keep1 hb1 (by simp)
    have Fz1 : w1.frozen? ⟨w.heap.size, 1, none⟩ = false := keepF hb1 (v := .int .i64 0) (by simp) ((frozen?_alloc_cells _ _ _ _).trans (frz_new (by first | (simp; done) | (simp only; omega))))
    have BB := bstep (ball (Below.refl w.heap.size w) _) hb1
    go_wp2_with fail
    refine bodyPost_ret (v := .agg #[.int .i64 (q), .int .i64 (q + 2)]) (by simp [results, Try.results16, go_sem, z0, z1]) rfl ⟨rfl, ?_⟩
    repeat (first | exact BB | exact Below.refl _ _ | refine Below.setCell ?_ (by first | exact Nat.le_refl _ | (simp; done) | (simp; omega)) _ | refine Below.alloc ?_ (by simp <;> omega) _ | refine Below.drew ?_ | refine below_drewN ?_ _)

set_option maxHeartbeats 1000000 in
theorem learn_any (f n g m a : Int) (w : World) : Calls Try.prog 17 #[.agg #[.int .i64 f, .int .i64 n], .agg #[.int .i64 g, .int .i64 m], .int .i64 a] w fun e w' =>
    e = .returned (.agg #[.int .i64 (learnF f n g m a), .int .i64 (learnN f n g m a)]) ∧ Below w.heap.size w w' := by
  have bd := epV_bd a
  obtain ⟨q, hq⟩ : ∃ q, epV a = q := ⟨_, rfl⟩
  rw [hq] at bd
  have E3 := Lib.hid hq
  cases h : slotN a
  ·
    have hc : learnC f n g m a = false := by simp [learnC, h]
    have e1 : learnF f n g m a = f := by simp [learnF, hc]
    have e2 : learnN f n g m a = n := by simp [learnN, hc]
    rw [e1, e2]; clear e1 e2 hc
    have E4 : Hid (epE a = 1) := Lib.hid (by simp [epE, h])
    clear hq h
    go_enter Try.func17, Try.ntmps17
    go_wp2_with fail
    refine (ep_at a q 1 _ E3.out E4.out).mono ?_
    rintro e w1 ⟨rfl, hb1⟩
    have r0 : w1.cell? ⟨w.heap.size, 0, none⟩ = some (.int .i64 f) := keep1 hb1 (old1 (old1 (by simp) _) _)
    have Fr0 : w1.frozen? ⟨w.heap.size, 0, none⟩ = false := keepF hb1 (v := .int .i64 f) (old1 (old1 (by simp) _) _) ((frozen?_alloc_cells _ _ _ _).trans ((frozen?_alloc_cells _ _ _ _).trans ((frozen?_alloc_cells _ _ _ _).trans (frz_new (by first | (simp; done) | (simp only; omega))))))
    have r1 : w1.cell? ⟨w.heap.size, 1, none⟩ = some (.int .i64 n) := keep1 hb1 (old1 (old1 (by simp) _) _)
    have Fr1 : w1.frozen? ⟨w.heap.size, 1, none⟩ = false := keepF hb1 (v := .int .i64 n) (old1 (old1 (by simp) _) _) ((frozen?_alloc_cells _ _ _ _).trans ((frozen?_alloc_cells _ _ _ _).trans ((frozen?_alloc_cells _ _ _ _).trans (frz_new (by first | (simp; done) | (simp only; omega))))))
    have t0 : w1.cell? ⟨w.heap.size + 1, 0, none⟩ = some (.int .i64 g) := keep1 hb1 (old1 (by simp) _)
    have t1 : w1.cell? ⟨w.heap.size + 1, 1, none⟩ = some (.int .i64 m) := keep1 hb1 (old1 (by simp) _)
    have z0 : w1.cell? ⟨w.heap.size + 1 + 1, 0, none⟩ = some (.int .i64 0) := keep1 hb1 (new0 (by simp) rfl)
    have Fz0 : w1.frozen? ⟨w.heap.size + 1 + 1, 0, none⟩ = false := keepF hb1 (v := .int .i64 0) (new0 (by simp) rfl) ((frozen?_alloc_cells _ _ _ _).trans ((frozen?_alloc_cells _ _ _ _).trans ((frozen?_alloc_cells _ _ _ _).trans (frz_new (by first | (simp; done) | (simp only; omega))))))
    have z1 : w1.cell? ⟨w.heap.size + 1 + 1, 1, none⟩ = some (.int .i64 0) := keep1 hb1 (new0 (by simp) rfl)
    have Fz1 : w1.frozen? ⟨w.heap.size + 1 + 1, 1, none⟩ = false := keepF hb1 (v := .int .i64 0) (new0 (by simp) rfl) ((frozen?_alloc_cells _ _ _ _).trans ((frozen?_alloc_cells _ _ _ _).trans ((frozen?_alloc_cells _ _ _ _).trans (frz_new (by first | (simp; done) | (simp only; omega))))))
    have BB := bstep (ball (ball (ball (Below.refl w.heap.size w) _) _) _) hb1
    go_wp2_with fail
    refine bodyPost_ret (v := .agg #[.int .i64 (f), .int .i64 (n)]) (by simp [results, Try.results17, go_sem, r0, r1, z0, z1]) rfl ⟨rfl, ?_⟩
    repeat (first | exact BB | exact Below.refl _ _ | refine Below.setCell ?_ (by first | exact Nat.le_refl _ | (simp; done) | (simp; omega)) _ | refine Below.alloc ?_ (by simp <;> omega) _ | refine Below.drew ?_ | refine below_drewN ?_ _)
  · have E4 : Hid (epE a = 0) := Lib.hid (by simp [epE, h])
    cases h1 : knowsR f n q
    ·
      have hc : learnC f n g m a = false := by simp [learnC, hq, h1]
      have e1 : learnF f n g m a = f := by simp [learnF, hc]
      have e2 : learnN f n g m a = n := by simp [learnN, hc]
      rw [e1, e2]; clear e1 e2 hc
      have H1 := Lib.hid h1
      clear hq h h1
      go_enter Try.func17, Try.ntmps17
      go_wp2_with fail
      refine (ep_at a q 0 _ E3.out E4.out).mono ?_
      rintro e w1 ⟨rfl, hb1⟩
      have r0 : w1.cell? ⟨w.heap.size, 0, none⟩ = some (.int .i64 f) := keep1 hb1 (old1 (old1 (by simp) _) _)
      have Fr0 : w1.frozen? ⟨w.heap.size, 0, none⟩ = false := keepF hb1 (v := .int .i64 f) (old1 (old1 (by simp) _) _) ((frozen?_alloc_cells _ _ _ _).trans ((frozen?_alloc_cells _ _ _ _).trans ((frozen?_alloc_cells _ _ _ _).trans (frz_new (by first | (simp; done) | (simp only; omega))))))
      have r1 : w1.cell? ⟨w.heap.size, 1, none⟩ = some (.int .i64 n) := keep1 hb1 (old1 (old1 (by simp) _) _)
      have Fr1 : w1.frozen? ⟨w.heap.size, 1, none⟩ = false := keepF hb1 (v := .int .i64 n) (old1 (old1 (by simp) _) _) ((frozen?_alloc_cells _ _ _ _).trans ((frozen?_alloc_cells _ _ _ _).trans ((frozen?_alloc_cells _ _ _ _).trans (frz_new (by first | (simp; done) | (simp only; omega))))))
      have t0 : w1.cell? ⟨w.heap.size + 1, 0, none⟩ = some (.int .i64 g) := keep1 hb1 (old1 (by simp) _)
      have t1 : w1.cell? ⟨w.heap.size + 1, 1, none⟩ = some (.int .i64 m) := keep1 hb1 (old1 (by simp) _)
      have z0 : w1.cell? ⟨w.heap.size + 1 + 1, 0, none⟩ = some (.int .i64 0) := keep1 hb1 (new0 (by simp) rfl)
      have Fz0 : w1.frozen? ⟨w.heap.size + 1 + 1, 0, none⟩ = false := keepF hb1 (v := .int .i64 0) (new0 (by simp) rfl) ((frozen?_alloc_cells _ _ _ _).trans ((frozen?_alloc_cells _ _ _ _).trans ((frozen?_alloc_cells _ _ _ _).trans (frz_new (by first | (simp; done) | (simp only; omega))))))
      have z1 : w1.cell? ⟨w.heap.size + 1 + 1, 1, none⟩ = some (.int .i64 0) := keep1 hb1 (new0 (by simp) rfl)
      have Fz1 : w1.frozen? ⟨w.heap.size + 1 + 1, 1, none⟩ = false := keepF hb1 (v := .int .i64 0) (new0 (by simp) rfl) ((frozen?_alloc_cells _ _ _ _).trans ((frozen?_alloc_cells _ _ _ _).trans ((frozen?_alloc_cells _ _ _ _).trans (frz_new (by first | (simp; done) | (simp only; omega))))))
      have BB := bstep (ball (ball (ball (Below.refl w.heap.size w) _) _) _) hb1
      go_wp2_with fail
      refine (kn_at f n q false _ H1.out).mono ?_
      rintro e w2 ⟨rfl, hb2⟩
      have Fr0 := keepF hb2 (r0) (Fr0)
      have r0 := keep1 hb2 (r0)
      have Fr1 := keepF hb2 (r1) (Fr1)
      have r1 := keep1 hb2 (r1)
      have t0 := keep1 hb2 (t0)
      have t1 := keep1 hb2 (t1)
      have Fz0 := keepF hb2 (z0) (Fz0)
      have z0 := keep1 hb2 (z0)
      have Fz1 := keepF hb2 (z1) (Fz1)
      have z1 := keep1 hb2 (z1)
      have BB := bstep BB hb2
      go_wp2_with fail
      refine bodyPost_ret (v := .agg #[.int .i64 (f), .int .i64 (n)]) (by simp [results, Try.results17, go_sem, r0, r1, z0, z1]) rfl ⟨rfl, ?_⟩
      repeat (first | exact BB | exact Below.refl _ _ | refine Below.setCell ?_ (by first | exact Nat.le_refl _ | (simp; done) | (simp; omega)) _ | refine Below.alloc ?_ (by simp <;> omega) _ | refine Below.drew ?_ | refine below_drewN ?_ _)
    · have H1 := Lib.hid h1
      cases h2 : knowsR g m q
      ·
        have hc : learnC f n g m a = false := by simp [learnC, hq, h2]
        have e1 : learnF f n g m a = f := by simp [learnF, hc]
        have e2 : learnN f n g m a = n := by simp [learnN, hc]
        rw [e1, e2]; clear e1 e2 hc
        have H2 := Lib.hid h2
        clear hq h h1 h2
        go_enter Try.func17, Try.ntmps17
        go_wp2_with fail
        refine (ep_at a q 0 _ E3.out E4.out).mono ?_
        rintro e w1 ⟨rfl, hb1⟩
        have r0 : w1.cell? ⟨w.heap.size, 0, none⟩ = some (.int .i64 f) := keep1 hb1 (old1 (old1 (by simp) _) _)
        have Fr0 : w1.frozen? ⟨w.heap.size, 0, none⟩ = false := keepF hb1 (v := .int .i64 f) (old1 (old1 (by simp) _) _) ((frozen?_alloc_cells _ _ _ _).trans ((frozen?_alloc_cells _ _ _ _).trans ((frozen?_alloc_cells _ _ _ _).trans (frz_new (by first | (simp; done) | (simp only; omega))))))
        have r1 : w1.cell? ⟨w.heap.size, 1, none⟩ = some (.int .i64 n) := keep1 hb1 (old1 (old1 (by simp) _) _)
        have Fr1 : w1.frozen? ⟨w.heap.size, 1, none⟩ = false := keepF hb1 (v := .int .i64 n) (old1 (old1 (by simp) _) _) ((frozen?_alloc_cells _ _ _ _).trans ((frozen?_alloc_cells _ _ _ _).trans ((frozen?_alloc_cells _ _ _ _).trans (frz_new (by first | (simp; done) | (simp only; omega))))))
        have t0 : w1.cell? ⟨w.heap.size + 1, 0, none⟩ = some (.int .i64 g) := keep1 hb1 (old1 (by simp) _)
        have t1 : w1.cell? ⟨w.heap.size + 1, 1, none⟩ = some (.int .i64 m) := keep1 hb1 (old1 (by simp) _)
        have z0 : w1.cell? ⟨w.heap.size + 1 + 1, 0, none⟩ = some (.int .i64 0) := keep1 hb1 (new0 (by simp) rfl)
        have Fz0 : w1.frozen? ⟨w.heap.size + 1 + 1, 0, none⟩ = false := keepF hb1 (v := .int .i64 0) (new0 (by simp) rfl) ((frozen?_alloc_cells _ _ _ _).trans ((frozen?_alloc_cells _ _ _ _).trans ((frozen?_alloc_cells _ _ _ _).trans (frz_new (by first | (simp; done) | (simp only; omega))))))
        have z1 : w1.cell? ⟨w.heap.size + 1 + 1, 1, none⟩ = some (.int .i64 0) := keep1 hb1 (new0 (by simp) rfl)
        have Fz1 : w1.frozen? ⟨w.heap.size + 1 + 1, 1, none⟩ = false := keepF hb1 (v := .int .i64 0) (new0 (by simp) rfl) ((frozen?_alloc_cells _ _ _ _).trans ((frozen?_alloc_cells _ _ _ _).trans ((frozen?_alloc_cells _ _ _ _).trans (frz_new (by first | (simp; done) | (simp only; omega))))))
        have BB := bstep (ball (ball (ball (Below.refl w.heap.size w) _) _) _) hb1
        go_wp2_with fail
        refine (kn_at f n q true _ H1.out).mono ?_
        rintro e w2 ⟨rfl, hb2⟩
        have Fr0 := keepF hb2 (r0) (Fr0)
        have r0 := keep1 hb2 (r0)
        have Fr1 := keepF hb2 (r1) (Fr1)
        have r1 := keep1 hb2 (r1)
        have t0 := keep1 hb2 (t0)
        have t1 := keep1 hb2 (t1)
        have Fz0 := keepF hb2 (z0) (Fz0)
        have z0 := keep1 hb2 (z0)
        have Fz1 := keepF hb2 (z1) (Fz1)
        have z1 := keep1 hb2 (z1)
        have BB := bstep BB hb2
        go_wp2_with fail
        refine (kn_at g m q false _ H2.out).mono ?_
        rintro e w3 ⟨rfl, hb3⟩
        have Fr0 := keepF hb3 (r0) (Fr0)
        have r0 := keep1 hb3 (r0)
        have Fr1 := keepF hb3 (r1) (Fr1)
        have r1 := keep1 hb3 (r1)
        have t0 := keep1 hb3 (t0)
        have t1 := keep1 hb3 (t1)
        have Fz0 := keepF hb3 (z0) (Fz0)
        have z0 := keep1 hb3 (z0)
        have Fz1 := keepF hb3 (z1) (Fz1)
        have z1 := keep1 hb3 (z1)
        have BB := bstep BB hb3
        go_wp2_with fail
        refine bodyPost_ret (v := .agg #[.int .i64 (f), .int .i64 (n)]) (by simp [results, Try.results17, go_sem, r0, r1, z0, z1]) rfl ⟨rfl, ?_⟩
        repeat (first | exact BB | exact Below.refl _ _ | refine Below.setCell ?_ (by first | exact Nat.le_refl _ | (simp; done) | (simp; omega)) _ | refine Below.alloc ?_ (by simp <;> omega) _ | refine Below.drew ?_ | refine below_drewN ?_ _)
      · have H2 := Lib.hid h2
        by_cases h3 : m ≤ q + 2
        ·
          have hc : learnC f n g m a = true := by simp [learnC, hq, h, h1, h2, h3]
          have e1 : learnF f n g m a = min f g := by simp [learnF, hc]
          have e2 : learnN f n g m a = max n m := by simp [learnN, hc]
          rw [e1, e2]; clear e1 e2 hc hq h h1 h2
          go_enter Try.func17, Try.ntmps17
          go_wp2_with fail
          refine (ep_at a q 0 _ E3.out E4.out).mono ?_
          rintro e w1 ⟨rfl, hb1⟩
          have r0 : w1.cell? ⟨w.heap.size, 0, none⟩ = some (.int .i64 f) := keep1 hb1 (old1 (old1 (by simp) _) _)
          have Fr0 : w1.frozen? ⟨w.heap.size, 0, none⟩ = false := keepF hb1 (v := .int .i64 f) (old1 (old1 (by simp) _) _) ((frozen?_alloc_cells _ _ _ _).trans ((frozen?_alloc_cells _ _ _ _).trans ((frozen?_alloc_cells _ _ _ _).trans (frz_new (by first | (simp; done) | (simp only; omega))))))
          have r1 : w1.cell? ⟨w.heap.size, 1, none⟩ = some (.int .i64 n) := keep1 hb1 (old1 (old1 (by simp) _) _)
          have Fr1 : w1.frozen? ⟨w.heap.size, 1, none⟩ = false := keepF hb1 (v := .int .i64 n) (old1 (old1 (by simp) _) _) ((frozen?_alloc_cells _ _ _ _).trans ((frozen?_alloc_cells _ _ _ _).trans ((frozen?_alloc_cells _ _ _ _).trans (frz_new (by first | (simp; done) | (simp only; omega))))))
          have t0 : w1.cell? ⟨w.heap.size + 1, 0, none⟩ = some (.int .i64 g) := keep1 hb1 (old1 (by simp) _)
          have t1 : w1.cell? ⟨w.heap.size + 1, 1, none⟩ = some (.int .i64 m) := keep1 hb1 (old1 (by simp) _)
          have z0 : w1.cell? ⟨w.heap.size + 1 + 1, 0, none⟩ = some (.int .i64 0) := keep1 hb1 (new0 (by simp) rfl)
          have Fz0 : w1.frozen? ⟨w.heap.size + 1 + 1, 0, none⟩ = false := keepF hb1 (v := .int .i64 0) (new0 (by simp) rfl) ((frozen?_alloc_cells _ _ _ _).trans ((frozen?_alloc_cells _ _ _ _).trans ((frozen?_alloc_cells _ _ _ _).trans (frz_new (by first | (simp; done) | (simp only; omega))))))
          have z1 : w1.cell? ⟨w.heap.size + 1 + 1, 1, none⟩ = some (.int .i64 0) := keep1 hb1 (new0 (by simp) rfl)
          have Fz1 : w1.frozen? ⟨w.heap.size + 1 + 1, 1, none⟩ = false := keepF hb1 (v := .int .i64 0) (new0 (by simp) rfl) ((frozen?_alloc_cells _ _ _ _).trans ((frozen?_alloc_cells _ _ _ _).trans ((frozen?_alloc_cells _ _ _ _).trans (frz_new (by first | (simp; done) | (simp only; omega))))))
          have BB := bstep (ball (ball (ball (Below.refl w.heap.size w) _) _) _) hb1
          go_wp2_with fail
          refine (kn_at f n q true _ H1.out).mono ?_
          rintro e w2 ⟨rfl, hb2⟩
          have Fr0 := keepF hb2 (r0) (Fr0)
          have r0 := keep1 hb2 (r0)
          have Fr1 := keepF hb2 (r1) (Fr1)
          have r1 := keep1 hb2 (r1)
          have t0 := keep1 hb2 (t0)
          have t1 := keep1 hb2 (t1)
          have Fz0 := keepF hb2 (z0) (Fz0)
          have z0 := keep1 hb2 (z0)
          have Fz1 := keepF hb2 (z1) (Fz1)
          have z1 := keep1 hb2 (z1)
          have BB := bstep BB hb2
          go_wp2_with fail
          refine (kn_at g m q true _ H2.out).mono ?_
          rintro e w3 ⟨rfl, hb3⟩
          have Fr0 := keepF hb3 (r0) (Fr0)
          have r0 := keep1 hb3 (r0)
          have Fr1 := keepF hb3 (r1) (Fr1)
          have r1 := keep1 hb3 (r1)
          have t0 := keep1 hb3 (t0)
          have t1 := keep1 hb3 (t1)
          have Fz0 := keepF hb3 (z0) (Fz0)
          have z0 := keep1 hb3 (z0)
          have Fz1 := keepF hb3 (z1) (Fz1)
          have z1 := keep1 hb3 (z1)
          have BB := bstep BB hb3
          go_wp2_with fail
          go_region
          all_goals
            go_wp2_with fail
            refine bodyPost_ret (v := .agg #[.int .i64 (min f g), .int .i64 (max n m)]) (by simp [results, Try.results17, go_sem, r0, r1, z0, z1]) rfl ⟨rfl, ?_⟩
            repeat (first | exact BB | exact Below.refl _ _ | refine Below.setCell ?_ (by first | exact Nat.le_refl _ | (simp; done) | (simp; omega)) _ | refine Below.alloc ?_ (by simp <;> omega) _ | refine Below.drew ?_ | refine below_drewN ?_ _)
        ·
          have hc : learnC f n g m a = false := by simp [learnC, hq, h3]
          have e1 : learnF f n g m a = f := by simp [learnF, hc]
          have e2 : learnN f n g m a = n := by simp [learnN, hc]
          rw [e1, e2]; clear e1 e2 hc
          have h3' : ¬ m ≤ q + 2 := h3
          clear hq h h1 h2
          go_enter Try.func17, Try.ntmps17
          go_wp2_with fail
          refine (ep_at a q 0 _ E3.out E4.out).mono ?_
          rintro e w1 ⟨rfl, hb1⟩
          have r0 : w1.cell? ⟨w.heap.size, 0, none⟩ = some (.int .i64 f) := keep1 hb1 (old1 (old1 (by simp) _) _)
          have Fr0 : w1.frozen? ⟨w.heap.size, 0, none⟩ = false := keepF hb1 (v := .int .i64 f) (old1 (old1 (by simp) _) _) ((frozen?_alloc_cells _ _ _ _).trans ((frozen?_alloc_cells _ _ _ _).trans ((frozen?_alloc_cells _ _ _ _).trans (frz_new (by first | (simp; done) | (simp only; omega))))))
          have r1 : w1.cell? ⟨w.heap.size, 1, none⟩ = some (.int .i64 n) := keep1 hb1 (old1 (old1 (by simp) _) _)
          have Fr1 : w1.frozen? ⟨w.heap.size, 1, none⟩ = false := keepF hb1 (v := .int .i64 n) (old1 (old1 (by simp) _) _) ((frozen?_alloc_cells _ _ _ _).trans ((frozen?_alloc_cells _ _ _ _).trans ((frozen?_alloc_cells _ _ _ _).trans (frz_new (by first | (simp; done) | (simp only; omega))))))
          have t0 : w1.cell? ⟨w.heap.size + 1, 0, none⟩ = some (.int .i64 g) := keep1 hb1 (old1 (by simp) _)
          have t1 : w1.cell? ⟨w.heap.size + 1, 1, none⟩ = some (.int .i64 m) := keep1 hb1 (old1 (by simp) _)
          have z0 : w1.cell? ⟨w.heap.size + 1 + 1, 0, none⟩ = some (.int .i64 0) := keep1 hb1 (new0 (by simp) rfl)
          have Fz0 : w1.frozen? ⟨w.heap.size + 1 + 1, 0, none⟩ = false := keepF hb1 (v := .int .i64 0) (new0 (by simp) rfl) ((frozen?_alloc_cells _ _ _ _).trans ((frozen?_alloc_cells _ _ _ _).trans ((frozen?_alloc_cells _ _ _ _).trans (frz_new (by first | (simp; done) | (simp only; omega))))))
          have z1 : w1.cell? ⟨w.heap.size + 1 + 1, 1, none⟩ = some (.int .i64 0) := keep1 hb1 (new0 (by simp) rfl)
          have Fz1 : w1.frozen? ⟨w.heap.size + 1 + 1, 1, none⟩ = false := keepF hb1 (v := .int .i64 0) (new0 (by simp) rfl) ((frozen?_alloc_cells _ _ _ _).trans ((frozen?_alloc_cells _ _ _ _).trans ((frozen?_alloc_cells _ _ _ _).trans (frz_new (by first | (simp; done) | (simp only; omega))))))
          have BB := bstep (ball (ball (ball (Below.refl w.heap.size w) _) _) _) hb1
          go_wp2_with fail
          refine (kn_at f n q true _ H1.out).mono ?_
          rintro e w2 ⟨rfl, hb2⟩
          have Fr0 := keepF hb2 (r0) (Fr0)
          have r0 := keep1 hb2 (r0)
          have Fr1 := keepF hb2 (r1) (Fr1)
          have r1 := keep1 hb2 (r1)
          have t0 := keep1 hb2 (t0)
          have t1 := keep1 hb2 (t1)
          have Fz0 := keepF hb2 (z0) (Fz0)
          have z0 := keep1 hb2 (z0)
          have Fz1 := keepF hb2 (z1) (Fz1)
          have z1 := keep1 hb2 (z1)
          have BB := bstep BB hb2
          go_wp2_with fail
          refine (kn_at g m q true _ H2.out).mono ?_
          rintro e w3 ⟨rfl, hb3⟩
          have Fr0 := keepF hb3 (r0) (Fr0)
          have r0 := keep1 hb3 (r0)
          have Fr1 := keepF hb3 (r1) (Fr1)
          have r1 := keep1 hb3 (r1)
          have t0 := keep1 hb3 (t0)
          have t1 := keep1 hb3 (t1)
          have Fz0 := keepF hb3 (z0) (Fz0)
          have z0 := keep1 hb3 (z0)
          have Fz1 := keepF hb3 (z1) (Fz1)
          have z1 := keep1 hb3 (z1)
          have BB := bstep BB hb3
          go_wp2_with fail
          refine bodyPost_ret (v := .agg #[.int .i64 (f), .int .i64 (n)]) (by simp [results, Try.results17, go_sem, r0, r1, z0, z1]) rfl ⟨rfl, ?_⟩
          repeat (first | exact BB | exact Below.refl _ _ | refine Below.setCell ?_ (by first | exact Nat.le_refl _ | (simp; done) | (simp; omega)) _ | refine Below.alloc ?_ (by simp <;> omega) _ | refine Below.drew ?_ | refine below_drewN ?_ _)

set_option maxHeartbeats 1000000 in
theorem rlearn_any (f n g m a : Int) (w : World) : Calls Try.prog 18 #[.agg #[.int .i64 f, .int .i64 n], .agg #[.int .i64 g, .int .i64 m], .int .i64 a] w fun e w' =>
    e = .returned (.agg #[.int .i64 (learnF f n g m a), .int .i64 (learnN f n g m a)]) ∧ Below w.heap.size w w' := by
  have bd := epV_bd a
  obtain ⟨q, hq⟩ : ∃ q, epV a = q := ⟨_, rfl⟩
  rw [hq] at bd
  have E3 := Lib.hid hq
  cases h : slotN a
  ·
    have hc : learnC f n g m a = false := by simp [learnC, h]
    have e1 : learnF f n g m a = f := by simp [learnF, hc]
    have e2 : learnN f n g m a = n := by simp [learnN, hc]
    rw [e1, e2]; clear e1 e2 hc
    have E4 : Hid (epE a = 1) := Lib.hid (by simp [epE, h])
    clear hq h
    go_enter Try.func18, Try.ntmps18
    go_wp2_with fail
    refine (rep_at a q 1 _ E3.out E4.out).mono ?_
    rintro e w1 ⟨rfl, hb1⟩
    have r0 : w1.cell? ⟨w.heap.size, 0, none⟩ = some (.int .i64 f) := keep1 hb1 (old1 (old1 (by simp) _) _)
    have Fr0 : w1.frozen? ⟨w.heap.size, 0, none⟩ = false := keepF hb1 (v := .int .i64 f) (old1 (old1 (by simp) _) _) ((frozen?_alloc_cells _ _ _ _).trans ((frozen?_alloc_cells _ _ _ _).trans ((frozen?_alloc_cells _ _ _ _).trans (frz_new (by first | (simp; done) | (simp only; omega))))))
    have r1 : w1.cell? ⟨w.heap.size, 1, none⟩ = some (.int .i64 n) := keep1 hb1 (old1 (old1 (by simp) _) _)
    have Fr1 : w1.frozen? ⟨w.heap.size, 1, none⟩ = false := keepF hb1 (v := .int .i64 n) (old1 (old1 (by simp) _) _) ((frozen?_alloc_cells _ _ _ _).trans ((frozen?_alloc_cells _ _ _ _).trans ((frozen?_alloc_cells _ _ _ _).trans (frz_new (by first | (simp; done) | (simp only; omega))))))
    have t0 : w1.cell? ⟨w.heap.size + 1, 0, none⟩ = some (.int .i64 g) := keep1 hb1 (old1 (by simp) _)
    have t1 : w1.cell? ⟨w.heap.size + 1, 1, none⟩ = some (.int .i64 m) := keep1 hb1 (old1 (by simp) _)
    have z0 : w1.cell? ⟨w.heap.size + 1 + 1, 0, none⟩ = some (.int .i64 0) := keep1 hb1 (new0 (by simp) rfl)
    have Fz0 : w1.frozen? ⟨w.heap.size + 1 + 1, 0, none⟩ = false := keepF hb1 (v := .int .i64 0) (new0 (by simp) rfl) ((frozen?_alloc_cells _ _ _ _).trans ((frozen?_alloc_cells _ _ _ _).trans ((frozen?_alloc_cells _ _ _ _).trans (frz_new (by first | (simp; done) | (simp only; omega))))))
    have z1 : w1.cell? ⟨w.heap.size + 1 + 1, 1, none⟩ = some (.int .i64 0) := keep1 hb1 (new0 (by simp) rfl)
    have Fz1 : w1.frozen? ⟨w.heap.size + 1 + 1, 1, none⟩ = false := keepF hb1 (v := .int .i64 0) (new0 (by simp) rfl) ((frozen?_alloc_cells _ _ _ _).trans ((frozen?_alloc_cells _ _ _ _).trans ((frozen?_alloc_cells _ _ _ _).trans (frz_new (by first | (simp; done) | (simp only; omega))))))
    have BB := bstep (ball (ball (ball (Below.refl w.heap.size w) _) _) _) hb1
    go_wp2_with fail
    refine bodyPost_ret (v := .agg #[.int .i64 (f), .int .i64 (n)]) (by simp [results, Try.results18, go_sem, r0, r1, z0, z1]) rfl ⟨rfl, ?_⟩
    repeat (first | exact BB | exact Below.refl _ _ | refine Below.setCell ?_ (by first | exact Nat.le_refl _ | (simp; done) | (simp; omega)) _ | refine Below.alloc ?_ (by simp <;> omega) _ | refine Below.drew ?_ | refine below_drewN ?_ _)
  · have E4 : Hid (epE a = 0) := Lib.hid (by simp [epE, h])
    cases h1 : knowsR f n q
    ·
      have hc : learnC f n g m a = false := by simp [learnC, hq, h1]
      have e1 : learnF f n g m a = f := by simp [learnF, hc]
      have e2 : learnN f n g m a = n := by simp [learnN, hc]
      rw [e1, e2]; clear e1 e2 hc
      have H1 := Lib.hid h1
      clear hq h h1
      go_enter Try.func18, Try.ntmps18
      go_wp2_with fail
      refine (rep_at a q 0 _ E3.out E4.out).mono ?_
      rintro e w1 ⟨rfl, hb1⟩
      have r0 : w1.cell? ⟨w.heap.size, 0, none⟩ = some (.int .i64 f) := keep1 hb1 (old1 (old1 (by simp) _) _)
      have Fr0 : w1.frozen? ⟨w.heap.size, 0, none⟩ = false := keepF hb1 (v := .int .i64 f) (old1 (old1 (by simp) _) _) ((frozen?_alloc_cells _ _ _ _).trans ((frozen?_alloc_cells _ _ _ _).trans ((frozen?_alloc_cells _ _ _ _).trans (frz_new (by first | (simp; done) | (simp only; omega))))))
      have r1 : w1.cell? ⟨w.heap.size, 1, none⟩ = some (.int .i64 n) := keep1 hb1 (old1 (old1 (by simp) _) _)
      have Fr1 : w1.frozen? ⟨w.heap.size, 1, none⟩ = false := keepF hb1 (v := .int .i64 n) (old1 (old1 (by simp) _) _) ((frozen?_alloc_cells _ _ _ _).trans ((frozen?_alloc_cells _ _ _ _).trans ((frozen?_alloc_cells _ _ _ _).trans (frz_new (by first | (simp; done) | (simp only; omega))))))
      have t0 : w1.cell? ⟨w.heap.size + 1, 0, none⟩ = some (.int .i64 g) := keep1 hb1 (old1 (by simp) _)
      have t1 : w1.cell? ⟨w.heap.size + 1, 1, none⟩ = some (.int .i64 m) := keep1 hb1 (old1 (by simp) _)
      have z0 : w1.cell? ⟨w.heap.size + 1 + 1, 0, none⟩ = some (.int .i64 0) := keep1 hb1 (new0 (by simp) rfl)
      have Fz0 : w1.frozen? ⟨w.heap.size + 1 + 1, 0, none⟩ = false := keepF hb1 (v := .int .i64 0) (new0 (by simp) rfl) ((frozen?_alloc_cells _ _ _ _).trans ((frozen?_alloc_cells _ _ _ _).trans ((frozen?_alloc_cells _ _ _ _).trans (frz_new (by first | (simp; done) | (simp only; omega))))))
      have z1 : w1.cell? ⟨w.heap.size + 1 + 1, 1, none⟩ = some (.int .i64 0) := keep1 hb1 (new0 (by simp) rfl)
      have Fz1 : w1.frozen? ⟨w.heap.size + 1 + 1, 1, none⟩ = false := keepF hb1 (v := .int .i64 0) (new0 (by simp) rfl) ((frozen?_alloc_cells _ _ _ _).trans ((frozen?_alloc_cells _ _ _ _).trans ((frozen?_alloc_cells _ _ _ _).trans (frz_new (by first | (simp; done) | (simp only; omega))))))
      have BB := bstep (ball (ball (ball (Below.refl w.heap.size w) _) _) _) hb1
      go_wp2_with fail
      refine (rkn_at f n q false _ H1.out).mono ?_
      rintro e w2 ⟨rfl, hb2⟩
      have Fr0 := keepF hb2 (r0) (Fr0)
      have r0 := keep1 hb2 (r0)
      have Fr1 := keepF hb2 (r1) (Fr1)
      have r1 := keep1 hb2 (r1)
      have t0 := keep1 hb2 (t0)
      have t1 := keep1 hb2 (t1)
      have Fz0 := keepF hb2 (z0) (Fz0)
      have z0 := keep1 hb2 (z0)
      have Fz1 := keepF hb2 (z1) (Fz1)
      have z1 := keep1 hb2 (z1)
      have BB := bstep BB hb2
      go_wp2_with fail
      refine bodyPost_ret (v := .agg #[.int .i64 (f), .int .i64 (n)]) (by simp [results, Try.results18, go_sem, r0, r1, z0, z1]) rfl ⟨rfl, ?_⟩
      repeat (first | exact BB | exact Below.refl _ _ | refine Below.setCell ?_ (by first | exact Nat.le_refl _ | (simp; done) | (simp; omega)) _ | refine Below.alloc ?_ (by simp <;> omega) _ | refine Below.drew ?_ | refine below_drewN ?_ _)
    · have H1 := Lib.hid h1
      cases h2 : knowsR g m q
      ·
        have hc : learnC f n g m a = false := by simp [learnC, hq, h2]
        have e1 : learnF f n g m a = f := by simp [learnF, hc]
        have e2 : learnN f n g m a = n := by simp [learnN, hc]
        rw [e1, e2]; clear e1 e2 hc
        have H2 := Lib.hid h2
        clear hq h h1 h2
        go_enter Try.func18, Try.ntmps18
        go_wp2_with fail
        refine (rep_at a q 0 _ E3.out E4.out).mono ?_
        rintro e w1 ⟨rfl, hb1⟩
        have r0 : w1.cell? ⟨w.heap.size, 0, none⟩ = some (.int .i64 f) := keep1 hb1 (old1 (old1 (by simp) _) _)
        have Fr0 : w1.frozen? ⟨w.heap.size, 0, none⟩ = false := keepF hb1 (v := .int .i64 f) (old1 (old1 (by simp) _) _) ((frozen?_alloc_cells _ _ _ _).trans ((frozen?_alloc_cells _ _ _ _).trans ((frozen?_alloc_cells _ _ _ _).trans (frz_new (by first | (simp; done) | (simp only; omega))))))
        have r1 : w1.cell? ⟨w.heap.size, 1, none⟩ = some (.int .i64 n) := keep1 hb1 (old1 (old1 (by simp) _) _)
        have Fr1 : w1.frozen? ⟨w.heap.size, 1, none⟩ = false := keepF hb1 (v := .int .i64 n) (old1 (old1 (by simp) _) _) ((frozen?_alloc_cells _ _ _ _).trans ((frozen?_alloc_cells _ _ _ _).trans ((frozen?_alloc_cells _ _ _ _).trans (frz_new (by first | (simp; done) | (simp only; omega))))))
        have t0 : w1.cell? ⟨w.heap.size + 1, 0, none⟩ = some (.int .i64 g) := keep1 hb1 (old1 (by simp) _)
        have t1 : w1.cell? ⟨w.heap.size + 1, 1, none⟩ = some (.int .i64 m) := keep1 hb1 (old1 (by simp) _)
        have z0 : w1.cell? ⟨w.heap.size + 1 + 1, 0, none⟩ = some (.int .i64 0) := keep1 hb1 (new0 (by simp) rfl)
        have Fz0 : w1.frozen? ⟨w.heap.size + 1 + 1, 0, none⟩ = false := keepF hb1 (v := .int .i64 0) (new0 (by simp) rfl) ((frozen?_alloc_cells _ _ _ _).trans ((frozen?_alloc_cells _ _ _ _).trans ((frozen?_alloc_cells _ _ _ _).trans (frz_new (by first | (simp; done) | (simp only; omega))))))
        have z1 : w1.cell? ⟨w.heap.size + 1 + 1, 1, none⟩ = some (.int .i64 0) := keep1 hb1 (new0 (by simp) rfl)
        have Fz1 : w1.frozen? ⟨w.heap.size + 1 + 1, 1, none⟩ = false := keepF hb1 (v := .int .i64 0) (new0 (by simp) rfl) ((frozen?_alloc_cells _ _ _ _).trans ((frozen?_alloc_cells _ _ _ _).trans ((frozen?_alloc_cells _ _ _ _).trans (frz_new (by first | (simp; done) | (simp only; omega))))))
        have BB := bstep (ball (ball (ball (Below.refl w.heap.size w) _) _) _) hb1
        go_wp2_with fail
        refine (rkn_at f n q true _ H1.out).mono ?_
        rintro e w2 ⟨rfl, hb2⟩
        have Fr0 := keepF hb2 (r0) (Fr0)
        have r0 := keep1 hb2 (r0)
        have Fr1 := keepF hb2 (r1) (Fr1)
        have r1 := keep1 hb2 (r1)
        have t0 := keep1 hb2 (t0)
        have t1 := keep1 hb2 (t1)
        have Fz0 := keepF hb2 (z0) (Fz0)
        have z0 := keep1 hb2 (z0)
        have Fz1 := keepF hb2 (z1) (Fz1)
        have z1 := keep1 hb2 (z1)
        have BB := bstep BB hb2
        go_wp2_with fail
        refine (rkn_at g m q false _ H2.out).mono ?_
        rintro e w3 ⟨rfl, hb3⟩
        have Fr0 := keepF hb3 (r0) (Fr0)
        have r0 := keep1 hb3 (r0)
        have Fr1 := keepF hb3 (r1) (Fr1)
        have r1 := keep1 hb3 (r1)
        have t0 := keep1 hb3 (t0)
        have t1 := keep1 hb3 (t1)
        have Fz0 := keepF hb3 (z0) (Fz0)
        have z0 := keep1 hb3 (z0)
        have Fz1 := keepF hb3 (z1) (Fz1)
        have z1 := keep1 hb3 (z1)
        have BB := bstep BB hb3
        go_wp2_with fail
        refine bodyPost_ret (v := .agg #[.int .i64 (f), .int .i64 (n)]) (by simp [results, Try.results18, go_sem, r0, r1, z0, z1]) rfl ⟨rfl, ?_⟩
        repeat (first | exact BB | exact Below.refl _ _ | refine Below.setCell ?_ (by first | exact Nat.le_refl _ | (simp; done) | (simp; omega)) _ | refine Below.alloc ?_ (by simp <;> omega) _ | refine Below.drew ?_ | refine below_drewN ?_ _)
      · have H2 := Lib.hid h2
        by_cases h3 : m ≤ q + 2
        ·
          have hc : learnC f n g m a = true := by simp [learnC, hq, h, h1, h2, h3]
          have e1 : learnF f n g m a = min f g := by simp [learnF, hc]
          have e2 : learnN f n g m a = max n m := by simp [learnN, hc]
          rw [e1, e2]; clear e1 e2 hc hq h h1 h2
          go_enter Try.func18, Try.ntmps18
          go_wp2_with fail
          refine (rep_at a q 0 _ E3.out E4.out).mono ?_
          rintro e w1 ⟨rfl, hb1⟩
          have r0 : w1.cell? ⟨w.heap.size, 0, none⟩ = some (.int .i64 f) := keep1 hb1 (old1 (old1 (by simp) _) _)
          have Fr0 : w1.frozen? ⟨w.heap.size, 0, none⟩ = false := keepF hb1 (v := .int .i64 f) (old1 (old1 (by simp) _) _) ((frozen?_alloc_cells _ _ _ _).trans ((frozen?_alloc_cells _ _ _ _).trans ((frozen?_alloc_cells _ _ _ _).trans (frz_new (by first | (simp; done) | (simp only; omega))))))
          have r1 : w1.cell? ⟨w.heap.size, 1, none⟩ = some (.int .i64 n) := keep1 hb1 (old1 (old1 (by simp) _) _)
          have Fr1 : w1.frozen? ⟨w.heap.size, 1, none⟩ = false := keepF hb1 (v := .int .i64 n) (old1 (old1 (by simp) _) _) ((frozen?_alloc_cells _ _ _ _).trans ((frozen?_alloc_cells _ _ _ _).trans ((frozen?_alloc_cells _ _ _ _).trans (frz_new (by first | (simp; done) | (simp only; omega))))))
          have t0 : w1.cell? ⟨w.heap.size + 1, 0, none⟩ = some (.int .i64 g) := keep1 hb1 (old1 (by simp) _)
          have t1 : w1.cell? ⟨w.heap.size + 1, 1, none⟩ = some (.int .i64 m) := keep1 hb1 (old1 (by simp) _)
          have z0 : w1.cell? ⟨w.heap.size + 1 + 1, 0, none⟩ = some (.int .i64 0) := keep1 hb1 (new0 (by simp) rfl)
          have Fz0 : w1.frozen? ⟨w.heap.size + 1 + 1, 0, none⟩ = false := keepF hb1 (v := .int .i64 0) (new0 (by simp) rfl) ((frozen?_alloc_cells _ _ _ _).trans ((frozen?_alloc_cells _ _ _ _).trans ((frozen?_alloc_cells _ _ _ _).trans (frz_new (by first | (simp; done) | (simp only; omega))))))
          have z1 : w1.cell? ⟨w.heap.size + 1 + 1, 1, none⟩ = some (.int .i64 0) := keep1 hb1 (new0 (by simp) rfl)
          have Fz1 : w1.frozen? ⟨w.heap.size + 1 + 1, 1, none⟩ = false := keepF hb1 (v := .int .i64 0) (new0 (by simp) rfl) ((frozen?_alloc_cells _ _ _ _).trans ((frozen?_alloc_cells _ _ _ _).trans ((frozen?_alloc_cells _ _ _ _).trans (frz_new (by first | (simp; done) | (simp only; omega))))))
          have BB := bstep (ball (ball (ball (Below.refl w.heap.size w) _) _) _) hb1
          go_wp2_with fail
          refine (rkn_at f n q true _ H1.out).mono ?_
          rintro e w2 ⟨rfl, hb2⟩
          have Fr0 := keepF hb2 (r0) (Fr0)
          have r0 := keep1 hb2 (r0)
          have Fr1 := keepF hb2 (r1) (Fr1)
          have r1 := keep1 hb2 (r1)
          have t0 := keep1 hb2 (t0)
          have t1 := keep1 hb2 (t1)
          have Fz0 := keepF hb2 (z0) (Fz0)
          have z0 := keep1 hb2 (z0)
          have Fz1 := keepF hb2 (z1) (Fz1)
          have z1 := keep1 hb2 (z1)
          have BB := bstep BB hb2
          go_wp2_with fail
          refine (rkn_at g m q true _ H2.out).mono ?_
          rintro e w3 ⟨rfl, hb3⟩
          have Fr0 := keepF hb3 (r0) (Fr0)
          have r0 := keep1 hb3 (r0)
          have Fr1 := keepF hb3 (r1) (Fr1)
          have r1 := keep1 hb3 (r1)
          have t0 := keep1 hb3 (t0)
          have t1 := keep1 hb3 (t1)
          have Fz0 := keepF hb3 (z0) (Fz0)
          have z0 := keep1 hb3 (z0)
          have Fz1 := keepF hb3 (z1) (Fz1)
          have z1 := keep1 hb3 (z1)
          have BB := bstep BB hb3
          go_wp2_with fail
          refine bodyPost_ret (v := .agg #[.int .i64 (min f g), .int .i64 (max n m)]) (by simp [results, Try.results18, go_sem, r0, r1, z0, z1]) rfl ⟨rfl, ?_⟩
          repeat (first | exact BB | exact Below.refl _ _ | refine Below.setCell ?_ (by first | exact Nat.le_refl _ | (simp; done) | (simp; omega)) _ | refine Below.alloc ?_ (by simp <;> omega) _ | refine Below.drew ?_ | refine below_drewN ?_ _)
        ·
          have hc : learnC f n g m a = false := by simp [learnC, hq, h3]
          have e1 : learnF f n g m a = f := by simp [learnF, hc]
          have e2 : learnN f n g m a = n := by simp [learnN, hc]
          rw [e1, e2]; clear e1 e2 hc
          have h3' : ¬ m ≤ q + 2 := h3
          clear hq h h1 h2
          go_enter Try.func18, Try.ntmps18
          go_wp2_with fail
          refine (rep_at a q 0 _ E3.out E4.out).mono ?_
          rintro e w1 ⟨rfl, hb1⟩
          have r0 : w1.cell? ⟨w.heap.size, 0, none⟩ = some (.int .i64 f) := keep1 hb1 (old1 (old1 (by simp) _) _)
          have Fr0 : w1.frozen? ⟨w.heap.size, 0, none⟩ = false := keepF hb1 (v := .int .i64 f) (old1 (old1 (by simp) _) _) ((frozen?_alloc_cells _ _ _ _).trans ((frozen?_alloc_cells _ _ _ _).trans ((frozen?_alloc_cells _ _ _ _).trans (frz_new (by first | (simp; done) | (simp only; omega))))))
          have r1 : w1.cell? ⟨w.heap.size, 1, none⟩ = some (.int .i64 n) := keep1 hb1 (old1 (old1 (by simp) _) _)
          have Fr1 : w1.frozen? ⟨w.heap.size, 1, none⟩ = false := keepF hb1 (v := .int .i64 n) (old1 (old1 (by simp) _) _) ((frozen?_alloc_cells _ _ _ _).trans ((frozen?_alloc_cells _ _ _ _).trans ((frozen?_alloc_cells _ _ _ _).trans (frz_new (by first | (simp; done) | (simp only; omega))))))
          have t0 : w1.cell? ⟨w.heap.size + 1, 0, none⟩ = some (.int .i64 g) := keep1 hb1 (old1 (by simp) _)
          have t1 : w1.cell? ⟨w.heap.size + 1, 1, none⟩ = some (.int .i64 m) := keep1 hb1 (old1 (by simp) _)
          have z0 : w1.cell? ⟨w.heap.size + 1 + 1, 0, none⟩ = some (.int .i64 0) := keep1 hb1 (new0 (by simp) rfl)
          have Fz0 : w1.frozen? ⟨w.heap.size + 1 + 1, 0, none⟩ = false := keepF hb1 (v := .int .i64 0) (new0 (by simp) rfl) ((frozen?_alloc_cells _ _ _ _).trans ((frozen?_alloc_cells _ _ _ _).trans ((frozen?_alloc_cells _ _ _ _).trans (frz_new (by first | (simp; done) | (simp only; omega))))))
          have z1 : w1.cell? ⟨w.heap.size + 1 + 1, 1, none⟩ = some (.int .i64 0) := keep1 hb1 (new0 (by simp) rfl)
          have Fz1 : w1.frozen? ⟨w.heap.size + 1 + 1, 1, none⟩ = false := keepF hb1 (v := .int .i64 0) (new0 (by simp) rfl) ((frozen?_alloc_cells _ _ _ _).trans ((frozen?_alloc_cells _ _ _ _).trans ((frozen?_alloc_cells _ _ _ _).trans (frz_new (by first | (simp; done) | (simp only; omega))))))
          have BB := bstep (ball (ball (ball (Below.refl w.heap.size w) _) _) _) hb1
          go_wp2_with fail
          refine (rkn_at f n q true _ H1.out).mono ?_
          rintro e w2 ⟨rfl, hb2⟩
          have Fr0 := keepF hb2 (r0) (Fr0)
          have r0 := keep1 hb2 (r0)
          have Fr1 := keepF hb2 (r1) (Fr1)
          have r1 := keep1 hb2 (r1)
          have t0 := keep1 hb2 (t0)
          have t1 := keep1 hb2 (t1)
          have Fz0 := keepF hb2 (z0) (Fz0)
          have z0 := keep1 hb2 (z0)
          have Fz1 := keepF hb2 (z1) (Fz1)
          have z1 := keep1 hb2 (z1)
          have BB := bstep BB hb2
          go_wp2_with fail
          refine (rkn_at g m q true _ H2.out).mono ?_
          rintro e w3 ⟨rfl, hb3⟩
          have Fr0 := keepF hb3 (r0) (Fr0)
          have r0 := keep1 hb3 (r0)
          have Fr1 := keepF hb3 (r1) (Fr1)
          have r1 := keep1 hb3 (r1)
          have t0 := keep1 hb3 (t0)
          have t1 := keep1 hb3 (t1)
          have Fz0 := keepF hb3 (z0) (Fz0)
          have z0 := keep1 hb3 (z0)
          have Fz1 := keepF hb3 (z1) (Fz1)
          have z1 := keep1 hb3 (z1)
          have BB := bstep BB hb3
          go_wp2_with fail
          refine bodyPost_ret (v := .agg #[.int .i64 (f), .int .i64 (n)]) (by simp [results, Try.results18, go_sem, r0, r1, z0, z1]) rfl ⟨rfl, ?_⟩
          repeat (first | exact BB | exact Below.refl _ _ | refine Below.setCell ?_ (by first | exact Nat.le_refl _ | (simp; done) | (simp; omega)) _ | refine Below.alloc ?_ (by simp <;> omega) _ | refine Below.drew ?_ | refine below_drewN ?_ _)

set_option maxHeartbeats 1000000 in
theorem age_any (f n a : Int) (w : World) : Calls Try.prog 19 #[.agg #[.int .i64 f, .int .i64 n], .int .i64 a] w fun e w' =>
    e = .returned (.agg #[.int .i64 (ageF f n a), .int .i64 (ageN f n a)]) ∧ Below w.heap.size w w' := by
  have bd := epV_bd a
  obtain ⟨q, hq⟩ : ∃ q, epV a = q := ⟨_, rfl⟩
  rw [hq] at bd
  have E3 := Lib.hid hq
  cases h : slotN a
  ·
    have hc : ageK f n a = true := by simp [ageK, h]
    have e1 : ageF f n a = f := by simp [ageF, hc]
    have e2 : ageN f n a = n := by simp [ageN, hc]
    rw [e1, e2]; clear e1 e2 hc
    have E4 : Hid (epE a = 1) := Lib.hid (by simp [epE, h])
    clear hq h
    go_enter Try.func19, Try.ntmps19
    go_wp2_with fail
    refine (ep_at a q 1 _ E3.out E4.out).mono ?_
    rintro e w1 ⟨rfl, hb1⟩
    have r0 : w1.cell? ⟨w.heap.size, 0, none⟩ = some (.int .i64 f) := keep1 hb1 (old1 (by simp) _)
    have Fr0 : w1.frozen? ⟨w.heap.size, 0, none⟩ = false := keepF hb1 (v := .int .i64 f) (old1 (by simp) _) ((frozen?_alloc_cells _ _ _ _).trans ((frozen?_alloc_cells _ _ _ _).trans (frz_new (by first | (simp; done) | (simp only; omega)))))
    have r1 : w1.cell? ⟨w.heap.size, 1, none⟩ = some (.int .i64 n) := keep1 hb1 (old1 (by simp) _)
    have Fr1 : w1.frozen? ⟨w.heap.size, 1, none⟩ = false := keepF hb1 (v := .int .i64 n) (old1 (by simp) _) ((frozen?_alloc_cells _ _ _ _).trans ((frozen?_alloc_cells _ _ _ _).trans (frz_new (by first | (simp; done) | (simp only; omega)))))
    have z0 : w1.cell? ⟨w.heap.size + 1, 0, none⟩ = some (.int .i64 0) := keep1 hb1 (by simp)
    have Fz0 : w1.frozen? ⟨w.heap.size + 1, 0, none⟩ = false := keepF hb1 (v := .int .i64 0) (by simp) ((frozen?_alloc_cells _ _ _ _).trans ((frozen?_alloc_cells _ _ _ _).trans (frz_new (by first | (simp; done) | (simp only; omega)))))
    have z1 : w1.cell? ⟨w.heap.size + 1, 1, none⟩ = some (.int .i64 0) := keep1 hb1 (by simp)
    have Fz1 : w1.frozen? ⟨w.heap.size + 1, 1, none⟩ = false := keepF hb1 (v := .int .i64 0) (by simp) ((frozen?_alloc_cells _ _ _ _).trans ((frozen?_alloc_cells _ _ _ _).trans (frz_new (by first | (simp; done) | (simp only; omega)))))
    have BB := bstep (ball (ball (Below.refl w.heap.size w) _) _) hb1
    go_wp2_with fail
    refine bodyPost_ret (v := .agg #[.int .i64 (f), .int .i64 (n)]) (by simp [results, Try.results19, go_sem, r0, r1, z0, z1]) rfl ⟨rfl, ?_⟩
    repeat (first | exact BB | exact Below.refl _ _ | refine Below.setCell ?_ (by first | exact Nat.le_refl _ | (simp; done) | (simp; omega)) _ | refine Below.alloc ?_ (by simp <;> omega) _ | refine Below.drew ?_ | refine below_drewN ?_ _)
  · have E4 : Hid (epE a = 0) := Lib.hid (by simp [epE, h])
    cases h1 : validR f n
    ·
      have hc : ageK f n a = true := by simp [ageK, h1]
      have e1 : ageF f n a = f := by simp [ageF, hc]
      have e2 : ageN f n a = n := by simp [ageN, hc]
      rw [e1, e2]; clear e1 e2 hc
      have H1 := Lib.hid h1
      clear hq h h1
      go_enter Try.func19, Try.ntmps19
      go_wp2_with fail
      refine (ep_at a q 0 _ E3.out E4.out).mono ?_
      rintro e w1 ⟨rfl, hb1⟩
      have r0 : w1.cell? ⟨w.heap.size, 0, none⟩ = some (.int .i64 f) := keep1 hb1 (old1 (by simp) _)
      have Fr0 : w1.frozen? ⟨w.heap.size, 0, none⟩ = false := keepF hb1 (v := .int .i64 f) (old1 (by simp) _) ((frozen?_alloc_cells _ _ _ _).trans ((frozen?_alloc_cells _ _ _ _).trans (frz_new (by first | (simp; done) | (simp only; omega)))))
      have r1 : w1.cell? ⟨w.heap.size, 1, none⟩ = some (.int .i64 n) := keep1 hb1 (old1 (by simp) _)
      have Fr1 : w1.frozen? ⟨w.heap.size, 1, none⟩ = false := keepF hb1 (v := .int .i64 n) (old1 (by simp) _) ((frozen?_alloc_cells _ _ _ _).trans ((frozen?_alloc_cells _ _ _ _).trans (frz_new (by first | (simp; done) | (simp only; omega)))))
      have z0 : w1.cell? ⟨w.heap.size + 1, 0, none⟩ = some (.int .i64 0) := keep1 hb1 (by simp)
      have Fz0 : w1.frozen? ⟨w.heap.size + 1, 0, none⟩ = false := keepF hb1 (v := .int .i64 0) (by simp) ((frozen?_alloc_cells _ _ _ _).trans ((frozen?_alloc_cells _ _ _ _).trans (frz_new (by first | (simp; done) | (simp only; omega)))))
      have z1 : w1.cell? ⟨w.heap.size + 1, 1, none⟩ = some (.int .i64 0) := keep1 hb1 (by simp)
      have Fz1 : w1.frozen? ⟨w.heap.size + 1, 1, none⟩ = false := keepF hb1 (v := .int .i64 0) (by simp) ((frozen?_alloc_cells _ _ _ _).trans ((frozen?_alloc_cells _ _ _ _).trans (frz_new (by first | (simp; done) | (simp only; omega)))))
      have BB := bstep (ball (ball (Below.refl w.heap.size w) _) _) hb1
      go_wp2_with fail
      refine (va_at f n false _ H1.out).mono ?_
      rintro e w2 ⟨rfl, hb2⟩
      have Fr0 := keepF hb2 (r0) (Fr0)
      have r0 := keep1 hb2 (r0)
      have Fr1 := keepF hb2 (r1) (Fr1)
      have r1 := keep1 hb2 (r1)
      have Fz0 := keepF hb2 (z0) (Fz0)
      have z0 := keep1 hb2 (z0)
      have Fz1 := keepF hb2 (z1) (Fz1)
      have z1 := keep1 hb2 (z1)
      have BB := bstep BB hb2
      go_wp2_with fail
      refine bodyPost_ret (v := .agg #[.int .i64 (f), .int .i64 (n)]) (by simp [results, Try.results19, go_sem, r0, r1, z0, z1]) rfl ⟨rfl, ?_⟩
      repeat (first | exact BB | exact Below.refl _ _ | refine Below.setCell ?_ (by first | exact Nat.le_refl _ | (simp; done) | (simp; omega)) _ | refine Below.alloc ?_ (by simp <;> omega) _ | refine Below.drew ?_ | refine below_drewN ?_ _)
    · have H1 := Lib.hid h1
      have vb := valid_bd h1
      by_cases h2 : q ≤ f
      ·
        have hc : ageK f n a = true := by simp [ageK, hq, h2]
        have e1 : ageF f n a = f := by simp [ageF, hc]
        have e2 : ageN f n a = n := by simp [ageN, hc]
        rw [e1, e2]; clear e1 e2 hc
        clear hq h h1
        go_enter Try.func19, Try.ntmps19
        go_wp2_with fail
        refine (ep_at a q 0 _ E3.out E4.out).mono ?_
        rintro e w1 ⟨rfl, hb1⟩
        have r0 : w1.cell? ⟨w.heap.size, 0, none⟩ = some (.int .i64 f) := keep1 hb1 (old1 (by simp) _)
        have Fr0 : w1.frozen? ⟨w.heap.size, 0, none⟩ = false := keepF hb1 (v := .int .i64 f) (old1 (by simp) _) ((frozen?_alloc_cells _ _ _ _).trans ((frozen?_alloc_cells _ _ _ _).trans (frz_new (by first | (simp; done) | (simp only; omega)))))
        have r1 : w1.cell? ⟨w.heap.size, 1, none⟩ = some (.int .i64 n) := keep1 hb1 (old1 (by simp) _)
        have Fr1 : w1.frozen? ⟨w.heap.size, 1, none⟩ = false := keepF hb1 (v := .int .i64 n) (old1 (by simp) _) ((frozen?_alloc_cells _ _ _ _).trans ((frozen?_alloc_cells _ _ _ _).trans (frz_new (by first | (simp; done) | (simp only; omega)))))
        have z0 : w1.cell? ⟨w.heap.size + 1, 0, none⟩ = some (.int .i64 0) := keep1 hb1 (by simp)
        have Fz0 : w1.frozen? ⟨w.heap.size + 1, 0, none⟩ = false := keepF hb1 (v := .int .i64 0) (by simp) ((frozen?_alloc_cells _ _ _ _).trans ((frozen?_alloc_cells _ _ _ _).trans (frz_new (by first | (simp; done) | (simp only; omega)))))
        have z1 : w1.cell? ⟨w.heap.size + 1, 1, none⟩ = some (.int .i64 0) := keep1 hb1 (by simp)
        have Fz1 : w1.frozen? ⟨w.heap.size + 1, 1, none⟩ = false := keepF hb1 (v := .int .i64 0) (by simp) ((frozen?_alloc_cells _ _ _ _).trans ((frozen?_alloc_cells _ _ _ _).trans (frz_new (by first | (simp; done) | (simp only; omega)))))
        have BB := bstep (ball (ball (Below.refl w.heap.size w) _) _) hb1
        go_wp2_with fail
        refine (va_at f n true _ H1.out).mono ?_
        rintro e w2 ⟨rfl, hb2⟩
        have Fr0 := keepF hb2 (r0) (Fr0)
        have r0 := keep1 hb2 (r0)
        have Fr1 := keepF hb2 (r1) (Fr1)
        have r1 := keep1 hb2 (r1)
        have Fz0 := keepF hb2 (z0) (Fz0)
        have z0 := keep1 hb2 (z0)
        have Fz1 := keepF hb2 (z1) (Fz1)
        have z1 := keep1 hb2 (z1)
        have BB := bstep BB hb2
        go_wp2_with fail
        refine bodyPost_ret (v := .agg #[.int .i64 (f), .int .i64 (n)]) (by simp [results, Try.results19, go_sem, r0, r1, z0, z1]) rfl ⟨rfl, ?_⟩
        repeat (first | exact BB | exact Below.refl _ _ | refine Below.setCell ?_ (by first | exact Nat.le_refl _ | (simp; done) | (simp; omega)) _ | refine Below.alloc ?_ (by simp <;> omega) _ | refine Below.drew ?_ | refine below_drewN ?_ _)
      · have hc : ageK f n a = false := by simp [ageK, hq, h, h1]; omega
        by_cases h3 : n ≤ q
        · have e1 : ageF f n a = 0 := by simp [ageF, hc, hq, h3]
          have e2 : ageN f n a = 0 := by simp [ageN, hc, hq, h3]
          rw [e1, e2]; clear e1 e2 hc hq h h1
          go_enter Try.func19, Try.ntmps19
          go_wp2_with fail
          refine (ep_at a q 0 _ E3.out E4.out).mono ?_
          rintro e w1 ⟨rfl, hb1⟩
          have r0 : w1.cell? ⟨w.heap.size, 0, none⟩ = some (.int .i64 f) := keep1 hb1 (old1 (by simp) _)
          have Fr0 : w1.frozen? ⟨w.heap.size, 0, none⟩ = false := keepF hb1 (v := .int .i64 f) (old1 (by simp) _) ((frozen?_alloc_cells _ _ _ _).trans ((frozen?_alloc_cells _ _ _ _).trans (frz_new (by first | (simp; done) | (simp only; omega)))))
          have r1 : w1.cell? ⟨w.heap.size, 1, none⟩ = some (.int .i64 n) := keep1 hb1 (old1 (by simp) _)
          have Fr1 : w1.frozen? ⟨w.heap.size, 1, none⟩ = false := keepF hb1 (v := .int .i64 n) (old1 (by simp) _) ((frozen?_alloc_cells _ _ _ _).trans ((frozen?_alloc_cells _ _ _ _).trans (frz_new (by first | (simp; done) | (simp only; omega)))))
          have z0 : w1.cell? ⟨w.heap.size + 1, 0, none⟩ = some (.int .i64 0) := keep1 hb1 (by simp)
          have Fz0 : w1.frozen? ⟨w.heap.size + 1, 0, none⟩ = false := keepF hb1 (v := .int .i64 0) (by simp) ((frozen?_alloc_cells _ _ _ _).trans ((frozen?_alloc_cells _ _ _ _).trans (frz_new (by first | (simp; done) | (simp only; omega)))))
          have z1 : w1.cell? ⟨w.heap.size + 1, 1, none⟩ = some (.int .i64 0) := keep1 hb1 (by simp)
          have Fz1 : w1.frozen? ⟨w.heap.size + 1, 1, none⟩ = false := keepF hb1 (v := .int .i64 0) (by simp) ((frozen?_alloc_cells _ _ _ _).trans ((frozen?_alloc_cells _ _ _ _).trans (frz_new (by first | (simp; done) | (simp only; omega)))))
          have BB := bstep (ball (ball (Below.refl w.heap.size w) _) _) hb1
          go_wp2_with fail
          refine (va_at f n true _ H1.out).mono ?_
          rintro e w2 ⟨rfl, hb2⟩
          have Fr0 := keepF hb2 (r0) (Fr0)
          have r0 := keep1 hb2 (r0)
          have Fr1 := keepF hb2 (r1) (Fr1)
          have r1 := keep1 hb2 (r1)
          have Fz0 := keepF hb2 (z0) (Fz0)
          have z0 := keep1 hb2 (z0)
          have Fz1 := keepF hb2 (z1) (Fz1)
          have z1 := keep1 hb2 (z1)
          have BB := bstep BB hb2
          go_wp2_with fail
          refine bodyPost_ret (v := .agg #[.int .i64 (0), .int .i64 (0)]) (by simp [results, Try.results19, go_sem, r0, r1, z0, z1]) rfl ⟨rfl, ?_⟩
          repeat (first | exact BB | exact Below.refl _ _ | refine Below.setCell ?_ (by first | exact Nat.le_refl _ | (simp; done) | (simp; omega)) _ | refine Below.alloc ?_ (by simp <;> omega) _ | refine Below.drew ?_ | refine below_drewN ?_ _)
        · have e1 : ageF f n a = q := by simp [ageF, hc, hq, h3]
          have e2 : ageN f n a = n := by simp [ageN, hc, hq, h3]
          rw [e1, e2]; clear e1 e2 hc hq h h1
          go_enter Try.func19, Try.ntmps19
          go_wp2_with fail
          refine (ep_at a q 0 _ E3.out E4.out).mono ?_
          rintro e w1 ⟨rfl, hb1⟩
          have r0 : w1.cell? ⟨w.heap.size, 0, none⟩ = some (.int .i64 f) := keep1 hb1 (old1 (by simp) _)
          have Fr0 : w1.frozen? ⟨w.heap.size, 0, none⟩ = false := keepF hb1 (v := .int .i64 f) (old1 (by simp) _) ((frozen?_alloc_cells _ _ _ _).trans ((frozen?_alloc_cells _ _ _ _).trans (frz_new (by first | (simp; done) | (simp only; omega)))))
          have r1 : w1.cell? ⟨w.heap.size, 1, none⟩ = some (.int .i64 n) := keep1 hb1 (old1 (by simp) _)
          have Fr1 : w1.frozen? ⟨w.heap.size, 1, none⟩ = false := keepF hb1 (v := .int .i64 n) (old1 (by simp) _) ((frozen?_alloc_cells _ _ _ _).trans ((frozen?_alloc_cells _ _ _ _).trans (frz_new (by first | (simp; done) | (simp only; omega)))))
          have z0 : w1.cell? ⟨w.heap.size + 1, 0, none⟩ = some (.int .i64 0) := keep1 hb1 (by simp)
          have Fz0 : w1.frozen? ⟨w.heap.size + 1, 0, none⟩ = false := keepF hb1 (v := .int .i64 0) (by simp) ((frozen?_alloc_cells _ _ _ _).trans ((frozen?_alloc_cells _ _ _ _).trans (frz_new (by first | (simp; done) | (simp only; omega)))))
          have z1 : w1.cell? ⟨w.heap.size + 1, 1, none⟩ = some (.int .i64 0) := keep1 hb1 (by simp)
          have Fz1 : w1.frozen? ⟨w.heap.size + 1, 1, none⟩ = false := keepF hb1 (v := .int .i64 0) (by simp) ((frozen?_alloc_cells _ _ _ _).trans ((frozen?_alloc_cells _ _ _ _).trans (frz_new (by first | (simp; done) | (simp only; omega)))))
          have BB := bstep (ball (ball (Below.refl w.heap.size w) _) _) hb1
          go_wp2_with fail
          refine (va_at f n true _ H1.out).mono ?_
          rintro e w2 ⟨rfl, hb2⟩
          have Fr0 := keepF hb2 (r0) (Fr0)
          have r0 := keep1 hb2 (r0)
          have Fr1 := keepF hb2 (r1) (Fr1)
          have r1 := keep1 hb2 (r1)
          have Fz0 := keepF hb2 (z0) (Fz0)
          have z0 := keep1 hb2 (z0)
          have Fz1 := keepF hb2 (z1) (Fz1)
          have z1 := keep1 hb2 (z1)
          have BB := bstep BB hb2
          go_wp2_with fail
          refine bodyPost_ret (v := .agg #[.int .i64 (q), .int .i64 (n)]) (by simp [results, Try.results19, go_sem, r0, r1, z0, z1]) rfl ⟨rfl, ?_⟩
          repeat (first | exact BB | exact Below.refl _ _ | refine Below.setCell ?_ (by first | exact Nat.le_refl _ | (simp; done) | (simp; omega)) _ | refine Below.alloc ?_ (by simp <;> omega) _ | refine Below.drew ?_ | refine below_drewN ?_ _)

set_option maxHeartbeats 1000000 in
theorem rage_any (f n a : Int) (w : World) : Calls Try.prog 20 #[.agg #[.int .i64 f, .int .i64 n], .int .i64 a] w fun e w' =>
    e = .returned (.agg #[.int .i64 (ageF f n a), .int .i64 (ageN f n a)]) ∧ Below w.heap.size w w' := by
  have bd := epV_bd a
  obtain ⟨q, hq⟩ : ∃ q, epV a = q := ⟨_, rfl⟩
  rw [hq] at bd
  have E3 := Lib.hid hq
  cases h : slotN a
  ·
    have hc : ageK f n a = true := by simp [ageK, h]
    have e1 : ageF f n a = f := by simp [ageF, hc]
    have e2 : ageN f n a = n := by simp [ageN, hc]
    rw [e1, e2]; clear e1 e2 hc
    have E4 : Hid (epE a = 1) := Lib.hid (by simp [epE, h])
    clear hq h
    go_enter Try.func20, Try.ntmps20
    go_wp2_with fail
    refine (rep_at a q 1 _ E3.out E4.out).mono ?_
    rintro e w1 ⟨rfl, hb1⟩
    have r0 : w1.cell? ⟨w.heap.size, 0, none⟩ = some (.int .i64 f) := keep1 hb1 (old1 (by simp) _)
    have Fr0 : w1.frozen? ⟨w.heap.size, 0, none⟩ = false := keepF hb1 (v := .int .i64 f) (old1 (by simp) _) ((frozen?_alloc_cells _ _ _ _).trans ((frozen?_alloc_cells _ _ _ _).trans (frz_new (by first | (simp; done) | (simp only; omega)))))
    have r1 : w1.cell? ⟨w.heap.size, 1, none⟩ = some (.int .i64 n) := keep1 hb1 (old1 (by simp) _)
    have Fr1 : w1.frozen? ⟨w.heap.size, 1, none⟩ = false := keepF hb1 (v := .int .i64 n) (old1 (by simp) _) ((frozen?_alloc_cells _ _ _ _).trans ((frozen?_alloc_cells _ _ _ _).trans (frz_new (by first | (simp; done) | (simp only; omega)))))
    have z0 : w1.cell? ⟨w.heap.size + 1, 0, none⟩ = some (.int .i64 0) := keep1 hb1 (by simp)
    have Fz0 : w1.frozen? ⟨w.heap.size + 1, 0, none⟩ = false := keepF hb1 (v := .int .i64 0) (by simp) ((frozen?_alloc_cells _ _ _ _).trans ((frozen?_alloc_cells _ _ _ _).trans (frz_new (by first | (simp; done) | (simp only; omega)))))
    have z1 : w1.cell? ⟨w.heap.size + 1, 1, none⟩ = some (.int .i64 0) := keep1 hb1 (by simp)
    have Fz1 : w1.frozen? ⟨w.heap.size + 1, 1, none⟩ = false := keepF hb1 (v := .int .i64 0) (by simp) ((frozen?_alloc_cells _ _ _ _).trans ((frozen?_alloc_cells _ _ _ _).trans (frz_new (by first | (simp; done) | (simp only; omega)))))
    have BB := bstep (ball (ball (Below.refl w.heap.size w) _) _) hb1
    go_wp2_with fail
    refine bodyPost_ret (v := .agg #[.int .i64 (f), .int .i64 (n)]) (by simp [results, Try.results20, go_sem, r0, r1, z0, z1]) rfl ⟨rfl, ?_⟩
    repeat (first | exact BB | exact Below.refl _ _ | refine Below.setCell ?_ (by first | exact Nat.le_refl _ | (simp; done) | (simp; omega)) _ | refine Below.alloc ?_ (by simp <;> omega) _ | refine Below.drew ?_ | refine below_drewN ?_ _)
  · have E4 : Hid (epE a = 0) := Lib.hid (by simp [epE, h])
    cases h1 : validR f n
    ·
      have hc : ageK f n a = true := by simp [ageK, h1]
      have e1 : ageF f n a = f := by simp [ageF, hc]
      have e2 : ageN f n a = n := by simp [ageN, hc]
      rw [e1, e2]; clear e1 e2 hc
      have H1 := Lib.hid h1
      clear hq h h1
      go_enter Try.func20, Try.ntmps20
      go_wp2_with fail
      refine (rep_at a q 0 _ E3.out E4.out).mono ?_
      rintro e w1 ⟨rfl, hb1⟩
      have r0 : w1.cell? ⟨w.heap.size, 0, none⟩ = some (.int .i64 f) := keep1 hb1 (old1 (by simp) _)
      have Fr0 : w1.frozen? ⟨w.heap.size, 0, none⟩ = false := keepF hb1 (v := .int .i64 f) (old1 (by simp) _) ((frozen?_alloc_cells _ _ _ _).trans ((frozen?_alloc_cells _ _ _ _).trans (frz_new (by first | (simp; done) | (simp only; omega)))))
      have r1 : w1.cell? ⟨w.heap.size, 1, none⟩ = some (.int .i64 n) := keep1 hb1 (old1 (by simp) _)
      have Fr1 : w1.frozen? ⟨w.heap.size, 1, none⟩ = false := keepF hb1 (v := .int .i64 n) (old1 (by simp) _) ((frozen?_alloc_cells _ _ _ _).trans ((frozen?_alloc_cells _ _ _ _).trans (frz_new (by first | (simp; done) | (simp only; omega)))))
      have z0 : w1.cell? ⟨w.heap.size + 1, 0, none⟩ = some (.int .i64 0) := keep1 hb1 (by simp)
      have Fz0 : w1.frozen? ⟨w.heap.size + 1, 0, none⟩ = false := keepF hb1 (v := .int .i64 0) (by simp) ((frozen?_alloc_cells _ _ _ _).trans ((frozen?_alloc_cells _ _ _ _).trans (frz_new (by first | (simp; done) | (simp only; omega)))))
      have z1 : w1.cell? ⟨w.heap.size + 1, 1, none⟩ = some (.int .i64 0) := keep1 hb1 (by simp)
      have Fz1 : w1.frozen? ⟨w.heap.size + 1, 1, none⟩ = false := keepF hb1 (v := .int .i64 0) (by simp) ((frozen?_alloc_cells _ _ _ _).trans ((frozen?_alloc_cells _ _ _ _).trans (frz_new (by first | (simp; done) | (simp only; omega)))))
      have BB := bstep (ball (ball (Below.refl w.heap.size w) _) _) hb1
      go_wp2_with fail
      refine (rva_at f n false _ H1.out).mono ?_
      rintro e w2 ⟨rfl, hb2⟩
      have Fr0 := keepF hb2 (r0) (Fr0)
      have r0 := keep1 hb2 (r0)
      have Fr1 := keepF hb2 (r1) (Fr1)
      have r1 := keep1 hb2 (r1)
      have Fz0 := keepF hb2 (z0) (Fz0)
      have z0 := keep1 hb2 (z0)
      have Fz1 := keepF hb2 (z1) (Fz1)
      have z1 := keep1 hb2 (z1)
      have BB := bstep BB hb2
      go_wp2_with fail
      refine bodyPost_ret (v := .agg #[.int .i64 (f), .int .i64 (n)]) (by simp [results, Try.results20, go_sem, r0, r1, z0, z1]) rfl ⟨rfl, ?_⟩
      repeat (first | exact BB | exact Below.refl _ _ | refine Below.setCell ?_ (by first | exact Nat.le_refl _ | (simp; done) | (simp; omega)) _ | refine Below.alloc ?_ (by simp <;> omega) _ | refine Below.drew ?_ | refine below_drewN ?_ _)
    · have H1 := Lib.hid h1
      have vb := valid_bd h1
      by_cases h2 : q ≤ f
      ·
        have hc : ageK f n a = true := by simp [ageK, hq, h2]
        have e1 : ageF f n a = f := by simp [ageF, hc]
        have e2 : ageN f n a = n := by simp [ageN, hc]
        rw [e1, e2]; clear e1 e2 hc
        clear hq h h1
        go_enter Try.func20, Try.ntmps20
        go_wp2_with fail
        refine (rep_at a q 0 _ E3.out E4.out).mono ?_
        rintro e w1 ⟨rfl, hb1⟩
        have r0 : w1.cell? ⟨w.heap.size, 0, none⟩ = some (.int .i64 f) := keep1 hb1 (old1 (by simp) _)
        have Fr0 : w1.frozen? ⟨w.heap.size, 0, none⟩ = false := keepF hb1 (v := .int .i64 f) (old1 (by simp) _) ((frozen?_alloc_cells _ _ _ _).trans ((frozen?_alloc_cells _ _ _ _).trans (frz_new (by first | (simp; done) | (simp only; omega)))))
        have r1 : w1.cell? ⟨w.heap.size, 1, none⟩ = some (.int .i64 n) := keep1 hb1 (old1 (by simp) _)
        have Fr1 : w1.frozen? ⟨w.heap.size, 1, none⟩ = false := keepF hb1 (v := .int .i64 n) (old1 (by simp) _) ((frozen?_alloc_cells _ _ _ _).trans ((frozen?_alloc_cells _ _ _ _).trans (frz_new (by first | (simp; done) | (simp only; omega)))))
        have z0 : w1.cell? ⟨w.heap.size + 1, 0, none⟩ = some (.int .i64 0) := keep1 hb1 (by simp)
        have Fz0 : w1.frozen? ⟨w.heap.size + 1, 0, none⟩ = false := keepF hb1 (v := .int .i64 0) (by simp) ((frozen?_alloc_cells _ _ _ _).trans ((frozen?_alloc_cells _ _ _ _).trans (frz_new (by first | (simp; done) | (simp only; omega)))))
        have z1 : w1.cell? ⟨w.heap.size + 1, 1, none⟩ = some (.int .i64 0) := keep1 hb1 (by simp)
        have Fz1 : w1.frozen? ⟨w.heap.size + 1, 1, none⟩ = false := keepF hb1 (v := .int .i64 0) (by simp) ((frozen?_alloc_cells _ _ _ _).trans ((frozen?_alloc_cells _ _ _ _).trans (frz_new (by first | (simp; done) | (simp only; omega)))))
        have BB := bstep (ball (ball (Below.refl w.heap.size w) _) _) hb1
        go_wp2_with fail
        refine (rva_at f n true _ H1.out).mono ?_
        rintro e w2 ⟨rfl, hb2⟩
        have Fr0 := keepF hb2 (r0) (Fr0)
        have r0 := keep1 hb2 (r0)
        have Fr1 := keepF hb2 (r1) (Fr1)
        have r1 := keep1 hb2 (r1)
        have Fz0 := keepF hb2 (z0) (Fz0)
        have z0 := keep1 hb2 (z0)
        have Fz1 := keepF hb2 (z1) (Fz1)
        have z1 := keep1 hb2 (z1)
        have BB := bstep BB hb2
        go_wp2_with fail
        refine bodyPost_ret (v := .agg #[.int .i64 (f), .int .i64 (n)]) (by simp [results, Try.results20, go_sem, r0, r1, z0, z1]) rfl ⟨rfl, ?_⟩
        repeat (first | exact BB | exact Below.refl _ _ | refine Below.setCell ?_ (by first | exact Nat.le_refl _ | (simp; done) | (simp; omega)) _ | refine Below.alloc ?_ (by simp <;> omega) _ | refine Below.drew ?_ | refine below_drewN ?_ _)
      · have hc : ageK f n a = false := by simp [ageK, hq, h, h1]; omega
        by_cases h3 : n ≤ q
        · have e1 : ageF f n a = 0 := by simp [ageF, hc, hq, h3]
          have e2 : ageN f n a = 0 := by simp [ageN, hc, hq, h3]
          rw [e1, e2]; clear e1 e2 hc hq h h1
          go_enter Try.func20, Try.ntmps20
          go_wp2_with fail
          refine (rep_at a q 0 _ E3.out E4.out).mono ?_
          rintro e w1 ⟨rfl, hb1⟩
          have r0 : w1.cell? ⟨w.heap.size, 0, none⟩ = some (.int .i64 f) := keep1 hb1 (old1 (by simp) _)
          have Fr0 : w1.frozen? ⟨w.heap.size, 0, none⟩ = false := keepF hb1 (v := .int .i64 f) (old1 (by simp) _) ((frozen?_alloc_cells _ _ _ _).trans ((frozen?_alloc_cells _ _ _ _).trans (frz_new (by first | (simp; done) | (simp only; omega)))))
          have r1 : w1.cell? ⟨w.heap.size, 1, none⟩ = some (.int .i64 n) := keep1 hb1 (old1 (by simp) _)
          have Fr1 : w1.frozen? ⟨w.heap.size, 1, none⟩ = false := keepF hb1 (v := .int .i64 n) (old1 (by simp) _) ((frozen?_alloc_cells _ _ _ _).trans ((frozen?_alloc_cells _ _ _ _).trans (frz_new (by first | (simp; done) | (simp only; omega)))))
          have z0 : w1.cell? ⟨w.heap.size + 1, 0, none⟩ = some (.int .i64 0) := keep1 hb1 (by simp)
          have Fz0 : w1.frozen? ⟨w.heap.size + 1, 0, none⟩ = false := keepF hb1 (v := .int .i64 0) (by simp) ((frozen?_alloc_cells _ _ _ _).trans ((frozen?_alloc_cells _ _ _ _).trans (frz_new (by first | (simp; done) | (simp only; omega)))))
          have z1 : w1.cell? ⟨w.heap.size + 1, 1, none⟩ = some (.int .i64 0) := keep1 hb1 (by simp)
          have Fz1 : w1.frozen? ⟨w.heap.size + 1, 1, none⟩ = false := keepF hb1 (v := .int .i64 0) (by simp) ((frozen?_alloc_cells _ _ _ _).trans ((frozen?_alloc_cells _ _ _ _).trans (frz_new (by first | (simp; done) | (simp only; omega)))))
          have BB := bstep (ball (ball (Below.refl w.heap.size w) _) _) hb1
          go_wp2_with fail
          refine (rva_at f n true _ H1.out).mono ?_
          rintro e w2 ⟨rfl, hb2⟩
          have Fr0 := keepF hb2 (r0) (Fr0)
          have r0 := keep1 hb2 (r0)
          have Fr1 := keepF hb2 (r1) (Fr1)
          have r1 := keep1 hb2 (r1)
          have Fz0 := keepF hb2 (z0) (Fz0)
          have z0 := keep1 hb2 (z0)
          have Fz1 := keepF hb2 (z1) (Fz1)
          have z1 := keep1 hb2 (z1)
          have BB := bstep BB hb2
          go_wp2_with fail
          refine bodyPost_ret (v := .agg #[.int .i64 (0), .int .i64 (0)]) (by simp [results, Try.results20, go_sem, r0, r1, z0, z1]) rfl ⟨rfl, ?_⟩
          repeat (first | exact BB | exact Below.refl _ _ | refine Below.setCell ?_ (by first | exact Nat.le_refl _ | (simp; done) | (simp; omega)) _ | refine Below.alloc ?_ (by simp <;> omega) _ | refine Below.drew ?_ | refine below_drewN ?_ _)
        · have e1 : ageF f n a = q := by simp [ageF, hc, hq, h3]
          have e2 : ageN f n a = n := by simp [ageN, hc, hq, h3]
          rw [e1, e2]; clear e1 e2 hc hq h h1
          go_enter Try.func20, Try.ntmps20
          go_wp2_with fail
          refine (rep_at a q 0 _ E3.out E4.out).mono ?_
          rintro e w1 ⟨rfl, hb1⟩
          have r0 : w1.cell? ⟨w.heap.size, 0, none⟩ = some (.int .i64 f) := keep1 hb1 (old1 (by simp) _)
          have Fr0 : w1.frozen? ⟨w.heap.size, 0, none⟩ = false := keepF hb1 (v := .int .i64 f) (old1 (by simp) _) ((frozen?_alloc_cells _ _ _ _).trans ((frozen?_alloc_cells _ _ _ _).trans (frz_new (by first | (simp; done) | (simp only; omega)))))
          have r1 : w1.cell? ⟨w.heap.size, 1, none⟩ = some (.int .i64 n) := keep1 hb1 (old1 (by simp) _)
          have Fr1 : w1.frozen? ⟨w.heap.size, 1, none⟩ = false := keepF hb1 (v := .int .i64 n) (old1 (by simp) _) ((frozen?_alloc_cells _ _ _ _).trans ((frozen?_alloc_cells _ _ _ _).trans (frz_new (by first | (simp; done) | (simp only; omega)))))
          have z0 : w1.cell? ⟨w.heap.size + 1, 0, none⟩ = some (.int .i64 0) := keep1 hb1 (by simp)
          have Fz0 : w1.frozen? ⟨w.heap.size + 1, 0, none⟩ = false := keepF hb1 (v := .int .i64 0) (by simp) ((frozen?_alloc_cells _ _ _ _).trans ((frozen?_alloc_cells _ _ _ _).trans (frz_new (by first | (simp; done) | (simp only; omega)))))
          have z1 : w1.cell? ⟨w.heap.size + 1, 1, none⟩ = some (.int .i64 0) := keep1 hb1 (by simp)
          have Fz1 : w1.frozen? ⟨w.heap.size + 1, 1, none⟩ = false := keepF hb1 (v := .int .i64 0) (by simp) ((frozen?_alloc_cells _ _ _ _).trans ((frozen?_alloc_cells _ _ _ _).trans (frz_new (by first | (simp; done) | (simp only; omega)))))
          have BB := bstep (ball (ball (Below.refl w.heap.size w) _) _) hb1
          go_wp2_with fail
          refine (rva_at f n true _ H1.out).mono ?_
          rintro e w2 ⟨rfl, hb2⟩
          have Fr0 := keepF hb2 (r0) (Fr0)
          have r0 := keep1 hb2 (r0)
          have Fr1 := keepF hb2 (r1) (Fr1)
          have r1 := keep1 hb2 (r1)
          have Fz0 := keepF hb2 (z0) (Fz0)
          have z0 := keep1 hb2 (z0)
          have Fz1 := keepF hb2 (z1) (Fz1)
          have z1 := keep1 hb2 (z1)
          have BB := bstep BB hb2
          go_wp2_with fail
          refine bodyPost_ret (v := .agg #[.int .i64 (q), .int .i64 (n)]) (by simp [results, Try.results20, go_sem, r0, r1, z0, z1]) rfl ⟨rfl, ?_⟩
          repeat (first | exact BB | exact Below.refl _ _ | refine Below.setCell ?_ (by first | exact Nat.le_refl _ | (simp; done) | (simp; omega)) _ | refine Below.alloc ?_ (by simp <;> omega) _ | refine Below.drew ?_ | refine below_drewN ?_ _)
end Go.Proofs.Ytckcijoadbbdaaa
