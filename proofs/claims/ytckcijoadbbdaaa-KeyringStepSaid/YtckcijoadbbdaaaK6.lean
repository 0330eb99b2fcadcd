/- Proved: that the law KeyringOrder returns true for every input. Conditions: the numbers fit their types. -/
import Derived.Test.YtckcijoadbbdaaaK3
namespace Go.Proofs.Ytckcijoadbbdaaa
open Go.RowKit Go.Sort Go.BigFrame
set_option linter.unusedVariables false
set_option linter.unusedSimpArgs false
attribute [local go_sem] cell_alloc_old

def nearF (a b : Int) : Int := max 0 (a / 2000 - b % 4)
def nearN (a : Int) (x : Bool) : Int := if x then a / 2000 + 2 else a / 2000 + 1

set_option maxHeartbeats 1000000 in
theorem near_any (a b : Int) (x : Bool) (w : World) (a0 : 0 ≤ a) (a1 : a ≤ 999999999) (b0 : 0 ≤ b) (b1 : b ≤ 255) :
    Calls Try.prog 22 #[.int .i64 a, .int .u8 b, .bool x] w fun e w' => e = .returned (.agg #[.int .i64 (nearF a b), .int .i64 (nearN a x)]) ∧ Below w.heap.size w w' := by
  obtain ⟨q, hq⟩ : ∃ q, q = a / 2000 := ⟨_, rfl⟩
  have q0 : 0 ≤ q := by omega
  have q1 : q ≤ 500000 := by omega
  have e1 : a.tdiv 2000 = q := by rw [Int.tdiv_eq_ediv_of_nonneg a0, hq]
  obtain ⟨r, hr⟩ : ∃ r, r = b % 4 := ⟨_, rfl⟩
  have r0 : 0 ≤ r := by omega
  have r1 : r ≤ 3 := by omega
  have e2 : b.tmod 4 = r := by rw [Int.tmod_eq_emod_of_nonneg b0, hr]
  have e3 : nearF a b = max 0 (q - r) := by rw [nearF, ← hq, ← hr]
  obtain ⟨f, hf⟩ : ∃ f, f = max 0 (q - r) := ⟨_, rfl⟩
  rw [e3, ← hf]
  have HF := Lib.hid hf
  have e4 : nearN a x = if x then q + 2 else q + 1 := by rw [nearN, ← hq]
  rw [e4]
  clear hq hr e3 e4 hf
  cases x
  ·
    rw [show (if (false : Bool) = true then q + 2 else q + 1) = q + 1 from rfl]
    go_enter Try.func22, Try.ntmps22
    go_wp2_with fail
    rw [← HF.out]
    refine (ring_any f (q + 1) _).mono ?_
    rintro e w1 ⟨rfl, hb1⟩
    have z0 : w1.cell? ⟨w.heap.size, 0, none⟩ = some (.int .i64 0) := keep1 hb1 (by simp)
    have Fz0 : w1.frozen? ⟨w.heap.size, 0, none⟩ = false := keepF hb1 (v := .int .i64 0) (by simp) ((frozen?_alloc_cells _ _ _ _).trans (frz_new (by first | (simp; done) | (simp only; omega))))
    have z1 : w1.cell? ⟨w.heap.size, 1, none⟩ = some (.int .i64 0) := keep1 hb1 (by simp)
    have Fz1 : w1.frozen? ⟨w.heap.size, 1, none⟩ = false := keepF hb1 (v := .int .i64 0) (by simp) ((frozen?_alloc_cells _ _ _ _).trans (frz_new (by first | (simp; done) | (simp only; omega))))
    have BB := bstep (ball (Below.refl w.heap.size w) _) hb1
    have zb := World.block_lt_of_cell? _ _ z0
    simp only at zb
    have ne1 : ¬ w1.heap.size = w.heap.size := by omega
    have ne2 : ¬ w.heap.size = w1.heap.size := by omega
    go_wp2_with fail
    refine bodyPost_ret (v := .agg #[.int .i64 f, .int .i64 (q + 1)]) (by simp [results, Try.results22, go_sem, z0, z1, zb, ne1, ne2]) rfl ⟨by first | rfl | simp [Int.add_assoc], ?_⟩
    repeat (first | exact BB | exact Below.refl _ _ | refine Below.setCell ?_ (by first | exact Nat.le_refl _ | (simp; done) | (simp; omega)) _ | refine Below.alloc ?_ (by simp <;> omega) _ | refine Below.drew ?_ | refine below_drewN ?_ _)
  ·
    rw [show (if (true : Bool) = true then q + 2 else q + 1) = q + 2 from rfl]
    go_enter Try.func22, Try.ntmps22
    go_wp2_with fail
    rw [← HF.out]
    refine (ring_any f (q + 1) _).mono ?_
    rintro e w1 ⟨rfl, hb1⟩
    have z0 : w1.cell? ⟨w.heap.size, 0, none⟩ = some (.int .i64 0) := keep1 hb1 (by simp)
    have Fz0 : w1.frozen? ⟨w.heap.size, 0, none⟩ = false := keepF hb1 (v := .int .i64 0) (by simp) ((frozen?_alloc_cells _ _ _ _).trans (frz_new (by first | (simp; done) | (simp only; omega))))
    have z1 : w1.cell? ⟨w.heap.size, 1, none⟩ = some (.int .i64 0) := keep1 hb1 (by simp)
    have Fz1 : w1.frozen? ⟨w.heap.size, 1, none⟩ = false := keepF hb1 (v := .int .i64 0) (by simp) ((frozen?_alloc_cells _ _ _ _).trans (frz_new (by first | (simp; done) | (simp only; omega))))
    have BB := bstep (ball (Below.refl w.heap.size w) _) hb1
    have zb := World.block_lt_of_cell? _ _ z0
    simp only at zb
    have ne1 : ¬ w1.heap.size = w.heap.size := by omega
    have ne2 : ¬ w.heap.size = w1.heap.size := by omega
    go_wp2_with fail
    refine bodyPost_ret (v := .agg #[.int .i64 f, .int .i64 (q + 1 + 1)]) (by simp [results, Try.results22, go_sem, z0, z1, zb, ne1, ne2]) rfl ⟨by first | rfl | simp [Int.add_assoc], ?_⟩
    repeat (first | exact BB | exact Below.refl _ _ | refine Below.setCell ?_ (by first | exact Nat.le_refl _ | (simp; done) | (simp; omega)) _ | refine Below.alloc ?_ (by simp <;> omega) _ | refine Below.drew ?_ | refine below_drewN ?_ _)

theorem learnc_any (f n g m a : Int) (b : Nat) (w : World) (hp : w.cell? ⟨b, 0, none⟩ = some (.int .i64 a)) :
    Calls Try.prog 23 #[.agg #[.int .i64 f, .int .i64 n], .agg #[.int .i64 g, .int .i64 m], .pointer (some ⟨b, 0, none⟩)] w fun e w' =>
    e = .returned (.agg #[.int .i64 (learnF f n g m a), .int .i64 (learnN f n g m a)]) ∧ Below w.heap.size w w' := by
  have hb := World.block_lt_of_cell? _ _ hp
  simp only at hb
  go_enter Try.func23, Try.ntmps23
  have hp3 := old3 hp (box f n) (box g m) (.cells #[.int .i64 0, .int .i64 0] 23)
  go_wp2_with fail
  refine (learn_any f n g m a _).mono ?_
  rintro e w1 ⟨rfl, hb1⟩
  have r0 : w1.cell? ⟨w.heap.size, 0, none⟩ = some (.int .i64 f) := keep1 hb1 (old1 (old1 (by simp) _) _)
  have r1 : w1.cell? ⟨w.heap.size, 1, none⟩ = some (.int .i64 n) := keep1 hb1 (old1 (old1 (by simp) _) _)
  have t0 : w1.cell? ⟨w.heap.size + 1, 0, none⟩ = some (.int .i64 g) := keep1 hb1 (old1 (by simp) _)
  have t1 : w1.cell? ⟨w.heap.size + 1, 1, none⟩ = some (.int .i64 m) := keep1 hb1 (old1 (by simp) _)
  have z0 : w1.cell? ⟨w.heap.size + 1 + 1, 0, none⟩ = some (.int .i64 0) := keep1 hb1 (new0 (by simp) rfl)
  have Fz0 : w1.frozen? ⟨w.heap.size + 1 + 1, 0, none⟩ = false := keepF hb1 (v := .int .i64 0) (new0 (by simp) rfl) ((frozen?_alloc_cells _ _ _ _).trans ((frozen?_alloc_cells _ _ _ _).trans ((frozen?_alloc_cells _ _ _ _).trans (frz_new (by first | (simp; done) | (simp only; omega))))))
  have z1 : w1.cell? ⟨w.heap.size + 1 + 1, 1, none⟩ = some (.int .i64 0) := keep1 hb1 (new0 (by simp) rfl)
  have Fz1 : w1.frozen? ⟨w.heap.size + 1 + 1, 1, none⟩ = false := keepF hb1 (v := .int .i64 0) (new0 (by simp) rfl) ((frozen?_alloc_cells _ _ _ _).trans ((frozen?_alloc_cells _ _ _ _).trans ((frozen?_alloc_cells _ _ _ _).trans (frz_new (by first | (simp; done) | (simp only; omega))))))
  have BB := bstep (ball (ball (ball (Below.refl w.heap.size w) _) _) _) hb1
  go_wp2_with fail
  refine bodyPost_ret (v := .agg #[.int .i64 (learnF f n g m a), .int .i64 (learnN f n g m a)]) (by simp [results, Try.results23, go_sem, z0, z1]) rfl ⟨rfl, ?_⟩
  repeat (first | exact BB | exact Below.refl _ _ | refine Below.setCell ?_ (by first | exact Nat.le_refl _ | (simp; done) | (simp; omega)) _ | refine Below.alloc ?_ (by simp <;> omega) _ | refine Below.drew ?_ | refine below_drewN ?_ _)
end Go.Proofs.Ytckcijoadbbdaaa
