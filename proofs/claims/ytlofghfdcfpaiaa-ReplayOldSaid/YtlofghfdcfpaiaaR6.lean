/- Proved: the fixed examples of the statements of the windows hold. Conditions: none. -/
import Derived.Test.YtlofghfdcfpaiaaR2
namespace Go.Proofs.Ytlofghfdcfpaiaa
open Go.RowKit Go.Sort
set_option linter.unusedVariables false
attribute [local go_sem] cell_alloc_old

theorem note_at (T : Int) (B : Nat) (n T' B' E : Int) (w : World) (hB : B < U) (b : Int) (hb : b = (B : Int)) (h1 : noteT T B n = T') (h2 : ((noteB T B n : Nat) : Int) = B') (h3 : noteE T B n = E) :
    Calls Try.prog 10 #[.agg #[.int .i64 T, .int .u64 b], .int .i64 n] w fun e w' =>
      e = .returned (.tuple #[.agg #[.int .i64 T', .int .u64 B'], .int .i64 E]) ∧ Below w.heap.size w w' := by
  rw [hb, ← h1, ← h2, ← h3]; exact note_any T B n w hB
theorem fresh_at (T : Int) (B : Nat) (n : Int) (F : Bool) (w : World) (hB : B < U) (b : Int) (hb : b = (B : Int)) (h1 : freshN T B n = F) :
    Calls Try.prog 14 #[.agg #[.int .i64 T, .int .u64 b], .int .i64 n] w fun e w' => e = .returned (.bool F) ∧ Below w.heap.size w w' := by
  rw [hb, ← h1]
  refine (fresh_any T B n w hB).mono ?_
  rintro e w' ⟨rfl, rfl⟩
  exact ⟨rfl, ball (ball (Below.refl _ _) _) _⟩
theorem valid_at (T : Int) (B : Nat) (F : Bool) (w : World) (hB : B < U) (b : Int) (hb : b = (B : Int)) (h1 : validN T B = F) :
    Calls Try.prog 12 #[.agg #[.int .i64 T, .int .u64 b]] w fun e w' => e = .returned (.bool F) ∧ Below w.heap.size w w' := by
  rw [hb, ← h1]
  refine (valid_any T B w hB).mono ?_
  rintro e w' ⟨rfl, rfl⟩
  exact ⟨rfl, ball (Below.refl _ _) _⟩

set_option maxHeartbeats 1000000 in
theorem head_any (w : World) : Calls Try.prog 9 #[] w fun e w' => e = .returned (.bool true) ∧ Below w.heap.size w w' := by
  go_enter Try.func9, Try.ntmps9
  go_wp2_with fail
  refine (note_at 0 0 5 5 1 0 _ (by decide) _ rfl (by decide) (by decide) (by decide)).mono ?_
  rintro e w1 ⟨rfl, hb1⟩
  have BB := hb1
  go_wp2_with fail
  refine (note_at 5 1 7 7 5 0 _ (by decide) _ rfl (by decide) (by decide) (by decide)).mono ?_
  rintro e w2 ⟨rfl, hb2⟩
  have x1 : w2.cell? ⟨w1.heap.size, 0, none⟩ = some (.int .i64 5) := keep1 hb2 (by simp)
  have y1 : w2.cell? ⟨w1.heap.size, 1, none⟩ = some (.int .u64 1) := keep1 hb2 (by simp)
  have BB := bstep (ball BB _) hb2
  go_wp2_with fail
  refine (note_at 7 5 6 7 7 0 _ (by decide) _ rfl (by decide) (by decide) (by decide)).mono ?_
  rintro e w3 ⟨rfl, hb3⟩
  have x1 := keep1 hb3 (old1 x1 _)
  have y1 := keep1 hb3 (old1 y1 _)
  have x2 : w3.cell? ⟨w2.heap.size, 0, none⟩ = some (.int .i64 7) := keep1 hb3 (by simp)
  have y2 : w3.cell? ⟨w2.heap.size, 1, none⟩ = some (.int .u64 5) := keep1 hb3 (by simp)
  have BB := bstep (ball BB _) hb3
  go_wp2_with fail
  refine (note_at 7 7 5 0 0 14 _ (by decide) _ rfl (by decide) (by decide) (by decide)).mono ?_
  rintro e w4 ⟨rfl, hb4⟩
  have x1 := keep1 hb4 (old1 x1 _)
  have y1 := keep1 hb4 (old1 y1 _)
  have x2 := keep1 hb4 (old1 x2 _)
  have y2 := keep1 hb4 (old1 y2 _)
  have x3 : w4.cell? ⟨w3.heap.size, 0, none⟩ = some (.int .i64 7) := keep1 hb4 (by simp)
  have y3 : w4.cell? ⟨w3.heap.size, 1, none⟩ = some (.int .u64 7) := keep1 hb4 (by simp)
  have BB := bstep (ball BB _) hb4
  go_wp2_with fail
  refine (note_at 7 7 71 71 1 0 _ (by decide) _ rfl (by decide) (by decide) (by decide)).mono ?_
  rintro e w5 ⟨rfl, hb5⟩
  have x1 := keep1 hb5 (old1 x1 _)
  have y1 := keep1 hb5 (old1 y1 _)
  have x2 := keep1 hb5 (old1 x2 _)
  have y2 := keep1 hb5 (old1 y2 _)
  have x3 := keep1 hb5 (old1 x3 _)
  have y3 := keep1 hb5 (old1 y3 _)
  have x4 : w5.cell? ⟨w4.heap.size, 0, none⟩ = some (.int .i64 0) := keep1 hb5 (by simp)
  have y4 : w5.cell? ⟨w4.heap.size, 1, none⟩ = some (.int .u64 0) := keep1 hb5 (by simp)
  have BB := bstep (ball BB _) hb5
  go_wp2_with fail
  refine (note_at 5 1 0 0 0 1 _ (by decide) _ rfl (by decide) (by decide) (by decide)).mono ?_
  rintro e w6 ⟨rfl, hb6⟩
  have x1 := keep1 hb6 (old1 x1 _)
  have y1 := keep1 hb6 (old1 y1 _)
  have x2 := keep1 hb6 (old1 x2 _)
  have y2 := keep1 hb6 (old1 y2 _)
  have x3 := keep1 hb6 (old1 x3 _)
  have y3 := keep1 hb6 (old1 y3 _)
  have x4 := keep1 hb6 (old1 x4 _)
  have y4 := keep1 hb6 (old1 y4 _)
  have x5 : w6.cell? ⟨w5.heap.size, 0, none⟩ = some (.int .i64 71) := keep1 hb6 (by simp)
  have y5 : w6.cell? ⟨w5.heap.size, 1, none⟩ = some (.int .u64 1) := keep1 hb6 (by simp)
  have BB := bstep (ball BB _) hb6
  go_wp2_with fail
  refine (fresh_at 71 1 8 true _ (by decide) _ rfl (by decide)).mono ?_
  rintro e v0 ⟨rfl, hc0⟩
  have x1 := keep1 hc0 (old1 x1 _)
  have x2 := keep1 hc0 (old1 x2 _)
  have x3 := keep1 hc0 (old1 x3 _)
  have x5 := keep1 hc0 (old1 x5 _)
  have y1 := keep1 hc0 (old1 y1 _)
  have y2 := keep1 hc0 (old1 y2 _)
  have y3 := keep1 hc0 (old1 y3 _)
  have y5 := keep1 hc0 (old1 y5 _)
  have BB := bstep (ball BB _) hc0
  go_wp2_with fail
  refine (fresh_at 71 1 7 false _ (by decide) _ rfl (by decide)).mono ?_
  rintro e v1 ⟨rfl, hc1⟩
  have x1 := keep1 hc1 (x1)
  have x2 := keep1 hc1 (x2)
  have x3 := keep1 hc1 (x3)
  have x5 := keep1 hc1 (x5)
  have y1 := keep1 hc1 (y1)
  have y2 := keep1 hc1 (y2)
  have y3 := keep1 hc1 (y3)
  have y5 := keep1 hc1 (y5)
  have BB := bstep (BB) hc1
  go_wp2_with fail
  refine (valid_at 71 1 true _ (by decide) _ rfl (by decide)).mono ?_
  rintro e v2 ⟨rfl, hc2⟩
  have x1 := keep1 hc2 (x1)
  have x2 := keep1 hc2 (x2)
  have x3 := keep1 hc2 (x3)
  have x5 := keep1 hc2 (x5)
  have y1 := keep1 hc2 (y1)
  have y2 := keep1 hc2 (y2)
  have y3 := keep1 hc2 (y3)
  have y5 := keep1 hc2 (y5)
  have BB := bstep (BB) hc2
  go_wp2_with fail
  refine (valid_at 1 3 false _ (by decide) _ rfl (by decide)).mono ?_
  rintro e v3 ⟨rfl, hc3⟩
  have x1 := keep1 hc3 (x1)
  have x2 := keep1 hc3 (x2)
  have x3 := keep1 hc3 (x3)
  have x5 := keep1 hc3 (x5)
  have y1 := keep1 hc3 (y1)
  have y2 := keep1 hc3 (y2)
  have y3 := keep1 hc3 (y3)
  have y5 := keep1 hc3 (y5)
  have BB := bstep (BB) hc3
  go_wp2_with fail
  go_ret
  exact ⟨rfl, BB⟩
end Go.Proofs.Ytlofghfdcfpaiaa
