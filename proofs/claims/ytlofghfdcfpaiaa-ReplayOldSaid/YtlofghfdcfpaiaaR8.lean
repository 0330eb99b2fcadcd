/- Proved: that the laws ReplayMatchesReference, ReplayMoving and ReplayJumps return true for every input. Conditions: the bits of a window fit into a uint64. -/
import Derived.Test.YtlofghfdcfpaiaaR5
import Derived.Test.YtlofghfdcfpaiaaR6
import Derived.Test.YtlofghfdcfpaiaaR7
import Derived.Lib.MinMax
namespace Go.Proofs.Ytlofghfdcfpaiaa
open Go.RowKit Go.Sort Go.BigFrame
set_option linter.unusedVariables false
attribute [local go_sem] cell_alloc_old

set_option maxHeartbeats 1000000 in
theorem lawMatches (T : Int) (B : Nat) (n : Int) (w : World) (hB : B < U) :
    Calls Try.prog 3 #[.agg #[.int .i64 T, .int .u64 B], .int .i64 n] w fun e w' => e = .returned (.bool true) ∧ Below w.heap.size w w' := by
  go_enter Try.func3, Try.ntmps3
  go_wp2_with fail
  refine (head_any _).mono ?_
  rintro e w1 ⟨rfl, hb1⟩
  have t0 : w1.cell? ⟨w.heap.size, 0, none⟩ = some (.int .i64 T) := keep1 hb1 (by simp)
  have t1 : w1.cell? ⟨w.heap.size, 1, none⟩ = some (.int .u64 B) := keep1 hb1 (by simp)
  have BB := bstep (ball (Below.refl w.heap.size w) _) hb1
  go_wp2_with fail
  refine (note_any _ _ _ _ hB).mono ?_
  rintro e w2 ⟨rfl, hb2⟩
  have t0 := keep1 hb2 (t0)
  have t1 := keep1 hb2 (t1)
  have BB := bstep BB hb2
  go_wp2_with fail
  refine (rnote_any _ _ _ _ hB).mono ?_
  rintro e w3 ⟨rfl, hb3⟩
  have t0 := keep1 hb3 (old1 t0 _)
  have t1 := keep1 hb3 (old1 t1 _)
  have a0 : w3.cell? ⟨w2.heap.size, 0, none⟩ = some (.int .i64 (noteT T B n)) := keep1 hb3 (by simp)
  have a1 : w3.cell? ⟨w2.heap.size, 1, none⟩ = some (.int .u64 (noteB T B n)) := keep1 hb3 (by simp)
  have BB := bstep (ball BB _) hb3
  go_wp2_with fail
  obtain ⟨W, hW⟩ : ∃ W, W = (w3.alloc (box (noteT T B n) (noteB T B n))) := ⟨_, rfl⟩
  replace t0 := (old1 t0 (box (noteT T B n) (noteB T B n)))
  rw [← hW] at t0
  replace t1 := (old1 t1 (box (noteT T B n) (noteB T B n)))
  rw [← hW] at t1
  replace a0 := (old1 a0 (box (noteT T B n) (noteB T B n)))
  rw [← hW] at a0
  replace a1 := (old1 a1 (box (noteT T B n) (noteB T B n)))
  rw [← hW] at a1
  have b0 : W.cell? ⟨w3.heap.size, 0, none⟩ = some (.int .i64 (noteT T B n)) := by rw [hW]; simp
  have b1 : W.cell? ⟨w3.heap.size, 1, none⟩ = some (.int .u64 (noteB T B n)) := by rw [hW]; simp
  have BB := (ball BB (box (noteT T B n) (noteB T B n)))
  rw [← hW] at BB ⊢
  clear hW
  have kt0 := cell_regrown t0
  have kt1 := cell_regrown t1
  have ka0 := cell_regrown a0
  have ka1 := cell_regrown a1
  have kb0 := cell_regrown b0
  have kb1 := cell_regrown b1
  refine wp_region_quiet_below (by kernel_rfl) (by kernel_rfl) ?_
  repeat (go_big_quiet_step (first
    | (go_at_call 12; exact rg_of fun w' h => (valid_any _ _ _ hB).mono fun e w'' ⟨a, b⟩ => ⟨a, b ▸ ball (Below.refl _ _) _⟩)
    | (go_at_call 13; exact rg_of fun w' h => rvalid_any _ _ _ hB)
    | (go_at_call 14; exact rg_of fun w' h => (fresh_any _ _ _ _ hB).mono fun e w'' ⟨a, b⟩ => ⟨a, b ▸ ball (ball (Below.refl _ _) _) _⟩)
    | (go_at_call 15; exact rg_of fun w' h => rfresh_any _ _ _ _ hB)))
  refine wpQuiet_nil ?_
  intro _ hw'
  obtain ⟨⟨dq, osq⟩, hw''⟩ := hw'
  subst hw''
  go_wp2
  go_ret
  exact ⟨rfl, bstep BB (below_regrown W dq osq)⟩
end Go.Proofs.Ytlofghfdcfpaiaa
