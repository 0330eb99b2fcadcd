/- Proved: that the laws LedgerMatchesReference, LedgerRefuses and LedgerSteps return true for every input. Conditions: the table of costs holds its three numbers. -/
import Derived.Test.YthidofifdehddaaDoorL2
namespace Go.Proofs.YthidofifdehddaaDoor
open Go.RowKit Go.Sort Go.BigFrame
set_option linter.unusedVariables false
attribute [local go_sem] cell_alloc_old

/-- A callee's contract met in a world of the class 'this world, some blocks and draws later'. -/
theorem rg_of {f : FuncId} {args : Array Value} {w : World} {d : Nat} {os : Array Obj} {v : Value}
    (h : ∀ w', Below w.heap.size w w' → Calls Tryd.prog f args w' fun e w'' => e = .returned v ∧ Below w'.heap.size w' w'') :
    Calls Tryd.prog f args (grow (redrawn w d) os) fun e w'' => e = .returned v ∧ ∃ p : Regrown, w'' = grow (redrawn w p.d) p.os :=
  Calls.regrown_of (h _ (below_regrown w d os))
theorem rg_same {f : FuncId} {args : Array Value} {w : World} {d : Nat} {os : Array Obj} {v : Value}
    (h : ∀ w', Below w.heap.size w w' → Calls Tryd.prog f args w' fun e w'' => e = .returned v ∧ w' = w'') :
    Calls Tryd.prog f args (grow (redrawn w d) os) fun e w'' => e = .returned v ∧ ∃ p : Regrown, w'' = grow (redrawn w p.d) p.os :=
  (h _ (below_regrown w d os)).mono fun _ _ ⟨a, b⟩ => ⟨a, ⟨d, os⟩, b.symm⟩

set_option maxHeartbeats 400000 in
theorem lawMatches (l s c d : Int) (w : World) (hT : Tab w) :
    Calls Tryd.prog 3 #[.agg #[.int .i64 l, .int .i64 s], .int .i64 c, .int .i64 d] w fun e w' => e = .returned (.bool true) ∧ Below w.heap.size w w' := by
  have T0 := hT.alloc (.cells #[.int .i64 l, .int .i64 s] 23)
  have B0 : Below w.heap.size w (w.alloc (.cells #[.int .i64 l, .int .i64 s] 23)) := (Below.refl _ _).alloc (Nat.le_refl _) _
  go_enter Tryd.func3, Tryd.ntmps3
  go_wp2_with fail
  refine (head_any _ T0).mono ?_
  rintro e w1 ⟨rfl, hb1⟩
  have c1 : w1.cell? ⟨w.heap.size, 0, none⟩ = some (.int .i64 l) := keep1 hb1 (by simp)
  have c2 : w1.cell? ⟨w.heap.size, 1, none⟩ = some (.int .i64 s) := keep1 hb1 (by simp)
  have B1 := bstep B0 hb1
  go_wp2_with fail
  refine (spend_any _ _ _ _).mono ?_
  rintro e w2 ⟨rfl, hb2⟩
  have d1 := keep1 hb2 c1
  have d2 := keep1 hb2 c2
  have B2 := bstep B1 hb2
  go_wp2_with fail
  refine (rspend_any _ _ _ _).mono ?_
  rintro e w3 ⟨rfl, hb3⟩
  have f1 : w3.cell? ⟨w.heap.size, 0, none⟩ = some (.int .i64 l) := keep1 hb3 (by rw [cell_alloc_old (by rw [d1]; rfl)]; exact d1)
  have f2 : w3.cell? ⟨w.heap.size, 1, none⟩ = some (.int .i64 s) := keep1 hb3 (by rw [cell_alloc_old (by rw [d2]; rfl)]; exact d2)
  have f3 : w3.cell? ⟨w2.heap.size, 0, none⟩ = some (.int .i64 (spendL l s c)) := keep1 hb3 (by simp)
  have f4 : w3.cell? ⟨w2.heap.size, 1, none⟩ = some (.int .i64 (spendS l s c)) := keep1 hb3 (by simp)
  have B3 := bstep (B2.alloc B2.size _) hb3
  have B4 := B3.alloc B3.size (.cells #[.int .i64 (spendL l s c), .int .i64 (spendS l s c)] 23)
  have T4 := hT.keep B4
  go_wp2_with fail
  obtain ⟨W, hW⟩ : ∃ W, W = w3.alloc (.cells #[.int .i64 (spendL l s c), .int .i64 (spendS l s c)] 23) := ⟨_, rfl⟩
  have g1 : W.cell? ⟨w.heap.size, 0, none⟩ = some (.int .i64 l) := by rw [hW, cell_alloc_old (by rw [f1]; rfl)]; exact f1
  have g2 : W.cell? ⟨w.heap.size, 1, none⟩ = some (.int .i64 s) := by rw [hW, cell_alloc_old (by rw [f2]; rfl)]; exact f2
  have g3 : W.cell? ⟨w2.heap.size, 0, none⟩ = some (.int .i64 (spendL l s c)) := by rw [hW, cell_alloc_old (by rw [f3]; rfl)]; exact f3
  have g4 : W.cell? ⟨w2.heap.size, 1, none⟩ = some (.int .i64 (spendS l s c)) := by rw [hW, cell_alloc_old (by rw [f4]; rfl)]; exact f4
  have g5 : W.cell? ⟨w3.heap.size, 0, none⟩ = some (.int .i64 (spendL l s c)) := by rw [hW]; simp
  have g6 : W.cell? ⟨w3.heap.size, 1, none⟩ = some (.int .i64 (spendS l s c)) := by rw [hW]; simp
  rw [← hW] at B4 T4 ⊢
  clear hW c1 c2 d1 d2 f1 f2 f3 f4
  have k1 := cell_regrown g1
  have k2 := cell_regrown g2
  have k3 := cell_regrown g3
  have k4 := cell_regrown g4
  have k5 := cell_regrown g5
  have k6 := cell_regrown g6
  refine wp_region_quiet_below (by kernel_rfl) (by kernel_rfl) ?_
  repeat (go_big_quiet_step (first
    | (go_at_call 12; exact rg_same fun w' h => cost_any _ _ (T4.keep h))
    | (go_at_call 13; exact rg_same fun w' h => rcost_any _ _)
    | (go_at_call 14; exact rg_of fun w' h => lasts_any _ _ _ _ (T4.keep h))
    | (go_at_call 15; exact rg_of fun w' h => rlasts_any _ _ _ _)))
  refine wpQuiet_nil ?_
  intro _ hw'
  obtain ⟨⟨dq, osq⟩, hw''⟩ := hw'
  subst hw''
  go_wp2
  go_ret
  exact ⟨rfl, bstep B4 (below_regrown W dq osq)⟩
end Go.Proofs.YthidofifdehddaaDoor
