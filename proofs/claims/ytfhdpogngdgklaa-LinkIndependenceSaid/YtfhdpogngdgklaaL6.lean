/- Proved: what the counter's add does to a link in memory. Conditions: the counts are small. -/
import Derived.Test.YtfhdpogngdgklaaL5
namespace Go.Proofs.Ytfhdpogngdgklaa
open Go.RowKit Go.Sort Go.BigFrame
set_option linter.unusedVariables false
set_option linter.unusedSimpArgs false
attribute [local go_sem] cell_alloc_old

def AddPost (c : Nat) (y : Lk) (w : World) (e : Ending) (w' : World) : Prop :=
  e = .returned (.tuple #[]) ∧ w'.cell? ⟨c, 0, none⟩ = some (.int .i64 y.p) ∧ w'.cell? ⟨c, 1, none⟩ = some (.int .i64 y.s) ∧ w'.cell? ⟨c, 2, none⟩ = some (.int .i64 y.g) ∧ Below c w w'

set_option maxRecDepth 100000 in
set_option maxHeartbeats 4000000 in
theorem add_any (c : Nat) (p s g : Int) (acked : Bool) (w : World) (h0 : w.cell? ⟨c, 0, none⟩ = some (.int .i64 p)) (h1 : w.cell? ⟨c, 1, none⟩ = some (.int .i64 s)) (h2 : w.cell? ⟨c, 2, none⟩ = some (.int .i64 g))
    (f1 : w.frozen? ⟨c, 1, none⟩ = false) (f2 : w.frozen? ⟨c, 2, none⟩ = false) (s0 : 0 ≤ s) (s1 : s ≤ 31) (g0 : 0 ≤ g) (g1 : g ≤ s) :
    Calls Try.prog 21 #[.pointer (some ⟨c, 0, none⟩), .bool acked] w (AddPost c (cntV ⟨p, s, g⟩ acked) w) := by
  cases acked
  · by_cases h : s + 1 = 32
    · have e1 : cntV ⟨p, s, g⟩ false = ⟨p, 16, g / 2⟩ := by simp [cntV, h]
      rw [e1]; clear e1
      go_enter Try.func21, Try.ntmps21
      go_wp2_with fail
      have BV : Below c w (w.setCell ⟨c, 1, none⟩ (.int .i64 32)) := (Below.refl c w).setCell (p := ⟨c, 1, none⟩) (Nat.le_refl _) _
      have c0 : (w.setCell ⟨c, 1, none⟩ (.int .i64 32)).cell? ⟨c, 0, none⟩ = some (.int .i64 p) := by rw [World.cell?_setCell_other _ _ _ _ (by simp)]; exact h0
      have c1 : (w.setCell ⟨c, 1, none⟩ (.int .i64 32)).cell? ⟨c, 1, none⟩ = some (.int .i64 32) := World.cell?_setCell_same' _ _ _ (by rw [h1]; rfl)
      have c2 : (w.setCell ⟨c, 1, none⟩ (.int .i64 32)).cell? ⟨c, 2, none⟩ = some (.int .i64 g) := by rw [World.cell?_setCell_other _ _ _ _ (by simp)]; exact h2
      have d1 : (w.setCell ⟨c, 1, none⟩ (.int .i64 32)).frozen? ⟨c, 1, none⟩ = false := by simp only [World.frozen?_setCell]; exact f1
      have d2 : (w.setCell ⟨c, 1, none⟩ (.int .i64 32)).frozen? ⟨c, 2, none⟩ = false := by simp only [World.frozen?_setCell]; exact f2
      obtain ⟨V, hV⟩ : ∃ V, (w.setCell ⟨c, 1, none⟩ (.int .i64 32)) = V := ⟨_, rfl⟩
      rw [hV] at BV c0 c1 c2 d1 d2 ⊢
      clear hV h0 h1 h2 f1 f2
      have k1 := cell_regrown c1; have k2 := cell_regrown c2
      have hw2 : IntKind.i64.wrap ((g : Int).tdiv 2) = g / 2 := IntWalk.i64_quo _ _ (by omega)
      refine' wp_region_late' [0, 1, 2, 3, 4, 5, 6, 7, 8, 9, 10, 11, 12, 13, 14, 15, 16] [] [17, 18, 19, 20, 21] [1, 13] (by kernel_rfl) (by kernel_rfl) _
        (fun w' => True) (fun j => if j = 1 then .pointer (some ⟨c, 0, none⟩) else .int .i64 (g / 2))
        (fun Z hZ hN => quiet_hole ?hq1) (fun _ => .cells #[] 0) (fun _ _ => undef) (fun i hi => by cases hi) ?hl1 ?ht1
      case hq1 =>
        intro Q9 hQ9
        show wpQuiet _ _ _ _ [_, _, _, _, _, _, _, _, _, _, _, _, _, _, _, _, _] _
        repeat (go_big_quiet_step (fail))
        exact wpQuiet_nil hQ9
      case hl1 =>
        intro j hj o ho
        simp only [List.mem_cons, List.not_mem_nil, or_false] at hj
        rcases hj with rfl | rfl
        · simp only [List.getElem?_cons_succ, List.getElem?_cons_zero, Option.some.injEq] at ho
          subst ho
          refine ⟨fun w' hw' => by go_simp, fun t ht => ?_⟩
          simp only [Option.some.injEq] at ht
          subst ht
          rfl
        · simp only [List.getElem?_cons_succ, List.getElem?_cons_zero, Option.some.injEq] at ho
          subst ho
          refine ⟨fun w' hw' => by go_simp, fun t ht => ?_⟩
          simp only [Option.some.injEq] at ht
          subst ht
          rfl
      intro π z hz _ _
      clear k1 k2
      have e0 := keep1 hz c0
      have e1 := keep1 hz c1
      have e2 := keep1 hz c2
      have g1' := keepF hz c1 d1
      have g2' := keepF hz c2 d2
      have hcV : c < V.heap.size := World.block_lt_of_cell? V ⟨c, 0, none⟩ c0
      have BZ : Below c w z := BV.trans (hz.mono (Nat.le_of_lt hcV))
      refine ⟨trivial, ?_⟩
      simp only [putsA]
      show wpListS _ _ _ _ [_, _, _, _, _] _ _
      refine listS_step rfl fun K hK => ?_
      go_simp
      refine hK _ _ trivial ?_
      clear hK K
      refine listS_step rfl fun K hK => ?_
      go_simp
      refine hK _ _ trivial ?_
      clear hK K
      refine listS_step rfl fun K hK => ?_
      go_simp
      refine hK _ _ trivial ?_
      clear hK K
      refine listS_step rfl fun K hK => ?_
      go_simp
      refine hK _ _ trivial ?_
      clear hK K
      refine listS_step rfl fun K hK => ?_
      go_simp
      refine hK _ _ trivial ?_
      clear hK K
      unfold wpListS noPanic
      go_end0
      refine ⟨rfl, ?_, ?_, ?_, (BZ.setCell (p := ⟨c, 1, none⟩) (Nat.le_refl _) _).setCell (p := ⟨c, 2, none⟩) (Nat.le_refl _) _⟩
      · rw [World.cell?_setCell_other _ _ _ _ (by simp), World.cell?_setCell_other _ _ _ _ (by simp)]; exact e0
      · rw [World.cell?_setCell_other _ _ _ _ (by simp)]; exact World.cell?_setCell_same' _ _ _ (by rw [e1]; rfl)
      · exact World.cell?_setCell_same' _ _ _ (by rw [World.cell?_setCell_other _ _ _ _ (by simp), e2]; rfl)
    · have e1 : cntV ⟨p, s, g⟩ false = ⟨p, s + 1, g⟩ := by simp [cntV, h]
      rw [e1]; clear e1
      go_enter Try.func21, Try.ntmps21
      go_wp2_with fail
      have BV : Below c w (w.setCell ⟨c, 1, none⟩ (.int .i64 (s + 1))) := (Below.refl c w).setCell (p := ⟨c, 1, none⟩) (Nat.le_refl _) _
      have c0 : (w.setCell ⟨c, 1, none⟩ (.int .i64 (s + 1))).cell? ⟨c, 0, none⟩ = some (.int .i64 p) := by rw [World.cell?_setCell_other _ _ _ _ (by simp)]; exact h0
      have c1 : (w.setCell ⟨c, 1, none⟩ (.int .i64 (s + 1))).cell? ⟨c, 1, none⟩ = some (.int .i64 (s + 1)) := World.cell?_setCell_same' _ _ _ (by rw [h1]; rfl)
      have c2 : (w.setCell ⟨c, 1, none⟩ (.int .i64 (s + 1))).cell? ⟨c, 2, none⟩ = some (.int .i64 g) := by rw [World.cell?_setCell_other _ _ _ _ (by simp)]; exact h2
      have hb : (s + 1 == 32) = false := by simp [h]
      go_wp2_with fail
      go_end0
      exact ⟨rfl, c0, c1, c2, BV⟩
  · by_cases h : s + 1 = 32
    · have e1 : cntV ⟨p, s, g⟩ true = ⟨p, 16, (g + 1) / 2⟩ := by simp [cntV, h]
      rw [e1]; clear e1
      go_enter Try.func21, Try.ntmps21
      go_wp2_with fail
      have BV : Below c w ((w.setCell ⟨c, 1, none⟩ (.int .i64 32)).setCell ⟨c, 2, none⟩ (.int .i64 (g + 1))) := ((Below.refl c w).setCell (p := ⟨c, 1, none⟩) (Nat.le_refl _) _).setCell (p := ⟨c, 2, none⟩) (Nat.le_refl _) _
      have c0 : ((w.setCell ⟨c, 1, none⟩ (.int .i64 32)).setCell ⟨c, 2, none⟩ (.int .i64 (g + 1))).cell? ⟨c, 0, none⟩ = some (.int .i64 p) := by rw [World.cell?_setCell_other _ _ _ _ (by simp), World.cell?_setCell_other _ _ _ _ (by simp)]; exact h0
      have c1 : ((w.setCell ⟨c, 1, none⟩ (.int .i64 32)).setCell ⟨c, 2, none⟩ (.int .i64 (g + 1))).cell? ⟨c, 1, none⟩ = some (.int .i64 32) := by rw [World.cell?_setCell_other _ _ _ _ (by simp)]; exact World.cell?_setCell_same' _ _ _ (by rw [h1]; rfl)
      have c2 : ((w.setCell ⟨c, 1, none⟩ (.int .i64 32)).setCell ⟨c, 2, none⟩ (.int .i64 (g + 1))).cell? ⟨c, 2, none⟩ = some (.int .i64 (g + 1)) := World.cell?_setCell_same' _ _ _ (by rw [World.cell?_setCell_other _ _ _ _ (by simp), h2]; rfl)
      have d1 : ((w.setCell ⟨c, 1, none⟩ (.int .i64 32)).setCell ⟨c, 2, none⟩ (.int .i64 (g + 1))).frozen? ⟨c, 1, none⟩ = false := by simp only [World.frozen?_setCell]; exact f1
      have d2 : ((w.setCell ⟨c, 1, none⟩ (.int .i64 32)).setCell ⟨c, 2, none⟩ (.int .i64 (g + 1))).frozen? ⟨c, 2, none⟩ = false := by simp only [World.frozen?_setCell]; exact f2
      obtain ⟨V, hV⟩ : ∃ V, ((w.setCell ⟨c, 1, none⟩ (.int .i64 32)).setCell ⟨c, 2, none⟩ (.int .i64 (g + 1))) = V := ⟨_, rfl⟩
      rw [hV] at BV c0 c1 c2 d1 d2 ⊢
      clear hV h0 h1 h2 f1 f2
      have k1 := cell_regrown c1; have k2 := cell_regrown c2
      have hw2 : IntKind.i64.wrap (((g + 1) : Int).tdiv 2) = (g + 1) / 2 := IntWalk.i64_quo _ _ (by omega)
      refine' wp_region_late' [0, 1, 2, 3, 4, 5, 6, 7, 8, 9, 10, 11, 12, 13, 14, 15, 16] [] [17, 18, 19, 20, 21] [1, 13] (by kernel_rfl) (by kernel_rfl) _
        (fun w' => True) (fun j => if j = 1 then .pointer (some ⟨c, 0, none⟩) else .int .i64 ((g + 1) / 2))
        (fun Z hZ hN => quiet_hole ?hq2) (fun _ => .cells #[] 0) (fun _ _ => undef) (fun i hi => by cases hi) ?hl2 ?ht2
      case hq2 =>
        intro Q9 hQ9
        show wpQuiet _ _ _ _ [_, _, _, _, _, _, _, _, _, _, _, _, _, _, _, _, _] _
        repeat (go_big_quiet_step (fail))
        exact wpQuiet_nil hQ9
      case hl2 =>
        intro j hj o ho
        simp only [List.mem_cons, List.not_mem_nil, or_false] at hj
        rcases hj with rfl | rfl
        · simp only [List.getElem?_cons_succ, List.getElem?_cons_zero, Option.some.injEq] at ho
          subst ho
          refine ⟨fun w' hw' => by go_simp, fun t ht => ?_⟩
          simp only [Option.some.injEq] at ht
          subst ht
          rfl
        · simp only [List.getElem?_cons_succ, List.getElem?_cons_zero, Option.some.injEq] at ho
          subst ho
          refine ⟨fun w' hw' => by go_simp, fun t ht => ?_⟩
          simp only [Option.some.injEq] at ht
          subst ht
          rfl
      intro π z hz _ _
      clear k1 k2
      have e0 := keep1 hz c0
      have e1 := keep1 hz c1
      have e2 := keep1 hz c2
      have g1' := keepF hz c1 d1
      have g2' := keepF hz c2 d2
      have hcV : c < V.heap.size := World.block_lt_of_cell? V ⟨c, 0, none⟩ c0
      have BZ : Below c w z := BV.trans (hz.mono (Nat.le_of_lt hcV))
      refine ⟨trivial, ?_⟩
      simp only [putsA]
      show wpListS _ _ _ _ [_, _, _, _, _] _ _
      refine listS_step rfl fun K hK => ?_
      go_simp
      refine hK _ _ trivial ?_
      clear hK K
      refine listS_step rfl fun K hK => ?_
      go_simp
      refine hK _ _ trivial ?_
      clear hK K
      refine listS_step rfl fun K hK => ?_
      go_simp
      refine hK _ _ trivial ?_
      clear hK K
      refine listS_step rfl fun K hK => ?_
      go_simp
      refine hK _ _ trivial ?_
      clear hK K
      refine listS_step rfl fun K hK => ?_
      go_simp
      refine hK _ _ trivial ?_
      clear hK K
      unfold wpListS noPanic
      go_end0
      refine ⟨rfl, ?_, ?_, ?_, (BZ.setCell (p := ⟨c, 1, none⟩) (Nat.le_refl _) _).setCell (p := ⟨c, 2, none⟩) (Nat.le_refl _) _⟩
      · rw [World.cell?_setCell_other _ _ _ _ (by simp), World.cell?_setCell_other _ _ _ _ (by simp)]; exact e0
      · rw [World.cell?_setCell_other _ _ _ _ (by simp)]; exact World.cell?_setCell_same' _ _ _ (by rw [e1]; rfl)
      · exact World.cell?_setCell_same' _ _ _ (by rw [World.cell?_setCell_other _ _ _ _ (by simp), e2]; rfl)
    · have e1 : cntV ⟨p, s, g⟩ true = ⟨p, s + 1, (g + 1)⟩ := by simp [cntV, h]
      rw [e1]; clear e1
      go_enter Try.func21, Try.ntmps21
      go_wp2_with fail
      have BV : Below c w ((w.setCell ⟨c, 1, none⟩ (.int .i64 (s + 1))).setCell ⟨c, 2, none⟩ (.int .i64 (g + 1))) := ((Below.refl c w).setCell (p := ⟨c, 1, none⟩) (Nat.le_refl _) _).setCell (p := ⟨c, 2, none⟩) (Nat.le_refl _) _
      have c0 : ((w.setCell ⟨c, 1, none⟩ (.int .i64 (s + 1))).setCell ⟨c, 2, none⟩ (.int .i64 (g + 1))).cell? ⟨c, 0, none⟩ = some (.int .i64 p) := by rw [World.cell?_setCell_other _ _ _ _ (by simp), World.cell?_setCell_other _ _ _ _ (by simp)]; exact h0
      have c1 : ((w.setCell ⟨c, 1, none⟩ (.int .i64 (s + 1))).setCell ⟨c, 2, none⟩ (.int .i64 (g + 1))).cell? ⟨c, 1, none⟩ = some (.int .i64 (s + 1)) := by rw [World.cell?_setCell_other _ _ _ _ (by simp)]; exact World.cell?_setCell_same' _ _ _ (by rw [h1]; rfl)
      have c2 : ((w.setCell ⟨c, 1, none⟩ (.int .i64 (s + 1))).setCell ⟨c, 2, none⟩ (.int .i64 (g + 1))).cell? ⟨c, 2, none⟩ = some (.int .i64 (g + 1)) := World.cell?_setCell_same' _ _ _ (by rw [World.cell?_setCell_other _ _ _ _ (by simp), h2]; rfl)
      have hb : (s + 1 == 32) = false := by simp [h]
      go_wp2_with fail
      go_end0
      exact ⟨rfl, c0, c1, c2, BV⟩
end Go.Proofs.Ytfhdpogngdgklaa
