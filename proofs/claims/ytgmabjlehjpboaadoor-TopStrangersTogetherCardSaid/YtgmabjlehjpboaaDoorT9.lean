/- Proved: what a stranger that is out asks: its refusals. Conditions: those that each theorem names. -/
import Derived.Test.YtgmabjlehjpboaaDoorT8
namespace Go.Proofs.YtgmabjlehjpboaaDoor
open Go.RowKit Go.Sort Go.BigFrame Go.Proofs.YtgmabjlehjpboaaDoor.K
set_option linter.unusedVariables false
set_option linter.unusedSimpArgs false
attribute [local go_sem] cell_alloc_old

abbrev zJn : Jn := ⟨0, 0, 0, 0, 0⟩
theorem fresh_ok (t : Int) : Jn.ok ⟨0, -1, 0, 0, t⟩ := ⟨by simp, by simp, by simp, by simp, by simp, by simp, by simp, by simp⟩
set_option maxRecDepth 100000 in
set_option maxHeartbeats 4000000 in
theorem ask_r0 (t m b s f : Int) (w : World) (h0 : triesB t = false) :
    Calls Tryd.prog 22 #[(⟨0, -1, 0, 0, t⟩ : Jn).v, .int .i64 m, .int .i64 b, .int .i64 s, .int .i64 f] w (Ans (.tuple #[zJn.v, zWd.v, .int .i64 1]) w) := by
  have H0 := Lib.hid h0; clear h0
  go_enter Tryd.func22, Tryd.ntmps22
  go_wp2_with fail
  have Tj := CAt.new (w) [.int .i64 0, .int .i64 (-1), .int .i64 0, .int .i64 0, .int .i64 t] 28
  have BB : Below w.heap.size w ((w).alloc (.cells #[.int .i64 0, .int .i64 (-1), .int .i64 0, .int .i64 0, .int .i64 t] 28)) := ball (Below.refl _ _) _
  have To := CAt.new (w.alloc (.cells #[.int .i64 0, .int .i64 (-1), .int .i64 0, .int .i64 0, .int .i64 t] 28)) [.int .i64 0, .int .i64 0, .int .i64 0, .int .i64 0, .int .i64 0] 28
  have Fo := Fz.new (w.alloc (.cells #[.int .i64 0, .int .i64 (-1), .int .i64 0, .int .i64 0, .int .i64 t] 28)) #[.int .i64 0, .int .i64 0, .int .i64 0, .int .i64 0, .int .i64 0] 28
  replace Tj := Tj.alloc (.cells #[.int .i64 0, .int .i64 0, .int .i64 0, .int .i64 0, .int .i64 0] 28)
  replace BB := ball BB (.cells #[.int .i64 0, .int .i64 0, .int .i64 0, .int .i64 0, .int .i64 0] 28)
  have Tq := CAt.new ((w.alloc (.cells #[.int .i64 0, .int .i64 (-1), .int .i64 0, .int .i64 0, .int .i64 t] 28)).alloc (.cells #[.int .i64 0, .int .i64 0, .int .i64 0, .int .i64 0, .int .i64 0] 28)) [.int .i64 0, .int .i64 0, .int .i64 0, .int .i64 0, .int .i64 0, .int .i64 0, .int .i64 0, .int .i64 0] 43
  have Fq := Fz.new ((w.alloc (.cells #[.int .i64 0, .int .i64 (-1), .int .i64 0, .int .i64 0, .int .i64 t] 28)).alloc (.cells #[.int .i64 0, .int .i64 0, .int .i64 0, .int .i64 0, .int .i64 0] 28)) #[.int .i64 0, .int .i64 0, .int .i64 0, .int .i64 0, .int .i64 0, .int .i64 0, .int .i64 0, .int .i64 0] 43
  replace Tj := Tj.alloc (.cells #[.int .i64 0, .int .i64 0, .int .i64 0, .int .i64 0, .int .i64 0, .int .i64 0, .int .i64 0, .int .i64 0] 43)
  replace To := To.alloc (.cells #[.int .i64 0, .int .i64 0, .int .i64 0, .int .i64 0, .int .i64 0, .int .i64 0, .int .i64 0, .int .i64 0] 43)
  replace Fo := Fo.alloc (.cells #[.int .i64 0, .int .i64 0, .int .i64 0, .int .i64 0, .int .i64 0, .int .i64 0, .int .i64 0, .int .i64 0] 43)
  replace BB := ball BB (.cells #[.int .i64 0, .int .i64 0, .int .i64 0, .int .i64 0, .int .i64 0, .int .i64 0, .int .i64 0, .int .i64 0] 43)
  have Ta := CAt.new (((w.alloc (.cells #[.int .i64 0, .int .i64 (-1), .int .i64 0, .int .i64 0, .int .i64 t] 28)).alloc (.cells #[.int .i64 0, .int .i64 0, .int .i64 0, .int .i64 0, .int .i64 0] 28)).alloc (.cells #[.int .i64 0, .int .i64 0, .int .i64 0, .int .i64 0, .int .i64 0, .int .i64 0, .int .i64 0, .int .i64 0] 43)) [.int .i64 0, .int .i64 (-1), .int .i64 0, .int .i64 0, .int .i64 t] 97
  replace Tj := Tj.alloc (.cells #[.int .i64 0, .int .i64 (-1), .int .i64 0, .int .i64 0, .int .i64 t] 97)
  replace To := To.alloc (.cells #[.int .i64 0, .int .i64 (-1), .int .i64 0, .int .i64 0, .int .i64 t] 97)
  replace Tq := Tq.alloc (.cells #[.int .i64 0, .int .i64 (-1), .int .i64 0, .int .i64 0, .int .i64 t] 97)
  replace Fo := Fo.alloc (.cells #[.int .i64 0, .int .i64 (-1), .int .i64 0, .int .i64 0, .int .i64 t] 97)
  replace Fq := Fq.alloc (.cells #[.int .i64 0, .int .i64 (-1), .int .i64 0, .int .i64 0, .int .i64 t] 97)
  replace BB := ball BB (.cells #[.int .i64 0, .int .i64 (-1), .int .i64 0, .int .i64 0, .int .i64 t] 97)
  simp only [World.size_alloc, Nat.add_assoc, Nat.reduceAdd] at To Fo Tq Fq Ta
  obtain ⟨V1, hV1⟩ : ∃ V1, (((w.alloc (.cells #[.int .i64 0, .int .i64 (-1), .int .i64 0, .int .i64 0, .int .i64 t] 28)).alloc (.cells #[.int .i64 0, .int .i64 0, .int .i64 0, .int .i64 0, .int .i64 0] 28)).alloc (.cells #[.int .i64 0, .int .i64 0, .int .i64 0, .int .i64 0, .int .i64 0, .int .i64 0, .int .i64 0, .int .i64 0] 43)).alloc (.cells #[.int .i64 0, .int .i64 (-1), .int .i64 0, .int .i64 0, .int .i64 t] 97) = V1 := ⟨_, rfl⟩
  rw [hV1] at BB Tj To Tq Ta Fo Fq ⊢
  clear hV1
  have a0 := Ta 0 _ rfl
  have a1 := Ta 1 _ rfl
  have a2 := Ta 2 _ rfl
  have a3 := Ta 3 _ rfl
  have a4 := Ta 4 _ rfl
  simp only [Nat.add_assoc, Nat.reduceAdd]
  go_wp2_with fail
  refine (jvalid_at ⟨0, -1, 0, 0, t⟩ _ false V1 (fresh_ok t) H0.out Ta).mono ?_
  clear a0 a1 a2 a3 a4
  rintro e w2 ⟨rfl, b2⟩
  replace Tj := Tj.keep b2
  replace To := To.keep b2
  replace Tq := Tq.keep b2
  replace Ta := Ta.keep b2
  replace Fo := Fo.keep b2
  replace Fq := Fq.keep b2
  replace BB := bstep BB b2
  clear b2
  have a0 := Ta 0 _ rfl
  have a1 := Ta 1 _ rfl
  have a2 := Ta 2 _ rfl
  have a3 := Ta 3 _ rfl
  have a4 := Ta 4 _ rfl
  have o0 := To 0 _ rfl
  have fo0 := Fo.1 0
  have o1 := To 1 _ rfl
  have fo1 := Fo.1 1
  have o2 := To 2 _ rfl
  have fo2 := Fo.1 2
  have o3 := To 3 _ rfl
  have fo3 := Fo.1 3
  have o4 := To 4 _ rfl
  have fo4 := Fo.1 4
  have q0 := Tq 0 _ rfl
  have fq0 := Fq.1 0
  have q1 := Tq 1 _ rfl
  have fq1 := Fq.1 1
  have q2 := Tq 2 _ rfl
  have fq2 := Fq.1 2
  have q3 := Tq 3 _ rfl
  have fq3 := Fq.1 3
  have q4 := Tq 4 _ rfl
  have fq4 := Fq.1 4
  have q5 := Tq 5 _ rfl
  have fq5 := Fq.1 5
  have q6 := Tq 6 _ rfl
  have fq6 := Fq.1 6
  have q7 := Tq 7 _ rfl
  have fq7 := Fq.1 7
  go_wp2_with fail
  clear a0 a1 a2 a3 a4 o0 fo0 o1 fo1 o2 fo2 o3 fo3 o4 fo4 q0 fq0 q1 fq1 q2 fq2 q3 fq3 q4 fq4 q5 fq5 q6 fq6 q7 fq7
  replace To := To.set 0 (.int .i64 0) (by simp)
  replace Tj := Tj.other (k' := w.heap.size + 1) (by omega) 0 (.int .i64 0)
  replace Tq := Tq.other (k' := w.heap.size + 1) (by omega) 0 (.int .i64 0)
  replace Ta := Ta.other (k' := w.heap.size + 1) (by omega) 0 (.int .i64 0)
  replace Fo := Fo.set ⟨w.heap.size + 1, 0, none⟩ (.int .i64 0)
  replace Fq := Fq.set ⟨w.heap.size + 1, 0, none⟩ (.int .i64 0)
  replace BB := BB.setCell (p := ⟨w.heap.size + 1, 0, none⟩) (by first | exact Nat.le_refl _ | (simp only; omega)) (.int .i64 0)
  replace To := To.set 1 (.int .i64 0) (by simp)
  replace Tj := Tj.other (k' := w.heap.size + 1) (by omega) 1 (.int .i64 0)
  replace Tq := Tq.other (k' := w.heap.size + 1) (by omega) 1 (.int .i64 0)
  replace Ta := Ta.other (k' := w.heap.size + 1) (by omega) 1 (.int .i64 0)
  replace Fo := Fo.set ⟨w.heap.size + 1, 1, none⟩ (.int .i64 0)
  replace Fq := Fq.set ⟨w.heap.size + 1, 1, none⟩ (.int .i64 0)
  replace BB := BB.setCell (p := ⟨w.heap.size + 1, 1, none⟩) (by first | exact Nat.le_refl _ | (simp only; omega)) (.int .i64 0)
  replace To := To.set 2 (.int .i64 0) (by simp)
  replace Tj := Tj.other (k' := w.heap.size + 1) (by omega) 2 (.int .i64 0)
  replace Tq := Tq.other (k' := w.heap.size + 1) (by omega) 2 (.int .i64 0)
  replace Ta := Ta.other (k' := w.heap.size + 1) (by omega) 2 (.int .i64 0)
  replace Fo := Fo.set ⟨w.heap.size + 1, 2, none⟩ (.int .i64 0)
  replace Fq := Fq.set ⟨w.heap.size + 1, 2, none⟩ (.int .i64 0)
  replace BB := BB.setCell (p := ⟨w.heap.size + 1, 2, none⟩) (by first | exact Nat.le_refl _ | (simp only; omega)) (.int .i64 0)
  replace To := To.set 3 (.int .i64 0) (by simp)
  replace Tj := Tj.other (k' := w.heap.size + 1) (by omega) 3 (.int .i64 0)
  replace Tq := Tq.other (k' := w.heap.size + 1) (by omega) 3 (.int .i64 0)
  replace Ta := Ta.other (k' := w.heap.size + 1) (by omega) 3 (.int .i64 0)
  replace Fo := Fo.set ⟨w.heap.size + 1, 3, none⟩ (.int .i64 0)
  replace Fq := Fq.set ⟨w.heap.size + 1, 3, none⟩ (.int .i64 0)
  replace BB := BB.setCell (p := ⟨w.heap.size + 1, 3, none⟩) (by first | exact Nat.le_refl _ | (simp only; omega)) (.int .i64 0)
  replace To := To.set 4 (.int .i64 0) (by simp)
  replace Tj := Tj.other (k' := w.heap.size + 1) (by omega) 4 (.int .i64 0)
  replace Tq := Tq.other (k' := w.heap.size + 1) (by omega) 4 (.int .i64 0)
  replace Ta := Ta.other (k' := w.heap.size + 1) (by omega) 4 (.int .i64 0)
  replace Fo := Fo.set ⟨w.heap.size + 1, 4, none⟩ (.int .i64 0)
  replace Fq := Fq.set ⟨w.heap.size + 1, 4, none⟩ (.int .i64 0)
  replace BB := BB.setCell (p := ⟨w.heap.size + 1, 4, none⟩) (by first | exact Nat.le_refl _ | (simp only; omega)) (.int .i64 0)
  obtain ⟨V3, hV3⟩ : ∃ V3, ((((w2.setCell ⟨w.heap.size + 1, 0, none⟩ (.int .i64 0)).setCell ⟨w.heap.size + 1, 1, none⟩ (.int .i64 0)).setCell ⟨w.heap.size + 1, 2, none⟩ (.int .i64 0)).setCell ⟨w.heap.size + 1, 3, none⟩ (.int .i64 0)).setCell ⟨w.heap.size + 1, 4, none⟩ (.int .i64 0) = V3 := ⟨_, rfl⟩
  rw [hV3] at BB Tj To Tq Ta Fo Fq ⊢
  clear hV3
  replace Tq := Tq.set 0 (.int .i64 0) (by simp)
  replace Tj := Tj.other (k' := w.heap.size + 2) (by omega) 0 (.int .i64 0)
  replace To := To.other (k' := w.heap.size + 2) (by omega) 0 (.int .i64 0)
  replace Ta := Ta.other (k' := w.heap.size + 2) (by omega) 0 (.int .i64 0)
  replace Fo := Fo.set ⟨w.heap.size + 2, 0, none⟩ (.int .i64 0)
  replace Fq := Fq.set ⟨w.heap.size + 2, 0, none⟩ (.int .i64 0)
  replace BB := BB.setCell (p := ⟨w.heap.size + 2, 0, none⟩) (by first | exact Nat.le_refl _ | (simp only; omega)) (.int .i64 0)
  replace Tq := Tq.set 1 (.int .i64 0) (by simp)
  replace Tj := Tj.other (k' := w.heap.size + 2) (by omega) 1 (.int .i64 0)
  replace To := To.other (k' := w.heap.size + 2) (by omega) 1 (.int .i64 0)
  replace Ta := Ta.other (k' := w.heap.size + 2) (by omega) 1 (.int .i64 0)
  replace Fo := Fo.set ⟨w.heap.size + 2, 1, none⟩ (.int .i64 0)
  replace Fq := Fq.set ⟨w.heap.size + 2, 1, none⟩ (.int .i64 0)
  replace BB := BB.setCell (p := ⟨w.heap.size + 2, 1, none⟩) (by first | exact Nat.le_refl _ | (simp only; omega)) (.int .i64 0)
  replace Tq := Tq.set 2 (.int .i64 0) (by simp)
  replace Tj := Tj.other (k' := w.heap.size + 2) (by omega) 2 (.int .i64 0)
  replace To := To.other (k' := w.heap.size + 2) (by omega) 2 (.int .i64 0)
  replace Ta := Ta.other (k' := w.heap.size + 2) (by omega) 2 (.int .i64 0)
  replace Fo := Fo.set ⟨w.heap.size + 2, 2, none⟩ (.int .i64 0)
  replace Fq := Fq.set ⟨w.heap.size + 2, 2, none⟩ (.int .i64 0)
  replace BB := BB.setCell (p := ⟨w.heap.size + 2, 2, none⟩) (by first | exact Nat.le_refl _ | (simp only; omega)) (.int .i64 0)
  replace Tq := Tq.set 3 (.int .i64 0) (by simp)
  replace Tj := Tj.other (k' := w.heap.size + 2) (by omega) 3 (.int .i64 0)
  replace To := To.other (k' := w.heap.size + 2) (by omega) 3 (.int .i64 0)
  replace Ta := Ta.other (k' := w.heap.size + 2) (by omega) 3 (.int .i64 0)
  replace Fo := Fo.set ⟨w.heap.size + 2, 3, none⟩ (.int .i64 0)
  replace Fq := Fq.set ⟨w.heap.size + 2, 3, none⟩ (.int .i64 0)
  replace BB := BB.setCell (p := ⟨w.heap.size + 2, 3, none⟩) (by first | exact Nat.le_refl _ | (simp only; omega)) (.int .i64 0)
  replace Tq := Tq.set 4 (.int .i64 0) (by simp)
  replace Tj := Tj.other (k' := w.heap.size + 2) (by omega) 4 (.int .i64 0)
  replace To := To.other (k' := w.heap.size + 2) (by omega) 4 (.int .i64 0)
  replace Ta := Ta.other (k' := w.heap.size + 2) (by omega) 4 (.int .i64 0)
  replace Fo := Fo.set ⟨w.heap.size + 2, 4, none⟩ (.int .i64 0)
  replace Fq := Fq.set ⟨w.heap.size + 2, 4, none⟩ (.int .i64 0)
  replace BB := BB.setCell (p := ⟨w.heap.size + 2, 4, none⟩) (by first | exact Nat.le_refl _ | (simp only; omega)) (.int .i64 0)
  replace Tq := Tq.set 5 (.int .i64 0) (by simp)
  replace Tj := Tj.other (k' := w.heap.size + 2) (by omega) 5 (.int .i64 0)
  replace To := To.other (k' := w.heap.size + 2) (by omega) 5 (.int .i64 0)
  replace Ta := Ta.other (k' := w.heap.size + 2) (by omega) 5 (.int .i64 0)
  replace Fo := Fo.set ⟨w.heap.size + 2, 5, none⟩ (.int .i64 0)
  replace Fq := Fq.set ⟨w.heap.size + 2, 5, none⟩ (.int .i64 0)
  replace BB := BB.setCell (p := ⟨w.heap.size + 2, 5, none⟩) (by first | exact Nat.le_refl _ | (simp only; omega)) (.int .i64 0)
  replace Tq := Tq.set 6 (.int .i64 0) (by simp)
  replace Tj := Tj.other (k' := w.heap.size + 2) (by omega) 6 (.int .i64 0)
  replace To := To.other (k' := w.heap.size + 2) (by omega) 6 (.int .i64 0)
  replace Ta := Ta.other (k' := w.heap.size + 2) (by omega) 6 (.int .i64 0)
  replace Fo := Fo.set ⟨w.heap.size + 2, 6, none⟩ (.int .i64 0)
  replace Fq := Fq.set ⟨w.heap.size + 2, 6, none⟩ (.int .i64 0)
  replace BB := BB.setCell (p := ⟨w.heap.size + 2, 6, none⟩) (by first | exact Nat.le_refl _ | (simp only; omega)) (.int .i64 0)
  replace Tq := Tq.set 7 (.int .i64 0) (by simp)
  replace Tj := Tj.other (k' := w.heap.size + 2) (by omega) 7 (.int .i64 0)
  replace To := To.other (k' := w.heap.size + 2) (by omega) 7 (.int .i64 0)
  replace Ta := Ta.other (k' := w.heap.size + 2) (by omega) 7 (.int .i64 0)
  replace Fo := Fo.set ⟨w.heap.size + 2, 7, none⟩ (.int .i64 0)
  replace Fq := Fq.set ⟨w.heap.size + 2, 7, none⟩ (.int .i64 0)
  replace BB := BB.setCell (p := ⟨w.heap.size + 2, 7, none⟩) (by first | exact Nat.le_refl _ | (simp only; omega)) (.int .i64 0)
  obtain ⟨V4, hV4⟩ : ∃ V4, (((((((V3.setCell ⟨w.heap.size + 2, 0, none⟩ (.int .i64 0)).setCell ⟨w.heap.size + 2, 1, none⟩ (.int .i64 0)).setCell ⟨w.heap.size + 2, 2, none⟩ (.int .i64 0)).setCell ⟨w.heap.size + 2, 3, none⟩ (.int .i64 0)).setCell ⟨w.heap.size + 2, 4, none⟩ (.int .i64 0)).setCell ⟨w.heap.size + 2, 5, none⟩ (.int .i64 0)).setCell ⟨w.heap.size + 2, 6, none⟩ (.int .i64 0)).setCell ⟨w.heap.size + 2, 7, none⟩ (.int .i64 0) = V4 := ⟨_, rfl⟩
  rw [hV4] at BB Tj To Tq Ta Fo Fq ⊢
  clear hV4
  have o0 := To 0 _ rfl
  have fo0 := Fo.1 0
  have o1 := To 1 _ rfl
  have fo1 := Fo.1 1
  have o2 := To 2 _ rfl
  have fo2 := Fo.1 2
  have o3 := To 3 _ rfl
  have fo3 := Fo.1 3
  have o4 := To 4 _ rfl
  have fo4 := Fo.1 4
  have q0 := Tq 0 _ rfl
  have fq0 := Fq.1 0
  have q1 := Tq 1 _ rfl
  have fq1 := Fq.1 1
  have q2 := Tq 2 _ rfl
  have fq2 := Fq.1 2
  have q3 := Tq 3 _ rfl
  have fq3 := Fq.1 3
  have q4 := Tq 4 _ rfl
  have fq4 := Fq.1 4
  have q5 := Tq 5 _ rfl
  have fq5 := Fq.1 5
  have q6 := Tq 6 _ rfl
  have fq6 := Fq.1 6
  have q7 := Tq 7 _ rfl
  have fq7 := Fq.1 7
  refine bodyPost_ret (v := .tuple #[zJn.v, zWd.v, .int .i64 1]) (by simp [results, Tryd.results22, go_sem, o0, o1, o2, o3, o4, q0, q1, q2, q3, q4, q5, q6, q7]) rfl ⟨rfl, BB⟩
set_option maxRecDepth 100000 in
set_option maxHeartbeats 4000000 in
theorem ask_r1 (t m b s f : Int) (w : World) (h0 : triesB t = true) (h1 : nodeB m = false) :
    Calls Tryd.prog 22 #[(⟨0, -1, 0, 0, t⟩ : Jn).v, .int .i64 m, .int .i64 b, .int .i64 s, .int .i64 f] w (Ans (.tuple #[zJn.v, zWd.v, .int .i64 1]) w) := by
  have H0 := Lib.hid h0; clear h0
  have H1 := Lib.hid h1; clear h1
  go_enter Tryd.func22, Tryd.ntmps22
  go_wp2_with fail
  have Tj := CAt.new (w) [.int .i64 0, .int .i64 (-1), .int .i64 0, .int .i64 0, .int .i64 t] 28
  have BB : Below w.heap.size w ((w).alloc (.cells #[.int .i64 0, .int .i64 (-1), .int .i64 0, .int .i64 0, .int .i64 t] 28)) := ball (Below.refl _ _) _
  have To := CAt.new (w.alloc (.cells #[.int .i64 0, .int .i64 (-1), .int .i64 0, .int .i64 0, .int .i64 t] 28)) [.int .i64 0, .int .i64 0, .int .i64 0, .int .i64 0, .int .i64 0] 28
  have Fo := Fz.new (w.alloc (.cells #[.int .i64 0, .int .i64 (-1), .int .i64 0, .int .i64 0, .int .i64 t] 28)) #[.int .i64 0, .int .i64 0, .int .i64 0, .int .i64 0, .int .i64 0] 28
  replace Tj := Tj.alloc (.cells #[.int .i64 0, .int .i64 0, .int .i64 0, .int .i64 0, .int .i64 0] 28)
  replace BB := ball BB (.cells #[.int .i64 0, .int .i64 0, .int .i64 0, .int .i64 0, .int .i64 0] 28)
  have Tq := CAt.new ((w.alloc (.cells #[.int .i64 0, .int .i64 (-1), .int .i64 0, .int .i64 0, .int .i64 t] 28)).alloc (.cells #[.int .i64 0, .int .i64 0, .int .i64 0, .int .i64 0, .int .i64 0] 28)) [.int .i64 0, .int .i64 0, .int .i64 0, .int .i64 0, .int .i64 0, .int .i64 0, .int .i64 0, .int .i64 0] 43
  have Fq := Fz.new ((w.alloc (.cells #[.int .i64 0, .int .i64 (-1), .int .i64 0, .int .i64 0, .int .i64 t] 28)).alloc (.cells #[.int .i64 0, .int .i64 0, .int .i64 0, .int .i64 0, .int .i64 0] 28)) #[.int .i64 0, .int .i64 0, .int .i64 0, .int .i64 0, .int .i64 0, .int .i64 0, .int .i64 0, .int .i64 0] 43
  replace Tj := Tj.alloc (.cells #[.int .i64 0, .int .i64 0, .int .i64 0, .int .i64 0, .int .i64 0, .int .i64 0, .int .i64 0, .int .i64 0] 43)
  replace To := To.alloc (.cells #[.int .i64 0, .int .i64 0, .int .i64 0, .int .i64 0, .int .i64 0, .int .i64 0, .int .i64 0, .int .i64 0] 43)
  replace Fo := Fo.alloc (.cells #[.int .i64 0, .int .i64 0, .int .i64 0, .int .i64 0, .int .i64 0, .int .i64 0, .int .i64 0, .int .i64 0] 43)
  replace BB := ball BB (.cells #[.int .i64 0, .int .i64 0, .int .i64 0, .int .i64 0, .int .i64 0, .int .i64 0, .int .i64 0, .int .i64 0] 43)
  have Ta := CAt.new (((w.alloc (.cells #[.int .i64 0, .int .i64 (-1), .int .i64 0, .int .i64 0, .int .i64 t] 28)).alloc (.cells #[.int .i64 0, .int .i64 0, .int .i64 0, .int .i64 0, .int .i64 0] 28)).alloc (.cells #[.int .i64 0, .int .i64 0, .int .i64 0, .int .i64 0, .int .i64 0, .int .i64 0, .int .i64 0, .int .i64 0] 43)) [.int .i64 0, .int .i64 (-1), .int .i64 0, .int .i64 0, .int .i64 t] 97
  replace Tj := Tj.alloc (.cells #[.int .i64 0, .int .i64 (-1), .int .i64 0, .int .i64 0, .int .i64 t] 97)
  replace To := To.alloc (.cells #[.int .i64 0, .int .i64 (-1), .int .i64 0, .int .i64 0, .int .i64 t] 97)
  replace Tq := Tq.alloc (.cells #[.int .i64 0, .int .i64 (-1), .int .i64 0, .int .i64 0, .int .i64 t] 97)
  replace Fo := Fo.alloc (.cells #[.int .i64 0, .int .i64 (-1), .int .i64 0, .int .i64 0, .int .i64 t] 97)
  replace Fq := Fq.alloc (.cells #[.int .i64 0, .int .i64 (-1), .int .i64 0, .int .i64 0, .int .i64 t] 97)
  replace BB := ball BB (.cells #[.int .i64 0, .int .i64 (-1), .int .i64 0, .int .i64 0, .int .i64 t] 97)
  simp only [World.size_alloc, Nat.add_assoc, Nat.reduceAdd] at To Fo Tq Fq Ta
  obtain ⟨V1, hV1⟩ : ∃ V1, (((w.alloc (.cells #[.int .i64 0, .int .i64 (-1), .int .i64 0, .int .i64 0, .int .i64 t] 28)).alloc (.cells #[.int .i64 0, .int .i64 0, .int .i64 0, .int .i64 0, .int .i64 0] 28)).alloc (.cells #[.int .i64 0, .int .i64 0, .int .i64 0, .int .i64 0, .int .i64 0, .int .i64 0, .int .i64 0, .int .i64 0] 43)).alloc (.cells #[.int .i64 0, .int .i64 (-1), .int .i64 0, .int .i64 0, .int .i64 t] 97) = V1 := ⟨_, rfl⟩
  rw [hV1] at BB Tj To Tq Ta Fo Fq ⊢
  clear hV1
  have a0 := Ta 0 _ rfl
  have a1 := Ta 1 _ rfl
  have a2 := Ta 2 _ rfl
  have a3 := Ta 3 _ rfl
  have a4 := Ta 4 _ rfl
  simp only [Nat.add_assoc, Nat.reduceAdd]
  go_wp2_with fail
  refine (jvalid_at ⟨0, -1, 0, 0, t⟩ _ true V1 (fresh_ok t) H0.out Ta).mono ?_
  clear a0 a1 a2 a3 a4
  rintro e w2 ⟨rfl, b2⟩
  replace Tj := Tj.keep b2
  replace To := To.keep b2
  replace Tq := Tq.keep b2
  replace Ta := Ta.keep b2
  replace Fo := Fo.keep b2
  replace Fq := Fq.keep b2
  replace BB := bstep BB b2
  clear b2
  have a0 := Ta 0 _ rfl
  have a1 := Ta 1 _ rfl
  have a2 := Ta 2 _ rfl
  have a3 := Ta 3 _ rfl
  have a4 := Ta 4 _ rfl
  have o0 := To 0 _ rfl
  have fo0 := Fo.1 0
  have o1 := To 1 _ rfl
  have fo1 := Fo.1 1
  have o2 := To 2 _ rfl
  have fo2 := Fo.1 2
  have o3 := To 3 _ rfl
  have fo3 := Fo.1 3
  have o4 := To 4 _ rfl
  have fo4 := Fo.1 4
  have q0 := Tq 0 _ rfl
  have fq0 := Fq.1 0
  have q1 := Tq 1 _ rfl
  have fq1 := Fq.1 1
  have q2 := Tq 2 _ rfl
  have fq2 := Fq.1 2
  have q3 := Tq 3 _ rfl
  have fq3 := Fq.1 3
  have q4 := Tq 4 _ rfl
  have fq4 := Fq.1 4
  have q5 := Tq 5 _ rfl
  have fq5 := Fq.1 5
  have q6 := Tq 6 _ rfl
  have fq6 := Fq.1 6
  have q7 := Tq 7 _ rfl
  have fq7 := Fq.1 7
  go_wp2_with fail
  refine (node_at m false _ H1.out).mono ?_
  rintro e w' ⟨rfl, rfl⟩
  go_wp2_with fail
  clear a0 a1 a2 a3 a4 o0 fo0 o1 fo1 o2 fo2 o3 fo3 o4 fo4 q0 fq0 q1 fq1 q2 fq2 q3 fq3 q4 fq4 q5 fq5 q6 fq6 q7 fq7
  replace To := To.set 0 (.int .i64 0) (by simp)
  replace Tj := Tj.other (k' := w.heap.size + 1) (by omega) 0 (.int .i64 0)
  replace Tq := Tq.other (k' := w.heap.size + 1) (by omega) 0 (.int .i64 0)
  replace Ta := Ta.other (k' := w.heap.size + 1) (by omega) 0 (.int .i64 0)
  replace Fo := Fo.set ⟨w.heap.size + 1, 0, none⟩ (.int .i64 0)
  replace Fq := Fq.set ⟨w.heap.size + 1, 0, none⟩ (.int .i64 0)
  replace BB := BB.setCell (p := ⟨w.heap.size + 1, 0, none⟩) (by first | exact Nat.le_refl _ | (simp only; omega)) (.int .i64 0)
  replace To := To.set 1 (.int .i64 0) (by simp)
  replace Tj := Tj.other (k' := w.heap.size + 1) (by omega) 1 (.int .i64 0)
  replace Tq := Tq.other (k' := w.heap.size + 1) (by omega) 1 (.int .i64 0)
  replace Ta := Ta.other (k' := w.heap.size + 1) (by omega) 1 (.int .i64 0)
  replace Fo := Fo.set ⟨w.heap.size + 1, 1, none⟩ (.int .i64 0)
  replace Fq := Fq.set ⟨w.heap.size + 1, 1, none⟩ (.int .i64 0)
  replace BB := BB.setCell (p := ⟨w.heap.size + 1, 1, none⟩) (by first | exact Nat.le_refl _ | (simp only; omega)) (.int .i64 0)
  replace To := To.set 2 (.int .i64 0) (by simp)
  replace Tj := Tj.other (k' := w.heap.size + 1) (by omega) 2 (.int .i64 0)
  replace Tq := Tq.other (k' := w.heap.size + 1) (by omega) 2 (.int .i64 0)
  replace Ta := Ta.other (k' := w.heap.size + 1) (by omega) 2 (.int .i64 0)
  replace Fo := Fo.set ⟨w.heap.size + 1, 2, none⟩ (.int .i64 0)
  replace Fq := Fq.set ⟨w.heap.size + 1, 2, none⟩ (.int .i64 0)
  replace BB := BB.setCell (p := ⟨w.heap.size + 1, 2, none⟩) (by first | exact Nat.le_refl _ | (simp only; omega)) (.int .i64 0)
  replace To := To.set 3 (.int .i64 0) (by simp)
  replace Tj := Tj.other (k' := w.heap.size + 1) (by omega) 3 (.int .i64 0)
  replace Tq := Tq.other (k' := w.heap.size + 1) (by omega) 3 (.int .i64 0)
  replace Ta := Ta.other (k' := w.heap.size + 1) (by omega) 3 (.int .i64 0)
  replace Fo := Fo.set ⟨w.heap.size + 1, 3, none⟩ (.int .i64 0)
  replace Fq := Fq.set ⟨w.heap.size + 1, 3, none⟩ (.int .i64 0)
  replace BB := BB.setCell (p := ⟨w.heap.size + 1, 3, none⟩) (by first | exact Nat.le_refl _ | (simp only; omega)) (.int .i64 0)
  replace To := To.set 4 (.int .i64 0) (by simp)
  replace Tj := Tj.other (k' := w.heap.size + 1) (by omega) 4 (.int .i64 0)
  replace Tq := Tq.other (k' := w.heap.size + 1) (by omega) 4 (.int .i64 0)
  replace Ta := Ta.other (k' := w.heap.size + 1) (by omega) 4 (.int .i64 0)
  replace Fo := Fo.set ⟨w.heap.size + 1, 4, none⟩ (.int .i64 0)
  replace Fq := Fq.set ⟨w.heap.size + 1, 4, none⟩ (.int .i64 0)
  replace BB := BB.setCell (p := ⟨w.heap.size + 1, 4, none⟩) (by first | exact Nat.le_refl _ | (simp only; omega)) (.int .i64 0)
  obtain ⟨V3, hV3⟩ : ∃ V3, ((((w2.setCell ⟨w.heap.size + 1, 0, none⟩ (.int .i64 0)).setCell ⟨w.heap.size + 1, 1, none⟩ (.int .i64 0)).setCell ⟨w.heap.size + 1, 2, none⟩ (.int .i64 0)).setCell ⟨w.heap.size + 1, 3, none⟩ (.int .i64 0)).setCell ⟨w.heap.size + 1, 4, none⟩ (.int .i64 0) = V3 := ⟨_, rfl⟩
  rw [hV3] at BB Tj To Tq Ta Fo Fq ⊢
  clear hV3
  replace Tq := Tq.set 0 (.int .i64 0) (by simp)
  replace Tj := Tj.other (k' := w.heap.size + 2) (by omega) 0 (.int .i64 0)
  replace To := To.other (k' := w.heap.size + 2) (by omega) 0 (.int .i64 0)
  replace Ta := Ta.other (k' := w.heap.size + 2) (by omega) 0 (.int .i64 0)
  replace Fo := Fo.set ⟨w.heap.size + 2, 0, none⟩ (.int .i64 0)
  replace Fq := Fq.set ⟨w.heap.size + 2, 0, none⟩ (.int .i64 0)
  replace BB := BB.setCell (p := ⟨w.heap.size + 2, 0, none⟩) (by first | exact Nat.le_refl _ | (simp only; omega)) (.int .i64 0)
  replace Tq := Tq.set 1 (.int .i64 0) (by simp)
  replace Tj := Tj.other (k' := w.heap.size + 2) (by omega) 1 (.int .i64 0)
  replace To := To.other (k' := w.heap.size + 2) (by omega) 1 (.int .i64 0)
  replace Ta := Ta.other (k' := w.heap.size + 2) (by omega) 1 (.int .i64 0)
  replace Fo := Fo.set ⟨w.heap.size + 2, 1, none⟩ (.int .i64 0)
  replace Fq := Fq.set ⟨w.heap.size + 2, 1, none⟩ (.int .i64 0)
  replace BB := BB.setCell (p := ⟨w.heap.size + 2, 1, none⟩) (by first | exact Nat.le_refl _ | (simp only; omega)) (.int .i64 0)
  replace Tq := Tq.set 2 (.int .i64 0) (by simp)
  replace Tj := Tj.other (k' := w.heap.size + 2) (by omega) 2 (.int .i64 0)
  replace To := To.other (k' := w.heap.size + 2) (by omega) 2 (.int .i64 0)
  replace Ta := Ta.other (k' := w.heap.size + 2) (by omega) 2 (.int .i64 0)
  replace Fo := Fo.set ⟨w.heap.size + 2, 2, none⟩ (.int .i64 0)
  replace Fq := Fq.set ⟨w.heap.size + 2, 2, none⟩ (.int .i64 0)
  replace BB := BB.setCell (p := ⟨w.heap.size + 2, 2, none⟩) (by first | exact Nat.le_refl _ | (simp only; omega)) (.int .i64 0)
  replace Tq := Tq.set 3 (.int .i64 0) (by simp)
  replace Tj := Tj.other (k' := w.heap.size + 2) (by omega) 3 (.int .i64 0)
  replace To := To.other (k' := w.heap.size + 2) (by omega) 3 (.int .i64 0)
  replace Ta := Ta.other (k' := w.heap.size + 2) (by omega) 3 (.int .i64 0)
  replace Fo := Fo.set ⟨w.heap.size + 2, 3, none⟩ (.int .i64 0)
  replace Fq := Fq.set ⟨w.heap.size + 2, 3, none⟩ (.int .i64 0)
  replace BB := BB.setCell (p := ⟨w.heap.size + 2, 3, none⟩) (by first | exact Nat.le_refl _ | (simp only; omega)) (.int .i64 0)
  replace Tq := Tq.set 4 (.int .i64 0) (by simp)
  replace Tj := Tj.other (k' := w.heap.size + 2) (by omega) 4 (.int .i64 0)
  replace To := To.other (k' := w.heap.size + 2) (by omega) 4 (.int .i64 0)
  replace Ta := Ta.other (k' := w.heap.size + 2) (by omega) 4 (.int .i64 0)
  replace Fo := Fo.set ⟨w.heap.size + 2, 4, none⟩ (.int .i64 0)
  replace Fq := Fq.set ⟨w.heap.size + 2, 4, none⟩ (.int .i64 0)
  replace BB := BB.setCell (p := ⟨w.heap.size + 2, 4, none⟩) (by first | exact Nat.le_refl _ | (simp only; omega)) (.int .i64 0)
  replace Tq := Tq.set 5 (.int .i64 0) (by simp)
  replace Tj := Tj.other (k' := w.heap.size + 2) (by omega) 5 (.int .i64 0)
  replace To := To.other (k' := w.heap.size + 2) (by omega) 5 (.int .i64 0)
  replace Ta := Ta.other (k' := w.heap.size + 2) (by omega) 5 (.int .i64 0)
  replace Fo := Fo.set ⟨w.heap.size + 2, 5, none⟩ (.int .i64 0)
  replace Fq := Fq.set ⟨w.heap.size + 2, 5, none⟩ (.int .i64 0)
  replace BB := BB.setCell (p := ⟨w.heap.size + 2, 5, none⟩) (by first | exact Nat.le_refl _ | (simp only; omega)) (.int .i64 0)
  replace Tq := Tq.set 6 (.int .i64 0) (by simp)
  replace Tj := Tj.other (k' := w.heap.size + 2) (by omega) 6 (.int .i64 0)
  replace To := To.other (k' := w.heap.size + 2) (by omega) 6 (.int .i64 0)
  replace Ta := Ta.other (k' := w.heap.size + 2) (by omega) 6 (.int .i64 0)
  replace Fo := Fo.set ⟨w.heap.size + 2, 6, none⟩ (.int .i64 0)
  replace Fq := Fq.set ⟨w.heap.size + 2, 6, none⟩ (.int .i64 0)
  replace BB := BB.setCell (p := ⟨w.heap.size + 2, 6, none⟩) (by first | exact Nat.le_refl _ | (simp only; omega)) (.int .i64 0)
  replace Tq := Tq.set 7 (.int .i64 0) (by simp)
  replace Tj := Tj.other (k' := w.heap.size + 2) (by omega) 7 (.int .i64 0)
  replace To := To.other (k' := w.heap.size + 2) (by omega) 7 (.int .i64 0)
  replace Ta := Ta.other (k' := w.heap.size + 2) (by omega) 7 (.int .i64 0)
  replace Fo := Fo.set ⟨w.heap.size + 2, 7, none⟩ (.int .i64 0)
  replace Fq := Fq.set ⟨w.heap.size + 2, 7, none⟩ (.int .i64 0)
  replace BB := BB.setCell (p := ⟨w.heap.size + 2, 7, none⟩) (by first | exact Nat.le_refl _ | (simp only; omega)) (.int .i64 0)
  obtain ⟨V4, hV4⟩ : ∃ V4, (((((((V3.setCell ⟨w.heap.size + 2, 0, none⟩ (.int .i64 0)).setCell ⟨w.heap.size + 2, 1, none⟩ (.int .i64 0)).setCell ⟨w.heap.size + 2, 2, none⟩ (.int .i64 0)).setCell ⟨w.heap.size + 2, 3, none⟩ (.int .i64 0)).setCell ⟨w.heap.size + 2, 4, none⟩ (.int .i64 0)).setCell ⟨w.heap.size + 2, 5, none⟩ (.int .i64 0)).setCell ⟨w.heap.size + 2, 6, none⟩ (.int .i64 0)).setCell ⟨w.heap.size + 2, 7, none⟩ (.int .i64 0) = V4 := ⟨_, rfl⟩
  rw [hV4] at BB Tj To Tq Ta Fo Fq ⊢
  clear hV4
  have o0 := To 0 _ rfl
  have fo0 := Fo.1 0
  have o1 := To 1 _ rfl
  have fo1 := Fo.1 1
  have o2 := To 2 _ rfl
  have fo2 := Fo.1 2
  have o3 := To 3 _ rfl
  have fo3 := Fo.1 3
  have o4 := To 4 _ rfl
  have fo4 := Fo.1 4
  have q0 := Tq 0 _ rfl
  have fq0 := Fq.1 0
  have q1 := Tq 1 _ rfl
  have fq1 := Fq.1 1
  have q2 := Tq 2 _ rfl
  have fq2 := Fq.1 2
  have q3 := Tq 3 _ rfl
  have fq3 := Fq.1 3
  have q4 := Tq 4 _ rfl
  have fq4 := Fq.1 4
  have q5 := Tq 5 _ rfl
  have fq5 := Fq.1 5
  have q6 := Tq 6 _ rfl
  have fq6 := Fq.1 6
  have q7 := Tq 7 _ rfl
  have fq7 := Fq.1 7
  refine bodyPost_ret (v := .tuple #[zJn.v, zWd.v, .int .i64 1]) (by simp [results, Tryd.results22, go_sem, o0, o1, o2, o3, o4, q0, q1, q2, q3, q4, q5, q6, q7]) rfl ⟨rfl, BB⟩
set_option maxRecDepth 100000 in
set_option maxHeartbeats 4000000 in
theorem ask_r2 (t m b s f : Int) (w : World) (h0 : triesB t = true) (h1 : nodeB m = true) (h2 : nodeB s = false) :
    Calls Tryd.prog 22 #[(⟨0, -1, 0, 0, t⟩ : Jn).v, .int .i64 m, .int .i64 b, .int .i64 s, .int .i64 f] w (Ans (.tuple #[zJn.v, zWd.v, .int .i64 1]) w) := by
  have H0 := Lib.hid h0; clear h0
  have H1 := Lib.hid h1; clear h1
  have H2 := Lib.hid h2; clear h2
  go_enter Tryd.func22, Tryd.ntmps22
  go_wp2_with fail
  have Tj := CAt.new (w) [.int .i64 0, .int .i64 (-1), .int .i64 0, .int .i64 0, .int .i64 t] 28
  have BB : Below w.heap.size w ((w).alloc (.cells #[.int .i64 0, .int .i64 (-1), .int .i64 0, .int .i64 0, .int .i64 t] 28)) := ball (Below.refl _ _) _
  have To := CAt.new (w.alloc (.cells #[.int .i64 0, .int .i64 (-1), .int .i64 0, .int .i64 0, .int .i64 t] 28)) [.int .i64 0, .int .i64 0, .int .i64 0, .int .i64 0, .int .i64 0] 28
  have Fo := Fz.new (w.alloc (.cells #[.int .i64 0, .int .i64 (-1), .int .i64 0, .int .i64 0, .int .i64 t] 28)) #[.int .i64 0, .int .i64 0, .int .i64 0, .int .i64 0, .int .i64 0] 28
  replace Tj := Tj.alloc (.cells #[.int .i64 0, .int .i64 0, .int .i64 0, .int .i64 0, .int .i64 0] 28)
  replace BB := ball BB (.cells #[.int .i64 0, .int .i64 0, .int .i64 0, .int .i64 0, .int .i64 0] 28)
  have Tq := CAt.new ((w.alloc (.cells #[.int .i64 0, .int .i64 (-1), .int .i64 0, .int .i64 0, .int .i64 t] 28)).alloc (.cells #[.int .i64 0, .int .i64 0, .int .i64 0, .int .i64 0, .int .i64 0] 28)) [.int .i64 0, .int .i64 0, .int .i64 0, .int .i64 0, .int .i64 0, .int .i64 0, .int .i64 0, .int .i64 0] 43
  have Fq := Fz.new ((w.alloc (.cells #[.int .i64 0, .int .i64 (-1), .int .i64 0, .int .i64 0, .int .i64 t] 28)).alloc (.cells #[.int .i64 0, .int .i64 0, .int .i64 0, .int .i64 0, .int .i64 0] 28)) #[.int .i64 0, .int .i64 0, .int .i64 0, .int .i64 0, .int .i64 0, .int .i64 0, .int .i64 0, .int .i64 0] 43
  replace Tj := Tj.alloc (.cells #[.int .i64 0, .int .i64 0, .int .i64 0, .int .i64 0, .int .i64 0, .int .i64 0, .int .i64 0, .int .i64 0] 43)
  replace To := To.alloc (.cells #[.int .i64 0, .int .i64 0, .int .i64 0, .int .i64 0, .int .i64 0, .int .i64 0, .int .i64 0, .int .i64 0] 43)
  replace Fo := Fo.alloc (.cells #[.int .i64 0, .int .i64 0, .int .i64 0, .int .i64 0, .int .i64 0, .int .i64 0, .int .i64 0, .int .i64 0] 43)
  replace BB := ball BB (.cells #[.int .i64 0, .int .i64 0, .int .i64 0, .int .i64 0, .int .i64 0, .int .i64 0, .int .i64 0, .int .i64 0] 43)
  have Ta := CAt.new (((w.alloc (.cells #[.int .i64 0, .int .i64 (-1), .int .i64 0, .int .i64 0, .int .i64 t] 28)).alloc (.cells #[.int .i64 0, .int .i64 0, .int .i64 0, .int .i64 0, .int .i64 0] 28)).alloc (.cells #[.int .i64 0, .int .i64 0, .int .i64 0, .int .i64 0, .int .i64 0, .int .i64 0, .int .i64 0, .int .i64 0] 43)) [.int .i64 0, .int .i64 (-1), .int .i64 0, .int .i64 0, .int .i64 t] 97
  replace Tj := Tj.alloc (.cells #[.int .i64 0, .int .i64 (-1), .int .i64 0, .int .i64 0, .int .i64 t] 97)
  replace To := To.alloc (.cells #[.int .i64 0, .int .i64 (-1), .int .i64 0, .int .i64 0, .int .i64 t] 97)
  replace Tq := Tq.alloc (.cells #[.int .i64 0, .int .i64 (-1), .int .i64 0, .int .i64 0, .int .i64 t] 97)
  replace Fo := Fo.alloc (.cells #[.int .i64 0, .int .i64 (-1), .int .i64 0, .int .i64 0, .int .i64 t] 97)
  replace Fq := Fq.alloc (.cells #[.int .i64 0, .int .i64 (-1), .int .i64 0, .int .i64 0, .int .i64 t] 97)
  replace BB := ball BB (.cells #[.int .i64 0, .int .i64 (-1), .int .i64 0, .int .i64 0, .int .i64 t] 97)
  simp only [World.size_alloc, Nat.add_assoc, Nat.reduceAdd] at To Fo Tq Fq Ta
  obtain ⟨V1, hV1⟩ : ∃ V1, (((w.alloc (.cells #[.int .i64 0, .int .i64 (-1), .int .i64 0, .int .i64 0, .int .i64 t] 28)).alloc (.cells #[.int .i64 0, .int .i64 0, .int .i64 0, .int .i64 0, .int .i64 0] 28)).alloc (.cells #[.int .i64 0, .int .i64 0, .int .i64 0, .int .i64 0, .int .i64 0, .int .i64 0, .int .i64 0, .int .i64 0] 43)).alloc (.cells #[.int .i64 0, .int .i64 (-1), .int .i64 0, .int .i64 0, .int .i64 t] 97) = V1 := ⟨_, rfl⟩
  rw [hV1] at BB Tj To Tq Ta Fo Fq ⊢
  clear hV1
  have a0 := Ta 0 _ rfl
  have a1 := Ta 1 _ rfl
  have a2 := Ta 2 _ rfl
  have a3 := Ta 3 _ rfl
  have a4 := Ta 4 _ rfl
  simp only [Nat.add_assoc, Nat.reduceAdd]
  go_wp2_with fail
  refine (jvalid_at ⟨0, -1, 0, 0, t⟩ _ true V1 (fresh_ok t) H0.out Ta).mono ?_
  clear a0 a1 a2 a3 a4
  rintro e w2 ⟨rfl, b2⟩
  replace Tj := Tj.keep b2
  replace To := To.keep b2
  replace Tq := Tq.keep b2
  replace Ta := Ta.keep b2
  replace Fo := Fo.keep b2
  replace Fq := Fq.keep b2
  replace BB := bstep BB b2
  clear b2
  have a0 := Ta 0 _ rfl
  have a1 := Ta 1 _ rfl
  have a2 := Ta 2 _ rfl
  have a3 := Ta 3 _ rfl
  have a4 := Ta 4 _ rfl
  have o0 := To 0 _ rfl
  have fo0 := Fo.1 0
  have o1 := To 1 _ rfl
  have fo1 := Fo.1 1
  have o2 := To 2 _ rfl
  have fo2 := Fo.1 2
  have o3 := To 3 _ rfl
  have fo3 := Fo.1 3
  have o4 := To 4 _ rfl
  have fo4 := Fo.1 4
  have q0 := Tq 0 _ rfl
  have fq0 := Fq.1 0
  have q1 := Tq 1 _ rfl
  have fq1 := Fq.1 1
  have q2 := Tq 2 _ rfl
  have fq2 := Fq.1 2
  have q3 := Tq 3 _ rfl
  have fq3 := Fq.1 3
  have q4 := Tq 4 _ rfl
  have fq4 := Fq.1 4
  have q5 := Tq 5 _ rfl
  have fq5 := Fq.1 5
  have q6 := Tq 6 _ rfl
  have fq6 := Fq.1 6
  have q7 := Tq 7 _ rfl
  have fq7 := Fq.1 7
  go_wp2_with fail
  refine (node_at m true _ H1.out).mono ?_
  rintro e w' ⟨rfl, rfl⟩
  go_wp2_with fail
  refine (node_at s false _ H2.out).mono ?_
  rintro e w' ⟨rfl, rfl⟩
  go_wp2_with fail
  clear a0 a1 a2 a3 a4 o0 fo0 o1 fo1 o2 fo2 o3 fo3 o4 fo4 q0 fq0 q1 fq1 q2 fq2 q3 fq3 q4 fq4 q5 fq5 q6 fq6 q7 fq7
  replace To := To.set 0 (.int .i64 0) (by simp)
  replace Tj := Tj.other (k' := w.heap.size + 1) (by omega) 0 (.int .i64 0)
  replace Tq := Tq.other (k' := w.heap.size + 1) (by omega) 0 (.int .i64 0)
  replace Ta := Ta.other (k' := w.heap.size + 1) (by omega) 0 (.int .i64 0)
  replace Fo := Fo.set ⟨w.heap.size + 1, 0, none⟩ (.int .i64 0)
  replace Fq := Fq.set ⟨w.heap.size + 1, 0, none⟩ (.int .i64 0)
  replace BB := BB.setCell (p := ⟨w.heap.size + 1, 0, none⟩) (by first | exact Nat.le_refl _ | (simp only; omega)) (.int .i64 0)
  replace To := To.set 1 (.int .i64 0) (by simp)
  replace Tj := Tj.other (k' := w.heap.size + 1) (by omega) 1 (.int .i64 0)
  replace Tq := Tq.other (k' := w.heap.size + 1) (by omega) 1 (.int .i64 0)
  replace Ta := Ta.other (k' := w.heap.size + 1) (by omega) 1 (.int .i64 0)
  replace Fo := Fo.set ⟨w.heap.size + 1, 1, none⟩ (.int .i64 0)
  replace Fq := Fq.set ⟨w.heap.size + 1, 1, none⟩ (.int .i64 0)
  replace BB := BB.setCell (p := ⟨w.heap.size + 1, 1, none⟩) (by first | exact Nat.le_refl _ | (simp only; omega)) (.int .i64 0)
  replace To := To.set 2 (.int .i64 0) (by simp)
  replace Tj := Tj.other (k' := w.heap.size + 1) (by omega) 2 (.int .i64 0)
  replace Tq := Tq.other (k' := w.heap.size + 1) (by omega) 2 (.int .i64 0)
  replace Ta := Ta.other (k' := w.heap.size + 1) (by omega) 2 (.int .i64 0)
  replace Fo := Fo.set ⟨w.heap.size + 1, 2, none⟩ (.int .i64 0)
  replace Fq := Fq.set ⟨w.heap.size + 1, 2, none⟩ (.int .i64 0)
  replace BB := BB.setCell (p := ⟨w.heap.size + 1, 2, none⟩) (by first | exact Nat.le_refl _ | (simp only; omega)) (.int .i64 0)
  replace To := To.set 3 (.int .i64 0) (by simp)
  replace Tj := Tj.other (k' := w.heap.size + 1) (by omega) 3 (.int .i64 0)
  replace Tq := Tq.other (k' := w.heap.size + 1) (by omega) 3 (.int .i64 0)
  replace Ta := Ta.other (k' := w.heap.size + 1) (by omega) 3 (.int .i64 0)
  replace Fo := Fo.set ⟨w.heap.size + 1, 3, none⟩ (.int .i64 0)
  replace Fq := Fq.set ⟨w.heap.size + 1, 3, none⟩ (.int .i64 0)
  replace BB := BB.setCell (p := ⟨w.heap.size + 1, 3, none⟩) (by first | exact Nat.le_refl _ | (simp only; omega)) (.int .i64 0)
  replace To := To.set 4 (.int .i64 0) (by simp)
  replace Tj := Tj.other (k' := w.heap.size + 1) (by omega) 4 (.int .i64 0)
  replace Tq := Tq.other (k' := w.heap.size + 1) (by omega) 4 (.int .i64 0)
  replace Ta := Ta.other (k' := w.heap.size + 1) (by omega) 4 (.int .i64 0)
  replace Fo := Fo.set ⟨w.heap.size + 1, 4, none⟩ (.int .i64 0)
  replace Fq := Fq.set ⟨w.heap.size + 1, 4, none⟩ (.int .i64 0)
  replace BB := BB.setCell (p := ⟨w.heap.size + 1, 4, none⟩) (by first | exact Nat.le_refl _ | (simp only; omega)) (.int .i64 0)
  obtain ⟨V3, hV3⟩ : ∃ V3, ((((w2.setCell ⟨w.heap.size + 1, 0, none⟩ (.int .i64 0)).setCell ⟨w.heap.size + 1, 1, none⟩ (.int .i64 0)).setCell ⟨w.heap.size + 1, 2, none⟩ (.int .i64 0)).setCell ⟨w.heap.size + 1, 3, none⟩ (.int .i64 0)).setCell ⟨w.heap.size + 1, 4, none⟩ (.int .i64 0) = V3 := ⟨_, rfl⟩
  rw [hV3] at BB Tj To Tq Ta Fo Fq ⊢
  clear hV3
  replace Tq := Tq.set 0 (.int .i64 0) (by simp)
  replace Tj := Tj.other (k' := w.heap.size + 2) (by omega) 0 (.int .i64 0)
  replace To := To.other (k' := w.heap.size + 2) (by omega) 0 (.int .i64 0)
  replace Ta := Ta.other (k' := w.heap.size + 2) (by omega) 0 (.int .i64 0)
  replace Fo := Fo.set ⟨w.heap.size + 2, 0, none⟩ (.int .i64 0)
  replace Fq := Fq.set ⟨w.heap.size + 2, 0, none⟩ (.int .i64 0)
  replace BB := BB.setCell (p := ⟨w.heap.size + 2, 0, none⟩) (by first | exact Nat.le_refl _ | (simp only; omega)) (.int .i64 0)
  replace Tq := Tq.set 1 (.int .i64 0) (by simp)
  replace Tj := Tj.other (k' := w.heap.size + 2) (by omega) 1 (.int .i64 0)
  replace To := To.other (k' := w.heap.size + 2) (by omega) 1 (.int .i64 0)
  replace Ta := Ta.other (k' := w.heap.size + 2) (by omega) 1 (.int .i64 0)
  replace Fo := Fo.set ⟨w.heap.size + 2, 1, none⟩ (.int .i64 0)
  replace Fq := Fq.set ⟨w.heap.size + 2, 1, none⟩ (.int .i64 0)
  replace BB := BB.setCell (p := ⟨w.heap.size + 2, 1, none⟩) (by first | exact Nat.le_refl _ | (simp only; omega)) (.int .i64 0)
  replace Tq := Tq.set 2 (.int .i64 0) (by simp)
  replace Tj := Tj.other (k' := w.heap.size + 2) (by omega) 2 (.int .i64 0)
  replace To := To.other (k' := w.heap.size + 2) (by omega) 2 (.int .i64 0)
  replace Ta := Ta.other (k' := w.heap.size + 2) (by omega) 2 (.int .i64 0)
  replace Fo := Fo.set ⟨w.heap.size + 2, 2, none⟩ (.int .i64 0)
  replace Fq := Fq.set ⟨w.heap.size + 2, 2, none⟩ (.int .i64 0)
  replace BB := BB.setCell (p := ⟨w.heap.size + 2, 2, none⟩) (by first | exact Nat.le_refl _ | (simp only; omega)) (.int .i64 0)
  replace Tq := Tq.set 3 (.int .i64 0) (by simp)
  replace Tj := Tj.other (k' := w.heap.size + 2) (by omega) 3 (.int .i64 0)
  replace To := To.other (k' := w.heap.size + 2) (by omega) 3 (.int .i64 0)
  replace Ta := Ta.other (k' := w.heap.size + 2) (by omega) 3 (.int .i64 0)
  replace Fo := Fo.set ⟨w.heap.size + 2, 3, none⟩ (.int .i64 0)
  replace Fq := Fq.set ⟨w.heap.size + 2, 3, none⟩ (.int .i64 0)
  replace BB := BB.setCell (p := ⟨w.heap.size + 2, 3, none⟩) (by first | exact Nat.le_refl _ | (simp only; omega)) (.int .i64 0)
  replace Tq := Tq.set 4 (.int .i64 0) (by simp)
  replace Tj := Tj.other (k' := w.heap.size + 2) (by omega) 4 (.int .i64 0)
  replace To := To.other (k' := w.heap.size + 2) (by omega) 4 (.int .i64 0)
  replace Ta := Ta.other (k' := w.heap.size + 2) (by omega) 4 (.int .i64 0)
  replace Fo := Fo.set ⟨w.heap.size + 2, 4, none⟩ (.int .i64 0)
  replace Fq := Fq.set ⟨w.heap.size + 2, 4, none⟩ (.int .i64 0)
  replace BB := BB.setCell (p := ⟨w.heap.size + 2, 4, none⟩) (by first | exact Nat.le_refl _ | (simp only; omega)) (.int .i64 0)
  replace Tq := Tq.set 5 (.int .i64 0) (by simp)
  replace Tj := Tj.other (k' := w.heap.size + 2) (by omega) 5 (.int .i64 0)
  replace To := To.other (k' := w.heap.size + 2) (by omega) 5 (.int .i64 0)
  replace Ta := Ta.other (k' := w.heap.size + 2) (by omega) 5 (.int .i64 0)
  replace Fo := Fo.set ⟨w.heap.size + 2, 5, none⟩ (.int .i64 0)
  replace Fq := Fq.set ⟨w.heap.size + 2, 5, none⟩ (.int .i64 0)
  replace BB := BB.setCell (p := ⟨w.heap.size + 2, 5, none⟩) (by first | exact Nat.le_refl _ | (simp only; omega)) (.int .i64 0)
  replace Tq := Tq.set 6 (.int .i64 0) (by simp)
  replace Tj := Tj.other (k' := w.heap.size + 2) (by omega) 6 (.int .i64 0)
  replace To := To.other (k' := w.heap.size + 2) (by omega) 6 (.int .i64 0)
  replace Ta := Ta.other (k' := w.heap.size + 2) (by omega) 6 (.int .i64 0)
  replace Fo := Fo.set ⟨w.heap.size + 2, 6, none⟩ (.int .i64 0)
  replace Fq := Fq.set ⟨w.heap.size + 2, 6, none⟩ (.int .i64 0)
  replace BB := BB.setCell (p := ⟨w.heap.size + 2, 6, none⟩) (by first | exact Nat.le_refl _ | (simp only; omega)) (.int .i64 0)
  replace Tq := Tq.set 7 (.int .i64 0) (by simp)
  replace Tj := Tj.other (k' := w.heap.size + 2) (by omega) 7 (.int .i64 0)
  replace To := To.other (k' := w.heap.size + 2) (by omega) 7 (.int .i64 0)
  replace Ta := Ta.other (k' := w.heap.size + 2) (by omega) 7 (.int .i64 0)
  replace Fo := Fo.set ⟨w.heap.size + 2, 7, none⟩ (.int .i64 0)
  replace Fq := Fq.set ⟨w.heap.size + 2, 7, none⟩ (.int .i64 0)
  replace BB := BB.setCell (p := ⟨w.heap.size + 2, 7, none⟩) (by first | exact Nat.le_refl _ | (simp only; omega)) (.int .i64 0)
  obtain ⟨V4, hV4⟩ : ∃ V4, (((((((V3.setCell ⟨w.heap.size + 2, 0, none⟩ (.int .i64 0)).setCell ⟨w.heap.size + 2, 1, none⟩ (.int .i64 0)).setCell ⟨w.heap.size + 2, 2, none⟩ (.int .i64 0)).setCell ⟨w.heap.size + 2, 3, none⟩ (.int .i64 0)).setCell ⟨w.heap.size + 2, 4, none⟩ (.int .i64 0)).setCell ⟨w.heap.size + 2, 5, none⟩ (.int .i64 0)).setCell ⟨w.heap.size + 2, 6, none⟩ (.int .i64 0)).setCell ⟨w.heap.size + 2, 7, none⟩ (.int .i64 0) = V4 := ⟨_, rfl⟩
  rw [hV4] at BB Tj To Tq Ta Fo Fq ⊢
  clear hV4
  have o0 := To 0 _ rfl
  have fo0 := Fo.1 0
  have o1 := To 1 _ rfl
  have fo1 := Fo.1 1
  have o2 := To 2 _ rfl
  have fo2 := Fo.1 2
  have o3 := To 3 _ rfl
  have fo3 := Fo.1 3
  have o4 := To 4 _ rfl
  have fo4 := Fo.1 4
  have q0 := Tq 0 _ rfl
  have fq0 := Fq.1 0
  have q1 := Tq 1 _ rfl
  have fq1 := Fq.1 1
  have q2 := Tq 2 _ rfl
  have fq2 := Fq.1 2
  have q3 := Tq 3 _ rfl
  have fq3 := Fq.1 3
  have q4 := Tq 4 _ rfl
  have fq4 := Fq.1 4
  have q5 := Tq 5 _ rfl
  have fq5 := Fq.1 5
  have q6 := Tq 6 _ rfl
  have fq6 := Fq.1 6
  have q7 := Tq 7 _ rfl
  have fq7 := Fq.1 7
  refine bodyPost_ret (v := .tuple #[zJn.v, zWd.v, .int .i64 1]) (by simp [results, Tryd.results22, go_sem, o0, o1, o2, o3, o4, q0, q1, q2, q3, q4, q5, q6, q7]) rfl ⟨rfl, BB⟩
set_option maxRecDepth 100000 in
set_option maxHeartbeats 4000000 in
theorem ask_r3 (t m b s f : Int) (w : World) (h0 : triesB t = true) (h1 : nodeB m = true) (h2 : nodeB s = true) (h3 : (m == s) = true) :
    Calls Tryd.prog 22 #[(⟨0, -1, 0, 0, t⟩ : Jn).v, .int .i64 m, .int .i64 b, .int .i64 s, .int .i64 f] w (Ans (.tuple #[zJn.v, zWd.v, .int .i64 1]) w) := by
  have H0 := Lib.hid h0; clear h0
  have H1 := Lib.hid h1; clear h1
  have H2 := Lib.hid h2; clear h2
  go_enter Tryd.func22, Tryd.ntmps22
  go_wp2_with fail
  have Tj := CAt.new (w) [.int .i64 0, .int .i64 (-1), .int .i64 0, .int .i64 0, .int .i64 t] 28
  have BB : Below w.heap.size w ((w).alloc (.cells #[.int .i64 0, .int .i64 (-1), .int .i64 0, .int .i64 0, .int .i64 t] 28)) := ball (Below.refl _ _) _
  have To := CAt.new (w.alloc (.cells #[.int .i64 0, .int .i64 (-1), .int .i64 0, .int .i64 0, .int .i64 t] 28)) [.int .i64 0, .int .i64 0, .int .i64 0, .int .i64 0, .int .i64 0] 28
  have Fo := Fz.new (w.alloc (.cells #[.int .i64 0, .int .i64 (-1), .int .i64 0, .int .i64 0, .int .i64 t] 28)) #[.int .i64 0, .int .i64 0, .int .i64 0, .int .i64 0, .int .i64 0] 28
  replace Tj := Tj.alloc (.cells #[.int .i64 0, .int .i64 0, .int .i64 0, .int .i64 0, .int .i64 0] 28)
  replace BB := ball BB (.cells #[.int .i64 0, .int .i64 0, .int .i64 0, .int .i64 0, .int .i64 0] 28)
  have Tq := CAt.new ((w.alloc (.cells #[.int .i64 0, .int .i64 (-1), .int .i64 0, .int .i64 0, .int .i64 t] 28)).alloc (.cells #[.int .i64 0, .int .i64 0, .int .i64 0, .int .i64 0, .int .i64 0] 28)) [.int .i64 0, .int .i64 0, .int .i64 0, .int .i64 0, .int .i64 0, .int .i64 0, .int .i64 0, .int .i64 0] 43
  have Fq := Fz.new ((w.alloc (.cells #[.int .i64 0, .int .i64 (-1), .int .i64 0, .int .i64 0, .int .i64 t] 28)).alloc (.cells #[.int .i64 0, .int .i64 0, .int .i64 0, .int .i64 0, .int .i64 0] 28)) #[.int .i64 0, .int .i64 0, .int .i64 0, .int .i64 0, .int .i64 0, .int .i64 0, .int .i64 0, .int .i64 0] 43
  replace Tj := Tj.alloc (.cells #[.int .i64 0, .int .i64 0, .int .i64 0, .int .i64 0, .int .i64 0, .int .i64 0, .int .i64 0, .int .i64 0] 43)
  replace To := To.alloc (.cells #[.int .i64 0, .int .i64 0, .int .i64 0, .int .i64 0, .int .i64 0, .int .i64 0, .int .i64 0, .int .i64 0] 43)
  replace Fo := Fo.alloc (.cells #[.int .i64 0, .int .i64 0, .int .i64 0, .int .i64 0, .int .i64 0, .int .i64 0, .int .i64 0, .int .i64 0] 43)
  replace BB := ball BB (.cells #[.int .i64 0, .int .i64 0, .int .i64 0, .int .i64 0, .int .i64 0, .int .i64 0, .int .i64 0, .int .i64 0] 43)
  have Ta := CAt.new (((w.alloc (.cells #[.int .i64 0, .int .i64 (-1), .int .i64 0, .int .i64 0, .int .i64 t] 28)).alloc (.cells #[.int .i64 0, .int .i64 0, .int .i64 0, .int .i64 0, .int .i64 0] 28)).alloc (.cells #[.int .i64 0, .int .i64 0, .int .i64 0, .int .i64 0, .int .i64 0, .int .i64 0, .int .i64 0, .int .i64 0] 43)) [.int .i64 0, .int .i64 (-1), .int .i64 0, .int .i64 0, .int .i64 t] 97
  replace Tj := Tj.alloc (.cells #[.int .i64 0, .int .i64 (-1), .int .i64 0, .int .i64 0, .int .i64 t] 97)
  replace To := To.alloc (.cells #[.int .i64 0, .int .i64 (-1), .int .i64 0, .int .i64 0, .int .i64 t] 97)
  replace Tq := Tq.alloc (.cells #[.int .i64 0, .int .i64 (-1), .int .i64 0, .int .i64 0, .int .i64 t] 97)
  replace Fo := Fo.alloc (.cells #[.int .i64 0, .int .i64 (-1), .int .i64 0, .int .i64 0, .int .i64 t] 97)
  replace Fq := Fq.alloc (.cells #[.int .i64 0, .int .i64 (-1), .int .i64 0, .int .i64 0, .int .i64 t] 97)
  replace BB := ball BB (.cells #[.int .i64 0, .int .i64 (-1), .int .i64 0, .int .i64 0, .int .i64 t] 97)
  simp only [World.size_alloc, Nat.add_assoc, Nat.reduceAdd] at To Fo Tq Fq Ta
  obtain ⟨V1, hV1⟩ : ∃ V1, (((w.alloc (.cells #[.int .i64 0, .int .i64 (-1), .int .i64 0, .int .i64 0, .int .i64 t] 28)).alloc (.cells #[.int .i64 0, .int .i64 0, .int .i64 0, .int .i64 0, .int .i64 0] 28)).alloc (.cells #[.int .i64 0, .int .i64 0, .int .i64 0, .int .i64 0, .int .i64 0, .int .i64 0, .int .i64 0, .int .i64 0] 43)).alloc (.cells #[.int .i64 0, .int .i64 (-1), .int .i64 0, .int .i64 0, .int .i64 t] 97) = V1 := ⟨_, rfl⟩
  rw [hV1] at BB Tj To Tq Ta Fo Fq ⊢
  clear hV1
  have a0 := Ta 0 _ rfl
  have a1 := Ta 1 _ rfl
  have a2 := Ta 2 _ rfl
  have a3 := Ta 3 _ rfl
  have a4 := Ta 4 _ rfl
  simp only [Nat.add_assoc, Nat.reduceAdd]
  go_wp2_with fail
  refine (jvalid_at ⟨0, -1, 0, 0, t⟩ _ true V1 (fresh_ok t) H0.out Ta).mono ?_
  clear a0 a1 a2 a3 a4
  rintro e w2 ⟨rfl, b2⟩
  replace Tj := Tj.keep b2
  replace To := To.keep b2
  replace Tq := Tq.keep b2
  replace Ta := Ta.keep b2
  replace Fo := Fo.keep b2
  replace Fq := Fq.keep b2
  replace BB := bstep BB b2
  clear b2
  have a0 := Ta 0 _ rfl
  have a1 := Ta 1 _ rfl
  have a2 := Ta 2 _ rfl
  have a3 := Ta 3 _ rfl
  have a4 := Ta 4 _ rfl
  have o0 := To 0 _ rfl
  have fo0 := Fo.1 0
  have o1 := To 1 _ rfl
  have fo1 := Fo.1 1
  have o2 := To 2 _ rfl
  have fo2 := Fo.1 2
  have o3 := To 3 _ rfl
  have fo3 := Fo.1 3
  have o4 := To 4 _ rfl
  have fo4 := Fo.1 4
  have q0 := Tq 0 _ rfl
  have fq0 := Fq.1 0
  have q1 := Tq 1 _ rfl
  have fq1 := Fq.1 1
  have q2 := Tq 2 _ rfl
  have fq2 := Fq.1 2
  have q3 := Tq 3 _ rfl
  have fq3 := Fq.1 3
  have q4 := Tq 4 _ rfl
  have fq4 := Fq.1 4
  have q5 := Tq 5 _ rfl
  have fq5 := Fq.1 5
  have q6 := Tq 6 _ rfl
  have fq6 := Fq.1 6
  have q7 := Tq 7 _ rfl
  have fq7 := Fq.1 7
  go_wp2_with fail
  refine (node_at m true _ H1.out).mono ?_
  rintro e w' ⟨rfl, rfl⟩
  go_wp2_with fail
  refine (node_at s true _ H2.out).mono ?_
  rintro e w' ⟨rfl, rfl⟩
  go_wp2_with fail
  clear a0 a1 a2 a3 a4 o0 fo0 o1 fo1 o2 fo2 o3 fo3 o4 fo4 q0 fq0 q1 fq1 q2 fq2 q3 fq3 q4 fq4 q5 fq5 q6 fq6 q7 fq7
  replace To := To.set 0 (.int .i64 0) (by simp)
  replace Tj := Tj.other (k' := w.heap.size + 1) (by omega) 0 (.int .i64 0)
  replace Tq := Tq.other (k' := w.heap.size + 1) (by omega) 0 (.int .i64 0)
  replace Ta := Ta.other (k' := w.heap.size + 1) (by omega) 0 (.int .i64 0)
  replace Fo := Fo.set ⟨w.heap.size + 1, 0, none⟩ (.int .i64 0)
  replace Fq := Fq.set ⟨w.heap.size + 1, 0, none⟩ (.int .i64 0)
  replace BB := BB.setCell (p := ⟨w.heap.size + 1, 0, none⟩) (by first | exact Nat.le_refl _ | (simp only; omega)) (.int .i64 0)
  replace To := To.set 1 (.int .i64 0) (by simp)
  replace Tj := Tj.other (k' := w.heap.size + 1) (by omega) 1 (.int .i64 0)
  replace Tq := Tq.other (k' := w.heap.size + 1) (by omega) 1 (.int .i64 0)
  replace Ta := Ta.other (k' := w.heap.size + 1) (by omega) 1 (.int .i64 0)
  replace Fo := Fo.set ⟨w.heap.size + 1, 1, none⟩ (.int .i64 0)
  replace Fq := Fq.set ⟨w.heap.size + 1, 1, none⟩ (.int .i64 0)
  replace BB := BB.setCell (p := ⟨w.heap.size + 1, 1, none⟩) (by first | exact Nat.le_refl _ | (simp only; omega)) (.int .i64 0)
  replace To := To.set 2 (.int .i64 0) (by simp)
  replace Tj := Tj.other (k' := w.heap.size + 1) (by omega) 2 (.int .i64 0)
  replace Tq := Tq.other (k' := w.heap.size + 1) (by omega) 2 (.int .i64 0)
  replace Ta := Ta.other (k' := w.heap.size + 1) (by omega) 2 (.int .i64 0)
  replace Fo := Fo.set ⟨w.heap.size + 1, 2, none⟩ (.int .i64 0)
  replace Fq := Fq.set ⟨w.heap.size + 1, 2, none⟩ (.int .i64 0)
  replace BB := BB.setCell (p := ⟨w.heap.size + 1, 2, none⟩) (by first | exact Nat.le_refl _ | (simp only; omega)) (.int .i64 0)
  replace To := To.set 3 (.int .i64 0) (by simp)
  replace Tj := Tj.other (k' := w.heap.size + 1) (by omega) 3 (.int .i64 0)
  replace Tq := Tq.other (k' := w.heap.size + 1) (by omega) 3 (.int .i64 0)
  replace Ta := Ta.other (k' := w.heap.size + 1) (by omega) 3 (.int .i64 0)
  replace Fo := Fo.set ⟨w.heap.size + 1, 3, none⟩ (.int .i64 0)
  replace Fq := Fq.set ⟨w.heap.size + 1, 3, none⟩ (.int .i64 0)
  replace BB := BB.setCell (p := ⟨w.heap.size + 1, 3, none⟩) (by first | exact Nat.le_refl _ | (simp only; omega)) (.int .i64 0)
  replace To := To.set 4 (.int .i64 0) (by simp)
  replace Tj := Tj.other (k' := w.heap.size + 1) (by omega) 4 (.int .i64 0)
  replace Tq := Tq.other (k' := w.heap.size + 1) (by omega) 4 (.int .i64 0)
  replace Ta := Ta.other (k' := w.heap.size + 1) (by omega) 4 (.int .i64 0)
  replace Fo := Fo.set ⟨w.heap.size + 1, 4, none⟩ (.int .i64 0)
  replace Fq := Fq.set ⟨w.heap.size + 1, 4, none⟩ (.int .i64 0)
  replace BB := BB.setCell (p := ⟨w.heap.size + 1, 4, none⟩) (by first | exact Nat.le_refl _ | (simp only; omega)) (.int .i64 0)
  obtain ⟨V3, hV3⟩ : ∃ V3, ((((w2.setCell ⟨w.heap.size + 1, 0, none⟩ (.int .i64 0)).setCell ⟨w.heap.size + 1, 1, none⟩ (.int .i64 0)).setCell ⟨w.heap.size + 1, 2, none⟩ (.int .i64 0)).setCell ⟨w.heap.size + 1, 3, none⟩ (.int .i64 0)).setCell ⟨w.heap.size + 1, 4, none⟩ (.int .i64 0) = V3 := ⟨_, rfl⟩
  rw [hV3] at BB Tj To Tq Ta Fo Fq ⊢
  clear hV3
  replace Tq := Tq.set 0 (.int .i64 0) (by simp)
  replace Tj := Tj.other (k' := w.heap.size + 2) (by omega) 0 (.int .i64 0)
  replace To := To.other (k' := w.heap.size + 2) (by omega) 0 (.int .i64 0)
  replace Ta := Ta.other (k' := w.heap.size + 2) (by omega) 0 (.int .i64 0)
  replace Fo := Fo.set ⟨w.heap.size + 2, 0, none⟩ (.int .i64 0)
  replace Fq := Fq.set ⟨w.heap.size + 2, 0, none⟩ (.int .i64 0)
  replace BB := BB.setCell (p := ⟨w.heap.size + 2, 0, none⟩) (by first | exact Nat.le_refl _ | (simp only; omega)) (.int .i64 0)
  replace Tq := Tq.set 1 (.int .i64 0) (by simp)
  replace Tj := Tj.other (k' := w.heap.size + 2) (by omega) 1 (.int .i64 0)
  replace To := To.other (k' := w.heap.size + 2) (by omega) 1 (.int .i64 0)
  replace Ta := Ta.other (k' := w.heap.size + 2) (by omega) 1 (.int .i64 0)
  replace Fo := Fo.set ⟨w.heap.size + 2, 1, none⟩ (.int .i64 0)
  replace Fq := Fq.set ⟨w.heap.size + 2, 1, none⟩ (.int .i64 0)
  replace BB := BB.setCell (p := ⟨w.heap.size + 2, 1, none⟩) (by first | exact Nat.le_refl _ | (simp only; omega)) (.int .i64 0)
  replace Tq := Tq.set 2 (.int .i64 0) (by simp)
  replace Tj := Tj.other (k' := w.heap.size + 2) (by omega) 2 (.int .i64 0)
  replace To := To.other (k' := w.heap.size + 2) (by omega) 2 (.int .i64 0)
  replace Ta := Ta.other (k' := w.heap.size + 2) (by omega) 2 (.int .i64 0)
  replace Fo := Fo.set ⟨w.heap.size + 2, 2, none⟩ (.int .i64 0)
  replace Fq := Fq.set ⟨w.heap.size + 2, 2, none⟩ (.int .i64 0)
  replace BB := BB.setCell (p := ⟨w.heap.size + 2, 2, none⟩) (by first | exact Nat.le_refl _ | (simp only; omega)) (.int .i64 0)
  replace Tq := Tq.set 3 (.int .i64 0) (by simp)
  replace Tj := Tj.other (k' := w.heap.size + 2) (by omega) 3 (.int .i64 0)
  replace To := To.other (k' := w.heap.size + 2) (by omega) 3 (.int .i64 0)
  replace Ta := Ta.other (k' := w.heap.size + 2) (by omega) 3 (.int .i64 0)
  replace Fo := Fo.set ⟨w.heap.size + 2, 3, none⟩ (.int .i64 0)
  replace Fq := Fq.set ⟨w.heap.size + 2, 3, none⟩ (.int .i64 0)
  replace BB := BB.setCell (p := ⟨w.heap.size + 2, 3, none⟩) (by first | exact Nat.le_refl _ | (simp only; omega)) (.int .i64 0)
  replace Tq := Tq.set 4 (.int .i64 0) (by simp)
  replace Tj := Tj.other (k' := w.heap.size + 2) (by omega) 4 (.int .i64 0)
  replace To := To.other (k' := w.heap.size + 2) (by omega) 4 (.int .i64 0)
  replace Ta := Ta.other (k' := w.heap.size + 2) (by omega) 4 (.int .i64 0)
  replace Fo := Fo.set ⟨w.heap.size + 2, 4, none⟩ (.int .i64 0)
  replace Fq := Fq.set ⟨w.heap.size + 2, 4, none⟩ (.int .i64 0)
  replace BB := BB.setCell (p := ⟨w.heap.size + 2, 4, none⟩) (by first | exact Nat.le_refl _ | (simp only; omega)) (.int .i64 0)
  replace Tq := Tq.set 5 (.int .i64 0) (by simp)
  replace Tj := Tj.other (k' := w.heap.size + 2) (by omega) 5 (.int .i64 0)
  replace To := To.other (k' := w.heap.size + 2) (by omega) 5 (.int .i64 0)
  replace Ta := Ta.other (k' := w.heap.size + 2) (by omega) 5 (.int .i64 0)
  replace Fo := Fo.set ⟨w.heap.size + 2, 5, none⟩ (.int .i64 0)
  replace Fq := Fq.set ⟨w.heap.size + 2, 5, none⟩ (.int .i64 0)
  replace BB := BB.setCell (p := ⟨w.heap.size + 2, 5, none⟩) (by first | exact Nat.le_refl _ | (simp only; omega)) (.int .i64 0)
  replace Tq := Tq.set 6 (.int .i64 0) (by simp)
  replace Tj := Tj.other (k' := w.heap.size + 2) (by omega) 6 (.int .i64 0)
  replace To := To.other (k' := w.heap.size + 2) (by omega) 6 (.int .i64 0)
  replace Ta := Ta.other (k' := w.heap.size + 2) (by omega) 6 (.int .i64 0)
  replace Fo := Fo.set ⟨w.heap.size + 2, 6, none⟩ (.int .i64 0)
  replace Fq := Fq.set ⟨w.heap.size + 2, 6, none⟩ (.int .i64 0)
  replace BB := BB.setCell (p := ⟨w.heap.size + 2, 6, none⟩) (by first | exact Nat.le_refl _ | (simp only; omega)) (.int .i64 0)
  replace Tq := Tq.set 7 (.int .i64 0) (by simp)
  replace Tj := Tj.other (k' := w.heap.size + 2) (by omega) 7 (.int .i64 0)
  replace To := To.other (k' := w.heap.size + 2) (by omega) 7 (.int .i64 0)
  replace Ta := Ta.other (k' := w.heap.size + 2) (by omega) 7 (.int .i64 0)
  replace Fo := Fo.set ⟨w.heap.size + 2, 7, none⟩ (.int .i64 0)
  replace Fq := Fq.set ⟨w.heap.size + 2, 7, none⟩ (.int .i64 0)
  replace BB := BB.setCell (p := ⟨w.heap.size + 2, 7, none⟩) (by first | exact Nat.le_refl _ | (simp only; omega)) (.int .i64 0)
  obtain ⟨V4, hV4⟩ : ∃ V4, (((((((V3.setCell ⟨w.heap.size + 2, 0, none⟩ (.int .i64 0)).setCell ⟨w.heap.size + 2, 1, none⟩ (.int .i64 0)).setCell ⟨w.heap.size + 2, 2, none⟩ (.int .i64 0)).setCell ⟨w.heap.size + 2, 3, none⟩ (.int .i64 0)).setCell ⟨w.heap.size + 2, 4, none⟩ (.int .i64 0)).setCell ⟨w.heap.size + 2, 5, none⟩ (.int .i64 0)).setCell ⟨w.heap.size + 2, 6, none⟩ (.int .i64 0)).setCell ⟨w.heap.size + 2, 7, none⟩ (.int .i64 0) = V4 := ⟨_, rfl⟩
  rw [hV4] at BB Tj To Tq Ta Fo Fq ⊢
  clear hV4
  have o0 := To 0 _ rfl
  have fo0 := Fo.1 0
  have o1 := To 1 _ rfl
  have fo1 := Fo.1 1
  have o2 := To 2 _ rfl
  have fo2 := Fo.1 2
  have o3 := To 3 _ rfl
  have fo3 := Fo.1 3
  have o4 := To 4 _ rfl
  have fo4 := Fo.1 4
  have q0 := Tq 0 _ rfl
  have fq0 := Fq.1 0
  have q1 := Tq 1 _ rfl
  have fq1 := Fq.1 1
  have q2 := Tq 2 _ rfl
  have fq2 := Fq.1 2
  have q3 := Tq 3 _ rfl
  have fq3 := Fq.1 3
  have q4 := Tq 4 _ rfl
  have fq4 := Fq.1 4
  have q5 := Tq 5 _ rfl
  have fq5 := Fq.1 5
  have q6 := Tq 6 _ rfl
  have fq6 := Fq.1 6
  have q7 := Tq 7 _ rfl
  have fq7 := Fq.1 7
  refine bodyPost_ret (v := .tuple #[zJn.v, zWd.v, .int .i64 1]) (by simp [results, Tryd.results22, go_sem, o0, o1, o2, o3, o4, q0, q1, q2, q3, q4, q5, q6, q7]) rfl ⟨rfl, BB⟩
set_option maxRecDepth 100000 in
set_option maxHeartbeats 4000000 in
theorem ask_r4 (t m b s f : Int) (w : World) (h0 : triesB t = true) (h1 : nodeB m = true) (h2 : nodeB s = true) (h3 : (m == s) = false) (h4 : b < 0) :
    Calls Tryd.prog 22 #[(⟨0, -1, 0, 0, t⟩ : Jn).v, .int .i64 m, .int .i64 b, .int .i64 s, .int .i64 f] w (Ans (.tuple #[zJn.v, zWd.v, .int .i64 1]) w) := by
  have H0 := Lib.hid h0; clear h0
  have H1 := Lib.hid h1; clear h1
  have H2 := Lib.hid h2; clear h2
  go_enter Tryd.func22, Tryd.ntmps22
  go_wp2_with fail
  have Tj := CAt.new (w) [.int .i64 0, .int .i64 (-1), .int .i64 0, .int .i64 0, .int .i64 t] 28
  have BB : Below w.heap.size w ((w).alloc (.cells #[.int .i64 0, .int .i64 (-1), .int .i64 0, .int .i64 0, .int .i64 t] 28)) := ball (Below.refl _ _) _
  have To := CAt.new (w.alloc (.cells #[.int .i64 0, .int .i64 (-1), .int .i64 0, .int .i64 0, .int .i64 t] 28)) [.int .i64 0, .int .i64 0, .int .i64 0, .int .i64 0, .int .i64 0] 28
  have Fo := Fz.new (w.alloc (.cells #[.int .i64 0, .int .i64 (-1), .int .i64 0, .int .i64 0, .int .i64 t] 28)) #[.int .i64 0, .int .i64 0, .int .i64 0, .int .i64 0, .int .i64 0] 28
  replace Tj := Tj.alloc (.cells #[.int .i64 0, .int .i64 0, .int .i64 0, .int .i64 0, .int .i64 0] 28)
  replace BB := ball BB (.cells #[.int .i64 0, .int .i64 0, .int .i64 0, .int .i64 0, .int .i64 0] 28)
  have Tq := CAt.new ((w.alloc (.cells #[.int .i64 0, .int .i64 (-1), .int .i64 0, .int .i64 0, .int .i64 t] 28)).alloc (.cells #[.int .i64 0, .int .i64 0, .int .i64 0, .int .i64 0, .int .i64 0] 28)) [.int .i64 0, .int .i64 0, .int .i64 0, .int .i64 0, .int .i64 0, .int .i64 0, .int .i64 0, .int .i64 0] 43
  have Fq := Fz.new ((w.alloc (.cells #[.int .i64 0, .int .i64 (-1), .int .i64 0, .int .i64 0, .int .i64 t] 28)).alloc (.cells #[.int .i64 0, .int .i64 0, .int .i64 0, .int .i64 0, .int .i64 0] 28)) #[.int .i64 0, .int .i64 0, .int .i64 0, .int .i64 0, .int .i64 0, .int .i64 0, .int .i64 0, .int .i64 0] 43
  replace Tj := Tj.alloc (.cells #[.int .i64 0, .int .i64 0, .int .i64 0, .int .i64 0, .int .i64 0, .int .i64 0, .int .i64 0, .int .i64 0] 43)
  replace To := To.alloc (.cells #[.int .i64 0, .int .i64 0, .int .i64 0, .int .i64 0, .int .i64 0, .int .i64 0, .int .i64 0, .int .i64 0] 43)
  replace Fo := Fo.alloc (.cells #[.int .i64 0, .int .i64 0, .int .i64 0, .int .i64 0, .int .i64 0, .int .i64 0, .int .i64 0, .int .i64 0] 43)
  replace BB := ball BB (.cells #[.int .i64 0, .int .i64 0, .int .i64 0, .int .i64 0, .int .i64 0, .int .i64 0, .int .i64 0, .int .i64 0] 43)
  have Ta := CAt.new (((w.alloc (.cells #[.int .i64 0, .int .i64 (-1), .int .i64 0, .int .i64 0, .int .i64 t] 28)).alloc (.cells #[.int .i64 0, .int .i64 0, .int .i64 0, .int .i64 0, .int .i64 0] 28)).alloc (.cells #[.int .i64 0, .int .i64 0, .int .i64 0, .int .i64 0, .int .i64 0, .int .i64 0, .int .i64 0, .int .i64 0] 43)) [.int .i64 0, .int .i64 (-1), .int .i64 0, .int .i64 0, .int .i64 t] 97
  replace Tj := Tj.alloc (.cells #[.int .i64 0, .int .i64 (-1), .int .i64 0, .int .i64 0, .int .i64 t] 97)
  replace To := To.alloc (.cells #[.int .i64 0, .int .i64 (-1), .int .i64 0, .int .i64 0, .int .i64 t] 97)
  replace Tq := Tq.alloc (.cells #[.int .i64 0, .int .i64 (-1), .int .i64 0, .int .i64 0, .int .i64 t] 97)
  replace Fo := Fo.alloc (.cells #[.int .i64 0, .int .i64 (-1), .int .i64 0, .int .i64 0, .int .i64 t] 97)
  replace Fq := Fq.alloc (.cells #[.int .i64 0, .int .i64 (-1), .int .i64 0, .int .i64 0, .int .i64 t] 97)
  replace BB := ball BB (.cells #[.int .i64 0, .int .i64 (-1), .int .i64 0, .int .i64 0, .int .i64 t] 97)
  simp only [World.size_alloc, Nat.add_assoc, Nat.reduceAdd] at To Fo Tq Fq Ta
  obtain ⟨V1, hV1⟩ : ∃ V1, (((w.alloc (.cells #[.int .i64 0, .int .i64 (-1), .int .i64 0, .int .i64 0, .int .i64 t] 28)).alloc (.cells #[.int .i64 0, .int .i64 0, .int .i64 0, .int .i64 0, .int .i64 0] 28)).alloc (.cells #[.int .i64 0, .int .i64 0, .int .i64 0, .int .i64 0, .int .i64 0, .int .i64 0, .int .i64 0, .int .i64 0] 43)).alloc (.cells #[.int .i64 0, .int .i64 (-1), .int .i64 0, .int .i64 0, .int .i64 t] 97) = V1 := ⟨_, rfl⟩
  rw [hV1] at BB Tj To Tq Ta Fo Fq ⊢
  clear hV1
  have a0 := Ta 0 _ rfl
  have a1 := Ta 1 _ rfl
  have a2 := Ta 2 _ rfl
  have a3 := Ta 3 _ rfl
  have a4 := Ta 4 _ rfl
  simp only [Nat.add_assoc, Nat.reduceAdd]
  go_wp2_with fail
  refine (jvalid_at ⟨0, -1, 0, 0, t⟩ _ true V1 (fresh_ok t) H0.out Ta).mono ?_
  clear a0 a1 a2 a3 a4
  rintro e w2 ⟨rfl, b2⟩
  replace Tj := Tj.keep b2
  replace To := To.keep b2
  replace Tq := Tq.keep b2
  replace Ta := Ta.keep b2
  replace Fo := Fo.keep b2
  replace Fq := Fq.keep b2
  replace BB := bstep BB b2
  clear b2
  have a0 := Ta 0 _ rfl
  have a1 := Ta 1 _ rfl
  have a2 := Ta 2 _ rfl
  have a3 := Ta 3 _ rfl
  have a4 := Ta 4 _ rfl
  have o0 := To 0 _ rfl
  have fo0 := Fo.1 0
  have o1 := To 1 _ rfl
  have fo1 := Fo.1 1
  have o2 := To 2 _ rfl
  have fo2 := Fo.1 2
  have o3 := To 3 _ rfl
  have fo3 := Fo.1 3
  have o4 := To 4 _ rfl
  have fo4 := Fo.1 4
  have q0 := Tq 0 _ rfl
  have fq0 := Fq.1 0
  have q1 := Tq 1 _ rfl
  have fq1 := Fq.1 1
  have q2 := Tq 2 _ rfl
  have fq2 := Fq.1 2
  have q3 := Tq 3 _ rfl
  have fq3 := Fq.1 3
  have q4 := Tq 4 _ rfl
  have fq4 := Fq.1 4
  have q5 := Tq 5 _ rfl
  have fq5 := Fq.1 5
  have q6 := Tq 6 _ rfl
  have fq6 := Fq.1 6
  have q7 := Tq 7 _ rfl
  have fq7 := Fq.1 7
  go_wp2_with fail
  refine (node_at m true _ H1.out).mono ?_
  rintro e w' ⟨rfl, rfl⟩
  go_wp2_with fail
  refine (node_at s true _ H2.out).mono ?_
  rintro e w' ⟨rfl, rfl⟩
  go_wp2_with fail
  clear a0 a1 a2 a3 a4 o0 fo0 o1 fo1 o2 fo2 o3 fo3 o4 fo4 q0 fq0 q1 fq1 q2 fq2 q3 fq3 q4 fq4 q5 fq5 q6 fq6 q7 fq7
  replace To := To.set 0 (.int .i64 0) (by simp)
  replace Tj := Tj.other (k' := w.heap.size + 1) (by omega) 0 (.int .i64 0)
  replace Tq := Tq.other (k' := w.heap.size + 1) (by omega) 0 (.int .i64 0)
  replace Ta := Ta.other (k' := w.heap.size + 1) (by omega) 0 (.int .i64 0)
  replace Fo := Fo.set ⟨w.heap.size + 1, 0, none⟩ (.int .i64 0)
  replace Fq := Fq.set ⟨w.heap.size + 1, 0, none⟩ (.int .i64 0)
  replace BB := BB.setCell (p := ⟨w.heap.size + 1, 0, none⟩) (by first | exact Nat.le_refl _ | (simp only; omega)) (.int .i64 0)
  replace To := To.set 1 (.int .i64 0) (by simp)
  replace Tj := Tj.other (k' := w.heap.size + 1) (by omega) 1 (.int .i64 0)
  replace Tq := Tq.other (k' := w.heap.size + 1) (by omega) 1 (.int .i64 0)
  replace Ta := Ta.other (k' := w.heap.size + 1) (by omega) 1 (.int .i64 0)
  replace Fo := Fo.set ⟨w.heap.size + 1, 1, none⟩ (.int .i64 0)
  replace Fq := Fq.set ⟨w.heap.size + 1, 1, none⟩ (.int .i64 0)
  replace BB := BB.setCell (p := ⟨w.heap.size + 1, 1, none⟩) (by first | exact Nat.le_refl _ | (simp only; omega)) (.int .i64 0)
  replace To := To.set 2 (.int .i64 0) (by simp)
  replace Tj := Tj.other (k' := w.heap.size + 1) (by omega) 2 (.int .i64 0)
  replace Tq := Tq.other (k' := w.heap.size + 1) (by omega) 2 (.int .i64 0)
  replace Ta := Ta.other (k' := w.heap.size + 1) (by omega) 2 (.int .i64 0)
  replace Fo := Fo.set ⟨w.heap.size + 1, 2, none⟩ (.int .i64 0)
  replace Fq := Fq.set ⟨w.heap.size + 1, 2, none⟩ (.int .i64 0)
  replace BB := BB.setCell (p := ⟨w.heap.size + 1, 2, none⟩) (by first | exact Nat.le_refl _ | (simp only; omega)) (.int .i64 0)
  replace To := To.set 3 (.int .i64 0) (by simp)
  replace Tj := Tj.other (k' := w.heap.size + 1) (by omega) 3 (.int .i64 0)
  replace Tq := Tq.other (k' := w.heap.size + 1) (by omega) 3 (.int .i64 0)
  replace Ta := Ta.other (k' := w.heap.size + 1) (by omega) 3 (.int .i64 0)
  replace Fo := Fo.set ⟨w.heap.size + 1, 3, none⟩ (.int .i64 0)
  replace Fq := Fq.set ⟨w.heap.size + 1, 3, none⟩ (.int .i64 0)
  replace BB := BB.setCell (p := ⟨w.heap.size + 1, 3, none⟩) (by first | exact Nat.le_refl _ | (simp only; omega)) (.int .i64 0)
  replace To := To.set 4 (.int .i64 0) (by simp)
  replace Tj := Tj.other (k' := w.heap.size + 1) (by omega) 4 (.int .i64 0)
  replace Tq := Tq.other (k' := w.heap.size + 1) (by omega) 4 (.int .i64 0)
  replace Ta := Ta.other (k' := w.heap.size + 1) (by omega) 4 (.int .i64 0)
  replace Fo := Fo.set ⟨w.heap.size + 1, 4, none⟩ (.int .i64 0)
  replace Fq := Fq.set ⟨w.heap.size + 1, 4, none⟩ (.int .i64 0)
  replace BB := BB.setCell (p := ⟨w.heap.size + 1, 4, none⟩) (by first | exact Nat.le_refl _ | (simp only; omega)) (.int .i64 0)
  obtain ⟨V3, hV3⟩ : ∃ V3, ((((w2.setCell ⟨w.heap.size + 1, 0, none⟩ (.int .i64 0)).setCell ⟨w.heap.size + 1, 1, none⟩ (.int .i64 0)).setCell ⟨w.heap.size + 1, 2, none⟩ (.int .i64 0)).setCell ⟨w.heap.size + 1, 3, none⟩ (.int .i64 0)).setCell ⟨w.heap.size + 1, 4, none⟩ (.int .i64 0) = V3 := ⟨_, rfl⟩
  rw [hV3] at BB Tj To Tq Ta Fo Fq ⊢
  clear hV3
  replace Tq := Tq.set 0 (.int .i64 0) (by simp)
  replace Tj := Tj.other (k' := w.heap.size + 2) (by omega) 0 (.int .i64 0)
  replace To := To.other (k' := w.heap.size + 2) (by omega) 0 (.int .i64 0)
  replace Ta := Ta.other (k' := w.heap.size + 2) (by omega) 0 (.int .i64 0)
  replace Fo := Fo.set ⟨w.heap.size + 2, 0, none⟩ (.int .i64 0)
  replace Fq := Fq.set ⟨w.heap.size + 2, 0, none⟩ (.int .i64 0)
  replace BB := BB.setCell (p := ⟨w.heap.size + 2, 0, none⟩) (by first | exact Nat.le_refl _ | (simp only; omega)) (.int .i64 0)
  replace Tq := Tq.set 1 (.int .i64 0) (by simp)
  replace Tj := Tj.other (k' := w.heap.size + 2) (by omega) 1 (.int .i64 0)
  replace To := To.other (k' := w.heap.size + 2) (by omega) 1 (.int .i64 0)
  replace Ta := Ta.other (k' := w.heap.size + 2) (by omega) 1 (.int .i64 0)
  replace Fo := Fo.set ⟨w.heap.size + 2, 1, none⟩ (.int .i64 0)
  replace Fq := Fq.set ⟨w.heap.size + 2, 1, none⟩ (.int .i64 0)
  replace BB := BB.setCell (p := ⟨w.heap.size + 2, 1, none⟩) (by first | exact Nat.le_refl _ | (simp only; omega)) (.int .i64 0)
  replace Tq := Tq.set 2 (.int .i64 0) (by simp)
  replace Tj := Tj.other (k' := w.heap.size + 2) (by omega) 2 (.int .i64 0)
  replace To := To.other (k' := w.heap.size + 2) (by omega) 2 (.int .i64 0)
  replace Ta := Ta.other (k' := w.heap.size + 2) (by omega) 2 (.int .i64 0)
  replace Fo := Fo.set ⟨w.heap.size + 2, 2, none⟩ (.int .i64 0)
  replace Fq := Fq.set ⟨w.heap.size + 2, 2, none⟩ (.int .i64 0)
  replace BB := BB.setCell (p := ⟨w.heap.size + 2, 2, none⟩) (by first | exact Nat.le_refl _ | (simp only; omega)) (.int .i64 0)
  replace Tq := Tq.set 3 (.int .i64 0) (by simp)
  replace Tj := Tj.other (k' := w.heap.size + 2) (by omega) 3 (.int .i64 0)
  replace To := To.other (k' := w.heap.size + 2) (by omega) 3 (.int .i64 0)
  replace Ta := Ta.other (k' := w.heap.size + 2) (by omega) 3 (.int .i64 0)
  replace Fo := Fo.set ⟨w.heap.size + 2, 3, none⟩ (.int .i64 0)
  replace Fq := Fq.set ⟨w.heap.size + 2, 3, none⟩ (.int .i64 0)
  replace BB := BB.setCell (p := ⟨w.heap.size + 2, 3, none⟩) (by first | exact Nat.le_refl _ | (simp only; omega)) (.int .i64 0)
  replace Tq := Tq.set 4 (.int .i64 0) (by simp)
  replace Tj := Tj.other (k' := w.heap.size + 2) (by omega) 4 (.int .i64 0)
  replace To := To.other (k' := w.heap.size + 2) (by omega) 4 (.int .i64 0)
  replace Ta := Ta.other (k' := w.heap.size + 2) (by omega) 4 (.int .i64 0)
  replace Fo := Fo.set ⟨w.heap.size + 2, 4, none⟩ (.int .i64 0)
  replace Fq := Fq.set ⟨w.heap.size + 2, 4, none⟩ (.int .i64 0)
  replace BB := BB.setCell (p := ⟨w.heap.size + 2, 4, none⟩) (by first | exact Nat.le_refl _ | (simp only; omega)) (.int .i64 0)
  replace Tq := Tq.set 5 (.int .i64 0) (by simp)
  replace Tj := Tj.other (k' := w.heap.size + 2) (by omega) 5 (.int .i64 0)
  replace To := To.other (k' := w.heap.size + 2) (by omega) 5 (.int .i64 0)
  replace Ta := Ta.other (k' := w.heap.size + 2) (by omega) 5 (.int .i64 0)
  replace Fo := Fo.set ⟨w.heap.size + 2, 5, none⟩ (.int .i64 0)
  replace Fq := Fq.set ⟨w.heap.size + 2, 5, none⟩ (.int .i64 0)
  replace BB := BB.setCell (p := ⟨w.heap.size + 2, 5, none⟩) (by first | exact Nat.le_refl _ | (simp only; omega)) (.int .i64 0)
  replace Tq := Tq.set 6 (.int .i64 0) (by simp)
  replace Tj := Tj.other (k' := w.heap.size + 2) (by omega) 6 (.int .i64 0)
  replace To := To.other (k' := w.heap.size + 2) (by omega) 6 (.int .i64 0)
  replace Ta := Ta.other (k' := w.heap.size + 2) (by omega) 6 (.int .i64 0)
  replace Fo := Fo.set ⟨w.heap.size + 2, 6, none⟩ (.int .i64 0)
  replace Fq := Fq.set ⟨w.heap.size + 2, 6, none⟩ (.int .i64 0)
  replace BB := BB.setCell (p := ⟨w.heap.size + 2, 6, none⟩) (by first | exact Nat.le_refl _ | (simp only; omega)) (.int .i64 0)
  replace Tq := Tq.set 7 (.int .i64 0) (by simp)
  replace Tj := Tj.other (k' := w.heap.size + 2) (by omega) 7 (.int .i64 0)
  replace To := To.other (k' := w.heap.size + 2) (by omega) 7 (.int .i64 0)
  replace Ta := Ta.other (k' := w.heap.size + 2) (by omega) 7 (.int .i64 0)
  replace Fo := Fo.set ⟨w.heap.size + 2, 7, none⟩ (.int .i64 0)
  replace Fq := Fq.set ⟨w.heap.size + 2, 7, none⟩ (.int .i64 0)
  replace BB := BB.setCell (p := ⟨w.heap.size + 2, 7, none⟩) (by first | exact Nat.le_refl _ | (simp only; omega)) (.int .i64 0)
  obtain ⟨V4, hV4⟩ : ∃ V4, (((((((V3.setCell ⟨w.heap.size + 2, 0, none⟩ (.int .i64 0)).setCell ⟨w.heap.size + 2, 1, none⟩ (.int .i64 0)).setCell ⟨w.heap.size + 2, 2, none⟩ (.int .i64 0)).setCell ⟨w.heap.size + 2, 3, none⟩ (.int .i64 0)).setCell ⟨w.heap.size + 2, 4, none⟩ (.int .i64 0)).setCell ⟨w.heap.size + 2, 5, none⟩ (.int .i64 0)).setCell ⟨w.heap.size + 2, 6, none⟩ (.int .i64 0)).setCell ⟨w.heap.size + 2, 7, none⟩ (.int .i64 0) = V4 := ⟨_, rfl⟩
  rw [hV4] at BB Tj To Tq Ta Fo Fq ⊢
  clear hV4
  have o0 := To 0 _ rfl
  have fo0 := Fo.1 0
  have o1 := To 1 _ rfl
  have fo1 := Fo.1 1
  have o2 := To 2 _ rfl
  have fo2 := Fo.1 2
  have o3 := To 3 _ rfl
  have fo3 := Fo.1 3
  have o4 := To 4 _ rfl
  have fo4 := Fo.1 4
  have q0 := Tq 0 _ rfl
  have fq0 := Fq.1 0
  have q1 := Tq 1 _ rfl
  have fq1 := Fq.1 1
  have q2 := Tq 2 _ rfl
  have fq2 := Fq.1 2
  have q3 := Tq 3 _ rfl
  have fq3 := Fq.1 3
  have q4 := Tq 4 _ rfl
  have fq4 := Fq.1 4
  have q5 := Tq 5 _ rfl
  have fq5 := Fq.1 5
  have q6 := Tq 6 _ rfl
  have fq6 := Fq.1 6
  have q7 := Tq 7 _ rfl
  have fq7 := Fq.1 7
  refine bodyPost_ret (v := .tuple #[zJn.v, zWd.v, .int .i64 1]) (by simp [results, Tryd.results22, go_sem, o0, o1, o2, o3, o4, q0, q1, q2, q3, q4, q5, q6, q7]) rfl ⟨rfl, BB⟩
set_option maxRecDepth 100000 in
set_option maxHeartbeats 4000000 in
theorem ask_r5 (t m b s f : Int) (w : World) (h0 : triesB t = true) (h1 : nodeB m = true) (h2 : nodeB s = true) (h3 : (m == s) = false) (h4 : ¬ b < 0) (h5 : 1000000 < b) :
    Calls Tryd.prog 22 #[(⟨0, -1, 0, 0, t⟩ : Jn).v, .int .i64 m, .int .i64 b, .int .i64 s, .int .i64 f] w (Ans (.tuple #[zJn.v, zWd.v, .int .i64 1]) w) := by
  have H0 := Lib.hid h0; clear h0
  have H1 := Lib.hid h1; clear h1
  have H2 := Lib.hid h2; clear h2
  go_enter Tryd.func22, Tryd.ntmps22
  go_wp2_with fail
  have Tj := CAt.new (w) [.int .i64 0, .int .i64 (-1), .int .i64 0, .int .i64 0, .int .i64 t] 28
  have BB : Below w.heap.size w ((w).alloc (.cells #[.int .i64 0, .int .i64 (-1), .int .i64 0, .int .i64 0, .int .i64 t] 28)) := ball (Below.refl _ _) _
  have To := CAt.new (w.alloc (.cells #[.int .i64 0, .int .i64 (-1), .int .i64 0, .int .i64 0, .int .i64 t] 28)) [.int .i64 0, .int .i64 0, .int .i64 0, .int .i64 0, .int .i64 0] 28
  have Fo := Fz.new (w.alloc (.cells #[.int .i64 0, .int .i64 (-1), .int .i64 0, .int .i64 0, .int .i64 t] 28)) #[.int .i64 0, .int .i64 0, .int .i64 0, .int .i64 0, .int .i64 0] 28
  replace Tj := Tj.alloc (.cells #[.int .i64 0, .int .i64 0, .int .i64 0, .int .i64 0, .int .i64 0] 28)
  replace BB := ball BB (.cells #[.int .i64 0, .int .i64 0, .int .i64 0, .int .i64 0, .int .i64 0] 28)
  have Tq := CAt.new ((w.alloc (.cells #[.int .i64 0, .int .i64 (-1), .int .i64 0, .int .i64 0, .int .i64 t] 28)).alloc (.cells #[.int .i64 0, .int .i64 0, .int .i64 0, .int .i64 0, .int .i64 0] 28)) [.int .i64 0, .int .i64 0, .int .i64 0, .int .i64 0, .int .i64 0, .int .i64 0, .int .i64 0, .int .i64 0] 43
  have Fq := Fz.new ((w.alloc (.cells #[.int .i64 0, .int .i64 (-1), .int .i64 0, .int .i64 0, .int .i64 t] 28)).alloc (.cells #[.int .i64 0, .int .i64 0, .int .i64 0, .int .i64 0, .int .i64 0] 28)) #[.int .i64 0, .int .i64 0, .int .i64 0, .int .i64 0, .int .i64 0, .int .i64 0, .int .i64 0, .int .i64 0] 43
  replace Tj := Tj.alloc (.cells #[.int .i64 0, .int .i64 0, .int .i64 0, .int .i64 0, .int .i64 0, .int .i64 0, .int .i64 0, .int .i64 0] 43)
  replace To := To.alloc (.cells #[.int .i64 0, .int .i64 0, .int .i64 0, .int .i64 0, .int .i64 0, .int .i64 0, .int .i64 0, .int .i64 0] 43)
  replace Fo := Fo.alloc (.cells #[.int .i64 0, .int .i64 0, .int .i64 0, .int .i64 0, .int .i64 0, .int .i64 0, .int .i64 0, .int .i64 0] 43)
  replace BB := ball BB (.cells #[.int .i64 0, .int .i64 0, .int .i64 0, .int .i64 0, .int .i64 0, .int .i64 0, .int .i64 0, .int .i64 0] 43)
  have Ta := CAt.new (((w.alloc (.cells #[.int .i64 0, .int .i64 (-1), .int .i64 0, .int .i64 0, .int .i64 t] 28)).alloc (.cells #[.int .i64 0, .int .i64 0, .int .i64 0, .int .i64 0, .int .i64 0] 28)).alloc (.cells #[.int .i64 0, .int .i64 0, .int .i64 0, .int .i64 0, .int .i64 0, .int .i64 0, .int .i64 0, .int .i64 0] 43)) [.int .i64 0, .int .i64 (-1), .int .i64 0, .int .i64 0, .int .i64 t] 97
  replace Tj := Tj.alloc (.cells #[.int .i64 0, .int .i64 (-1), .int .i64 0, .int .i64 0, .int .i64 t] 97)
  replace To := To.alloc (.cells #[.int .i64 0, .int .i64 (-1), .int .i64 0, .int .i64 0, .int .i64 t] 97)
  replace Tq := Tq.alloc (.cells #[.int .i64 0, .int .i64 (-1), .int .i64 0, .int .i64 0, .int .i64 t] 97)
  replace Fo := Fo.alloc (.cells #[.int .i64 0, .int .i64 (-1), .int .i64 0, .int .i64 0, .int .i64 t] 97)
  replace Fq := Fq.alloc (.cells #[.int .i64 0, .int .i64 (-1), .int .i64 0, .int .i64 0, .int .i64 t] 97)
  replace BB := ball BB (.cells #[.int .i64 0, .int .i64 (-1), .int .i64 0, .int .i64 0, .int .i64 t] 97)
  simp only [World.size_alloc, Nat.add_assoc, Nat.reduceAdd] at To Fo Tq Fq Ta
  obtain ⟨V1, hV1⟩ : ∃ V1, (((w.alloc (.cells #[.int .i64 0, .int .i64 (-1), .int .i64 0, .int .i64 0, .int .i64 t] 28)).alloc (.cells #[.int .i64 0, .int .i64 0, .int .i64 0, .int .i64 0, .int .i64 0] 28)).alloc (.cells #[.int .i64 0, .int .i64 0, .int .i64 0, .int .i64 0, .int .i64 0, .int .i64 0, .int .i64 0, .int .i64 0] 43)).alloc (.cells #[.int .i64 0, .int .i64 (-1), .int .i64 0, .int .i64 0, .int .i64 t] 97) = V1 := ⟨_, rfl⟩
  rw [hV1] at BB Tj To Tq Ta Fo Fq ⊢
  clear hV1
  have a0 := Ta 0 _ rfl
  have a1 := Ta 1 _ rfl
  have a2 := Ta 2 _ rfl
  have a3 := Ta 3 _ rfl
  have a4 := Ta 4 _ rfl
  simp only [Nat.add_assoc, Nat.reduceAdd]
  go_wp2_with fail
  refine (jvalid_at ⟨0, -1, 0, 0, t⟩ _ true V1 (fresh_ok t) H0.out Ta).mono ?_
  clear a0 a1 a2 a3 a4
  rintro e w2 ⟨rfl, b2⟩
  replace Tj := Tj.keep b2
  replace To := To.keep b2
  replace Tq := Tq.keep b2
  replace Ta := Ta.keep b2
  replace Fo := Fo.keep b2
  replace Fq := Fq.keep b2
  replace BB := bstep BB b2
  clear b2
  have a0 := Ta 0 _ rfl
  have a1 := Ta 1 _ rfl
  have a2 := Ta 2 _ rfl
  have a3 := Ta 3 _ rfl
  have a4 := Ta 4 _ rfl
  have o0 := To 0 _ rfl
  have fo0 := Fo.1 0
  have o1 := To 1 _ rfl
  have fo1 := Fo.1 1
  have o2 := To 2 _ rfl
  have fo2 := Fo.1 2
  have o3 := To 3 _ rfl
  have fo3 := Fo.1 3
  have o4 := To 4 _ rfl
  have fo4 := Fo.1 4
  have q0 := Tq 0 _ rfl
  have fq0 := Fq.1 0
  have q1 := Tq 1 _ rfl
  have fq1 := Fq.1 1
  have q2 := Tq 2 _ rfl
  have fq2 := Fq.1 2
  have q3 := Tq 3 _ rfl
  have fq3 := Fq.1 3
  have q4 := Tq 4 _ rfl
  have fq4 := Fq.1 4
  have q5 := Tq 5 _ rfl
  have fq5 := Fq.1 5
  have q6 := Tq 6 _ rfl
  have fq6 := Fq.1 6
  have q7 := Tq 7 _ rfl
  have fq7 := Fq.1 7
  go_wp2_with fail
  refine (node_at m true _ H1.out).mono ?_
  rintro e w' ⟨rfl, rfl⟩
  go_wp2_with fail
  refine (node_at s true _ H2.out).mono ?_
  rintro e w' ⟨rfl, rfl⟩
  go_wp2_with fail
  clear a0 a1 a2 a3 a4 o0 fo0 o1 fo1 o2 fo2 o3 fo3 o4 fo4 q0 fq0 q1 fq1 q2 fq2 q3 fq3 q4 fq4 q5 fq5 q6 fq6 q7 fq7
  replace To := To.set 0 (.int .i64 0) (by simp)
  replace Tj := Tj.other (k' := w.heap.size + 1) (by omega) 0 (.int .i64 0)
  replace Tq := Tq.other (k' := w.heap.size + 1) (by omega) 0 (.int .i64 0)
  replace Ta := Ta.other (k' := w.heap.size + 1) (by omega) 0 (.int .i64 0)
  replace Fo := Fo.set ⟨w.heap.size + 1, 0, none⟩ (.int .i64 0)
  replace Fq := Fq.set ⟨w.heap.size + 1, 0, none⟩ (.int .i64 0)
  replace BB := BB.setCell (p := ⟨w.heap.size + 1, 0, none⟩) (by first | exact Nat.le_refl _ | (simp only; omega)) (.int .i64 0)
  replace To := To.set 1 (.int .i64 0) (by simp)
  replace Tj := Tj.other (k' := w.heap.size + 1) (by omega) 1 (.int .i64 0)
  replace Tq := Tq.other (k' := w.heap.size + 1) (by omega) 1 (.int .i64 0)
  replace Ta := Ta.other (k' := w.heap.size + 1) (by omega) 1 (.int .i64 0)
  replace Fo := Fo.set ⟨w.heap.size + 1, 1, none⟩ (.int .i64 0)
  replace Fq := Fq.set ⟨w.heap.size + 1, 1, none⟩ (.int .i64 0)
  replace BB := BB.setCell (p := ⟨w.heap.size + 1, 1, none⟩) (by first | exact Nat.le_refl _ | (simp only; omega)) (.int .i64 0)
  replace To := To.set 2 (.int .i64 0) (by simp)
  replace Tj := Tj.other (k' := w.heap.size + 1) (by omega) 2 (.int .i64 0)
  replace Tq := Tq.other (k' := w.heap.size + 1) (by omega) 2 (.int .i64 0)
  replace Ta := Ta.other (k' := w.heap.size + 1) (by omega) 2 (.int .i64 0)
  replace Fo := Fo.set ⟨w.heap.size + 1, 2, none⟩ (.int .i64 0)
  replace Fq := Fq.set ⟨w.heap.size + 1, 2, none⟩ (.int .i64 0)
  replace BB := BB.setCell (p := ⟨w.heap.size + 1, 2, none⟩) (by first | exact Nat.le_refl _ | (simp only; omega)) (.int .i64 0)
  replace To := To.set 3 (.int .i64 0) (by simp)
  replace Tj := Tj.other (k' := w.heap.size + 1) (by omega) 3 (.int .i64 0)
  replace Tq := Tq.other (k' := w.heap.size + 1) (by omega) 3 (.int .i64 0)
  replace Ta := Ta.other (k' := w.heap.size + 1) (by omega) 3 (.int .i64 0)
  replace Fo := Fo.set ⟨w.heap.size + 1, 3, none⟩ (.int .i64 0)
  replace Fq := Fq.set ⟨w.heap.size + 1, 3, none⟩ (.int .i64 0)
  replace BB := BB.setCell (p := ⟨w.heap.size + 1, 3, none⟩) (by first | exact Nat.le_refl _ | (simp only; omega)) (.int .i64 0)
  replace To := To.set 4 (.int .i64 0) (by simp)
  replace Tj := Tj.other (k' := w.heap.size + 1) (by omega) 4 (.int .i64 0)
  replace Tq := Tq.other (k' := w.heap.size + 1) (by omega) 4 (.int .i64 0)
  replace Ta := Ta.other (k' := w.heap.size + 1) (by omega) 4 (.int .i64 0)
  replace Fo := Fo.set ⟨w.heap.size + 1, 4, none⟩ (.int .i64 0)
  replace Fq := Fq.set ⟨w.heap.size + 1, 4, none⟩ (.int .i64 0)
  replace BB := BB.setCell (p := ⟨w.heap.size + 1, 4, none⟩) (by first | exact Nat.le_refl _ | (simp only; omega)) (.int .i64 0)
  obtain ⟨V3, hV3⟩ : ∃ V3, ((((w2.setCell ⟨w.heap.size + 1, 0, none⟩ (.int .i64 0)).setCell ⟨w.heap.size + 1, 1, none⟩ (.int .i64 0)).setCell ⟨w.heap.size + 1, 2, none⟩ (.int .i64 0)).setCell ⟨w.heap.size + 1, 3, none⟩ (.int .i64 0)).setCell ⟨w.heap.size + 1, 4, none⟩ (.int .i64 0) = V3 := ⟨_, rfl⟩
  rw [hV3] at BB Tj To Tq Ta Fo Fq ⊢
  clear hV3
  replace Tq := Tq.set 0 (.int .i64 0) (by simp)
  replace Tj := Tj.other (k' := w.heap.size + 2) (by omega) 0 (.int .i64 0)
  replace To := To.other (k' := w.heap.size + 2) (by omega) 0 (.int .i64 0)
  replace Ta := Ta.other (k' := w.heap.size + 2) (by omega) 0 (.int .i64 0)
  replace Fo := Fo.set ⟨w.heap.size + 2, 0, none⟩ (.int .i64 0)
  replace Fq := Fq.set ⟨w.heap.size + 2, 0, none⟩ (.int .i64 0)
  replace BB := BB.setCell (p := ⟨w.heap.size + 2, 0, none⟩) (by first | exact Nat.le_refl _ | (simp only; omega)) (.int .i64 0)
  replace Tq := Tq.set 1 (.int .i64 0) (by simp)
  replace Tj := Tj.other (k' := w.heap.size + 2) (by omega) 1 (.int .i64 0)
  replace To := To.other (k' := w.heap.size + 2) (by omega) 1 (.int .i64 0)
  replace Ta := Ta.other (k' := w.heap.size + 2) (by omega) 1 (.int .i64 0)
  replace Fo := Fo.set ⟨w.heap.size + 2, 1, none⟩ (.int .i64 0)
  replace Fq := Fq.set ⟨w.heap.size + 2, 1, none⟩ (.int .i64 0)
  replace BB := BB.setCell (p := ⟨w.heap.size + 2, 1, none⟩) (by first | exact Nat.le_refl _ | (simp only; omega)) (.int .i64 0)
  replace Tq := Tq.set 2 (.int .i64 0) (by simp)
  replace Tj := Tj.other (k' := w.heap.size + 2) (by omega) 2 (.int .i64 0)
  replace To := To.other (k' := w.heap.size + 2) (by omega) 2 (.int .i64 0)
  replace Ta := Ta.other (k' := w.heap.size + 2) (by omega) 2 (.int .i64 0)
  replace Fo := Fo.set ⟨w.heap.size + 2, 2, none⟩ (.int .i64 0)
  replace Fq := Fq.set ⟨w.heap.size + 2, 2, none⟩ (.int .i64 0)
  replace BB := BB.setCell (p := ⟨w.heap.size + 2, 2, none⟩) (by first | exact Nat.le_refl _ | (simp only; omega)) (.int .i64 0)
  replace Tq := Tq.set 3 (.int .i64 0) (by simp)
  replace Tj := Tj.other (k' := w.heap.size + 2) (by omega) 3 (.int .i64 0)
  replace To := To.other (k' := w.heap.size + 2) (by omega) 3 (.int .i64 0)
  replace Ta := Ta.other (k' := w.heap.size + 2) (by omega) 3 (.int .i64 0)
  replace Fo := Fo.set ⟨w.heap.size + 2, 3, none⟩ (.int .i64 0)
  replace Fq := Fq.set ⟨w.heap.size + 2, 3, none⟩ (.int .i64 0)
  replace BB := BB.setCell (p := ⟨w.heap.size + 2, 3, none⟩) (by first | exact Nat.le_refl _ | (simp only; omega)) (.int .i64 0)
  replace Tq := Tq.set 4 (.int .i64 0) (by simp)
  replace Tj := Tj.other (k' := w.heap.size + 2) (by omega) 4 (.int .i64 0)
  replace To := To.other (k' := w.heap.size + 2) (by omega) 4 (.int .i64 0)
  replace Ta := Ta.other (k' := w.heap.size + 2) (by omega) 4 (.int .i64 0)
  replace Fo := Fo.set ⟨w.heap.size + 2, 4, none⟩ (.int .i64 0)
  replace Fq := Fq.set ⟨w.heap.size + 2, 4, none⟩ (.int .i64 0)
  replace BB := BB.setCell (p := ⟨w.heap.size + 2, 4, none⟩) (by first | exact Nat.le_refl _ | (simp only; omega)) (.int .i64 0)
  replace Tq := Tq.set 5 (.int .i64 0) (by simp)
  replace Tj := Tj.other (k' := w.heap.size + 2) (by omega) 5 (.int .i64 0)
  replace To := To.other (k' := w.heap.size + 2) (by omega) 5 (.int .i64 0)
  replace Ta := Ta.other (k' := w.heap.size + 2) (by omega) 5 (.int .i64 0)
  replace Fo := Fo.set ⟨w.heap.size + 2, 5, none⟩ (.int .i64 0)
  replace Fq := Fq.set ⟨w.heap.size + 2, 5, none⟩ (.int .i64 0)
  replace BB := BB.setCell (p := ⟨w.heap.size + 2, 5, none⟩) (by first | exact Nat.le_refl _ | (simp only; omega)) (.int .i64 0)
  replace Tq := Tq.set 6 (.int .i64 0) (by simp)
  replace Tj := Tj.other (k' := w.heap.size + 2) (by omega) 6 (.int .i64 0)
  replace To := To.other (k' := w.heap.size + 2) (by omega) 6 (.int .i64 0)
  replace Ta := Ta.other (k' := w.heap.size + 2) (by omega) 6 (.int .i64 0)
  replace Fo := Fo.set ⟨w.heap.size + 2, 6, none⟩ (.int .i64 0)
  replace Fq := Fq.set ⟨w.heap.size + 2, 6, none⟩ (.int .i64 0)
  replace BB := BB.setCell (p := ⟨w.heap.size + 2, 6, none⟩) (by first | exact Nat.le_refl _ | (simp only; omega)) (.int .i64 0)
  replace Tq := Tq.set 7 (.int .i64 0) (by simp)
  replace Tj := Tj.other (k' := w.heap.size + 2) (by omega) 7 (.int .i64 0)
  replace To := To.other (k' := w.heap.size + 2) (by omega) 7 (.int .i64 0)
  replace Ta := Ta.other (k' := w.heap.size + 2) (by omega) 7 (.int .i64 0)
  replace Fo := Fo.set ⟨w.heap.size + 2, 7, none⟩ (.int .i64 0)
  replace Fq := Fq.set ⟨w.heap.size + 2, 7, none⟩ (.int .i64 0)
  replace BB := BB.setCell (p := ⟨w.heap.size + 2, 7, none⟩) (by first | exact Nat.le_refl _ | (simp only; omega)) (.int .i64 0)
  obtain ⟨V4, hV4⟩ : ∃ V4, (((((((V3.setCell ⟨w.heap.size + 2, 0, none⟩ (.int .i64 0)).setCell ⟨w.heap.size + 2, 1, none⟩ (.int .i64 0)).setCell ⟨w.heap.size + 2, 2, none⟩ (.int .i64 0)).setCell ⟨w.heap.size + 2, 3, none⟩ (.int .i64 0)).setCell ⟨w.heap.size + 2, 4, none⟩ (.int .i64 0)).setCell ⟨w.heap.size + 2, 5, none⟩ (.int .i64 0)).setCell ⟨w.heap.size + 2, 6, none⟩ (.int .i64 0)).setCell ⟨w.heap.size + 2, 7, none⟩ (.int .i64 0) = V4 := ⟨_, rfl⟩
  rw [hV4] at BB Tj To Tq Ta Fo Fq ⊢
  clear hV4
  have o0 := To 0 _ rfl
  have fo0 := Fo.1 0
  have o1 := To 1 _ rfl
  have fo1 := Fo.1 1
  have o2 := To 2 _ rfl
  have fo2 := Fo.1 2
  have o3 := To 3 _ rfl
  have fo3 := Fo.1 3
  have o4 := To 4 _ rfl
  have fo4 := Fo.1 4
  have q0 := Tq 0 _ rfl
  have fq0 := Fq.1 0
  have q1 := Tq 1 _ rfl
  have fq1 := Fq.1 1
  have q2 := Tq 2 _ rfl
  have fq2 := Fq.1 2
  have q3 := Tq 3 _ rfl
  have fq3 := Fq.1 3
  have q4 := Tq 4 _ rfl
  have fq4 := Fq.1 4
  have q5 := Tq 5 _ rfl
  have fq5 := Fq.1 5
  have q6 := Tq 6 _ rfl
  have fq6 := Fq.1 6
  have q7 := Tq 7 _ rfl
  have fq7 := Fq.1 7
  refine bodyPost_ret (v := .tuple #[zJn.v, zWd.v, .int .i64 1]) (by simp [results, Tryd.results22, go_sem, o0, o1, o2, o3, o4, q0, q1, q2, q3, q4, q5, q6, q7]) rfl ⟨rfl, BB⟩
set_option maxRecDepth 100000 in
set_option maxHeartbeats 4000000 in
theorem ask_r6 (t m b s f : Int) (w : World) (h0 : triesB t = true) (h1 : nodeB m = true) (h2 : nodeB s = true) (h3 : (m == s) = false) (h4 : ¬ b < 0) (h5 : ¬ 1000000 < b) (h6 : f < 0) :
    Calls Tryd.prog 22 #[(⟨0, -1, 0, 0, t⟩ : Jn).v, .int .i64 m, .int .i64 b, .int .i64 s, .int .i64 f] w (Ans (.tuple #[zJn.v, zWd.v, .int .i64 1]) w) := by
  have H0 := Lib.hid h0; clear h0
  have H1 := Lib.hid h1; clear h1
  have H2 := Lib.hid h2; clear h2
  go_enter Tryd.func22, Tryd.ntmps22
  go_wp2_with fail
  have Tj := CAt.new (w) [.int .i64 0, .int .i64 (-1), .int .i64 0, .int .i64 0, .int .i64 t] 28
  have BB : Below w.heap.size w ((w).alloc (.cells #[.int .i64 0, .int .i64 (-1), .int .i64 0, .int .i64 0, .int .i64 t] 28)) := ball (Below.refl _ _) _
  have To := CAt.new (w.alloc (.cells #[.int .i64 0, .int .i64 (-1), .int .i64 0, .int .i64 0, .int .i64 t] 28)) [.int .i64 0, .int .i64 0, .int .i64 0, .int .i64 0, .int .i64 0] 28
  have Fo := Fz.new (w.alloc (.cells #[.int .i64 0, .int .i64 (-1), .int .i64 0, .int .i64 0, .int .i64 t] 28)) #[.int .i64 0, .int .i64 0, .int .i64 0, .int .i64 0, .int .i64 0] 28
  replace Tj := Tj.alloc (.cells #[.int .i64 0, .int .i64 0, .int .i64 0, .int .i64 0, .int .i64 0] 28)
  replace BB := ball BB (.cells #[.int .i64 0, .int .i64 0, .int .i64 0, .int .i64 0, .int .i64 0] 28)
  have Tq := CAt.new ((w.alloc (.cells #[.int .i64 0, .int .i64 (-1), .int .i64 0, .int .i64 0, .int .i64 t] 28)).alloc (.cells #[.int .i64 0, .int .i64 0, .int .i64 0, .int .i64 0, .int .i64 0] 28)) [.int .i64 0, .int .i64 0, .int .i64 0, .int .i64 0, .int .i64 0, .int .i64 0, .int .i64 0, .int .i64 0] 43
  have Fq := Fz.new ((w.alloc (.cells #[.int .i64 0, .int .i64 (-1), .int .i64 0, .int .i64 0, .int .i64 t] 28)).alloc (.cells #[.int .i64 0, .int .i64 0, .int .i64 0, .int .i64 0, .int .i64 0] 28)) #[.int .i64 0, .int .i64 0, .int .i64 0, .int .i64 0, .int .i64 0, .int .i64 0, .int .i64 0, .int .i64 0] 43
  replace Tj := Tj.alloc (.cells #[.int .i64 0, .int .i64 0, .int .i64 0, .int .i64 0, .int .i64 0, .int .i64 0, .int .i64 0, .int .i64 0] 43)
  replace To := To.alloc (.cells #[.int .i64 0, .int .i64 0, .int .i64 0, .int .i64 0, .int .i64 0, .int .i64 0, .int .i64 0, .int .i64 0] 43)
  replace Fo := Fo.alloc (.cells #[.int .i64 0, .int .i64 0, .int .i64 0, .int .i64 0, .int .i64 0, .int .i64 0, .int .i64 0, .int .i64 0] 43)
  replace BB := ball BB (.cells #[.int .i64 0, .int .i64 0, .int .i64 0, .int .i64 0, .int .i64 0, .int .i64 0, .int .i64 0, .int .i64 0] 43)
  have Ta := CAt.new (((w.alloc (.cells #[.int .i64 0, .int .i64 (-1), .int .i64 0, .int .i64 0, .int .i64 t] 28)).alloc (.cells #[.int .i64 0, .int .i64 0, .int .i64 0, .int .i64 0, .int .i64 0] 28)).alloc (.cells #[.int .i64 0, .int .i64 0, .int .i64 0, .int .i64 0, .int .i64 0, .int .i64 0, .int .i64 0, .int .i64 0] 43)) [.int .i64 0, .int .i64 (-1), .int .i64 0, .int .i64 0, .int .i64 t] 97
  replace Tj := Tj.alloc (.cells #[.int .i64 0, .int .i64 (-1), .int .i64 0, .int .i64 0, .int .i64 t] 97)
  replace To := To.alloc (.cells #[.int .i64 0, .int .i64 (-1), .int .i64 0, .int .i64 0, .int .i64 t] 97)
  replace Tq := Tq.alloc (.cells #[.int .i64 0, .int .i64 (-1), .int .i64 0, .int .i64 0, .int .i64 t] 97)
  replace Fo := Fo.alloc (.cells #[.int .i64 0, .int .i64 (-1), .int .i64 0, .int .i64 0, .int .i64 t] 97)
  replace Fq := Fq.alloc (.cells #[.int .i64 0, .int .i64 (-1), .int .i64 0, .int .i64 0, .int .i64 t] 97)
  replace BB := ball BB (.cells #[.int .i64 0, .int .i64 (-1), .int .i64 0, .int .i64 0, .int .i64 t] 97)
  simp only [World.size_alloc, Nat.add_assoc, Nat.reduceAdd] at To Fo Tq Fq Ta
  obtain ⟨V1, hV1⟩ : ∃ V1, (((w.alloc (.cells #[.int .i64 0, .int .i64 (-1), .int .i64 0, .int .i64 0, .int .i64 t] 28)).alloc (.cells #[.int .i64 0, .int .i64 0, .int .i64 0, .int .i64 0, .int .i64 0] 28)).alloc (.cells #[.int .i64 0, .int .i64 0, .int .i64 0, .int .i64 0, .int .i64 0, .int .i64 0, .int .i64 0, .int .i64 0] 43)).alloc (.cells #[.int .i64 0, .int .i64 (-1), .int .i64 0, .int .i64 0, .int .i64 t] 97) = V1 := ⟨_, rfl⟩
  rw [hV1] at BB Tj To Tq Ta Fo Fq ⊢
  clear hV1
  have a0 := Ta 0 _ rfl
  have a1 := Ta 1 _ rfl
  have a2 := Ta 2 _ rfl
  have a3 := Ta 3 _ rfl
  have a4 := Ta 4 _ rfl
  simp only [Nat.add_assoc, Nat.reduceAdd]
  go_wp2_with fail
  refine (jvalid_at ⟨0, -1, 0, 0, t⟩ _ true V1 (fresh_ok t) H0.out Ta).mono ?_
  clear a0 a1 a2 a3 a4
  rintro e w2 ⟨rfl, b2⟩
  replace Tj := Tj.keep b2
  replace To := To.keep b2
  replace Tq := Tq.keep b2
  replace Ta := Ta.keep b2
  replace Fo := Fo.keep b2
  replace Fq := Fq.keep b2
  replace BB := bstep BB b2
  clear b2
  have a0 := Ta 0 _ rfl
  have a1 := Ta 1 _ rfl
  have a2 := Ta 2 _ rfl
  have a3 := Ta 3 _ rfl
  have a4 := Ta 4 _ rfl
  have o0 := To 0 _ rfl
  have fo0 := Fo.1 0
  have o1 := To 1 _ rfl
  have fo1 := Fo.1 1
  have o2 := To 2 _ rfl
  have fo2 := Fo.1 2
  have o3 := To 3 _ rfl
  have fo3 := Fo.1 3
  have o4 := To 4 _ rfl
  have fo4 := Fo.1 4
  have q0 := Tq 0 _ rfl
  have fq0 := Fq.1 0
  have q1 := Tq 1 _ rfl
  have fq1 := Fq.1 1
  have q2 := Tq 2 _ rfl
  have fq2 := Fq.1 2
  have q3 := Tq 3 _ rfl
  have fq3 := Fq.1 3
  have q4 := Tq 4 _ rfl
  have fq4 := Fq.1 4
  have q5 := Tq 5 _ rfl
  have fq5 := Fq.1 5
  have q6 := Tq 6 _ rfl
  have fq6 := Fq.1 6
  have q7 := Tq 7 _ rfl
  have fq7 := Fq.1 7
  go_wp2_with fail
  refine (node_at m true _ H1.out).mono ?_
  rintro e w' ⟨rfl, rfl⟩
  go_wp2_with fail
  refine (node_at s true _ H2.out).mono ?_
  rintro e w' ⟨rfl, rfl⟩
  go_wp2_with fail
  clear a0 a1 a2 a3 a4 o0 fo0 o1 fo1 o2 fo2 o3 fo3 o4 fo4 q0 fq0 q1 fq1 q2 fq2 q3 fq3 q4 fq4 q5 fq5 q6 fq6 q7 fq7
  replace To := To.set 0 (.int .i64 0) (by simp)
  replace Tj := Tj.other (k' := w.heap.size + 1) (by omega) 0 (.int .i64 0)
  replace Tq := Tq.other (k' := w.heap.size + 1) (by omega) 0 (.int .i64 0)
  replace Ta := Ta.other (k' := w.heap.size + 1) (by omega) 0 (.int .i64 0)
  replace Fo := Fo.set ⟨w.heap.size + 1, 0, none⟩ (.int .i64 0)
  replace Fq := Fq.set ⟨w.heap.size + 1, 0, none⟩ (.int .i64 0)
  replace BB := BB.setCell (p := ⟨w.heap.size + 1, 0, none⟩) (by first | exact Nat.le_refl _ | (simp only; omega)) (.int .i64 0)
  replace To := To.set 1 (.int .i64 0) (by simp)
  replace Tj := Tj.other (k' := w.heap.size + 1) (by omega) 1 (.int .i64 0)
  replace Tq := Tq.other (k' := w.heap.size + 1) (by omega) 1 (.int .i64 0)
  replace Ta := Ta.other (k' := w.heap.size + 1) (by omega) 1 (.int .i64 0)
  replace Fo := Fo.set ⟨w.heap.size + 1, 1, none⟩ (.int .i64 0)
  replace Fq := Fq.set ⟨w.heap.size + 1, 1, none⟩ (.int .i64 0)
  replace BB := BB.setCell (p := ⟨w.heap.size + 1, 1, none⟩) (by first | exact Nat.le_refl _ | (simp only; omega)) (.int .i64 0)
  replace To := To.set 2 (.int .i64 0) (by simp)
  replace Tj := Tj.other (k' := w.heap.size + 1) (by omega) 2 (.int .i64 0)
  replace Tq := Tq.other (k' := w.heap.size + 1) (by omega) 2 (.int .i64 0)
  replace Ta := Ta.other (k' := w.heap.size + 1) (by omega) 2 (.int .i64 0)
  replace Fo := Fo.set ⟨w.heap.size + 1, 2, none⟩ (.int .i64 0)
  replace Fq := Fq.set ⟨w.heap.size + 1, 2, none⟩ (.int .i64 0)
  replace BB := BB.setCell (p := ⟨w.heap.size + 1, 2, none⟩) (by first | exact Nat.le_refl _ | (simp only; omega)) (.int .i64 0)
  replace To := To.set 3 (.int .i64 0) (by simp)
  replace Tj := Tj.other (k' := w.heap.size + 1) (by omega) 3 (.int .i64 0)
  replace Tq := Tq.other (k' := w.heap.size + 1) (by omega) 3 (.int .i64 0)
  replace Ta := Ta.other (k' := w.heap.size + 1) (by omega) 3 (.int .i64 0)
  replace Fo := Fo.set ⟨w.heap.size + 1, 3, none⟩ (.int .i64 0)
  replace Fq := Fq.set ⟨w.heap.size + 1, 3, none⟩ (.int .i64 0)
  replace BB := BB.setCell (p := ⟨w.heap.size + 1, 3, none⟩) (by first | exact Nat.le_refl _ | (simp only; omega)) (.int .i64 0)
  replace To := To.set 4 (.int .i64 0) (by simp)
  replace Tj := Tj.other (k' := w.heap.size + 1) (by omega) 4 (.int .i64 0)
  replace Tq := Tq.other (k' := w.heap.size + 1) (by omega) 4 (.int .i64 0)
  replace Ta := Ta.other (k' := w.heap.size + 1) (by omega) 4 (.int .i64 0)
  replace Fo := Fo.set ⟨w.heap.size + 1, 4, none⟩ (.int .i64 0)
  replace Fq := Fq.set ⟨w.heap.size + 1, 4, none⟩ (.int .i64 0)
  replace BB := BB.setCell (p := ⟨w.heap.size + 1, 4, none⟩) (by first | exact Nat.le_refl _ | (simp only; omega)) (.int .i64 0)
  obtain ⟨V3, hV3⟩ : ∃ V3, ((((w2.setCell ⟨w.heap.size + 1, 0, none⟩ (.int .i64 0)).setCell ⟨w.heap.size + 1, 1, none⟩ (.int .i64 0)).setCell ⟨w.heap.size + 1, 2, none⟩ (.int .i64 0)).setCell ⟨w.heap.size + 1, 3, none⟩ (.int .i64 0)).setCell ⟨w.heap.size + 1, 4, none⟩ (.int .i64 0) = V3 := ⟨_, rfl⟩
  rw [hV3] at BB Tj To Tq Ta Fo Fq ⊢
  clear hV3
  replace Tq := Tq.set 0 (.int .i64 0) (by simp)
  replace Tj := Tj.other (k' := w.heap.size + 2) (by omega) 0 (.int .i64 0)
  replace To := To.other (k' := w.heap.size + 2) (by omega) 0 (.int .i64 0)
  replace Ta := Ta.other (k' := w.heap.size + 2) (by omega) 0 (.int .i64 0)
  replace Fo := Fo.set ⟨w.heap.size + 2, 0, none⟩ (.int .i64 0)
  replace Fq := Fq.set ⟨w.heap.size + 2, 0, none⟩ (.int .i64 0)
  replace BB := BB.setCell (p := ⟨w.heap.size + 2, 0, none⟩) (by first | exact Nat.le_refl _ | (simp only; omega)) (.int .i64 0)
  replace Tq := Tq.set 1 (.int .i64 0) (by simp)
  replace Tj := Tj.other (k' := w.heap.size + 2) (by omega) 1 (.int .i64 0)
  replace To := To.other (k' := w.heap.size + 2) (by omega) 1 (.int .i64 0)
  replace Ta := Ta.other (k' := w.heap.size + 2) (by omega) 1 (.int .i64 0)
  replace Fo := Fo.set ⟨w.heap.size + 2, 1, none⟩ (.int .i64 0)
  replace Fq := Fq.set ⟨w.heap.size + 2, 1, none⟩ (.int .i64 0)
  replace BB := BB.setCell (p := ⟨w.heap.size + 2, 1, none⟩) (by first | exact Nat.le_refl _ | (simp only; omega)) (.int .i64 0)
  replace Tq := Tq.set 2 (.int .i64 0) (by simp)
  replace Tj := Tj.other (k' := w.heap.size + 2) (by omega) 2 (.int .i64 0)
  replace To := To.other (k' := w.heap.size + 2) (by omega) 2 (.int .i64 0)
  replace Ta := Ta.other (k' := w.heap.size + 2) (by omega) 2 (.int .i64 0)
  replace Fo := Fo.set ⟨w.heap.size + 2, 2, none⟩ (.int .i64 0)
  replace Fq := Fq.set ⟨w.heap.size + 2, 2, none⟩ (.int .i64 0)
  replace BB := BB.setCell (p := ⟨w.heap.size + 2, 2, none⟩) (by first | exact Nat.le_refl _ | (simp only; omega)) (.int .i64 0)
  replace Tq := Tq.set 3 (.int .i64 0) (by simp)
  replace Tj := Tj.other (k' := w.heap.size + 2) (by omega) 3 (.int .i64 0)
  replace To := To.other (k' := w.heap.size + 2) (by omega) 3 (.int .i64 0)
  replace Ta := Ta.other (k' := w.heap.size + 2) (by omega) 3 (.int .i64 0)
  replace Fo := Fo.set ⟨w.heap.size + 2, 3, none⟩ (.int .i64 0)
  replace Fq := Fq.set ⟨w.heap.size + 2, 3, none⟩ (.int .i64 0)
  replace BB := BB.setCell (p := ⟨w.heap.size + 2, 3, none⟩) (by first | exact Nat.le_refl _ | (simp only; omega)) (.int .i64 0)
  replace Tq := Tq.set 4 (.int .i64 0) (by simp)
  replace Tj := Tj.other (k' := w.heap.size + 2) (by omega) 4 (.int .i64 0)
  replace To := To.other (k' := w.heap.size + 2) (by omega) 4 (.int .i64 0)
  replace Ta := Ta.other (k' := w.heap.size + 2) (by omega) 4 (.int .i64 0)
  replace Fo := Fo.set ⟨w.heap.size + 2, 4, none⟩ (.int .i64 0)
  replace Fq := Fq.set ⟨w.heap.size + 2, 4, none⟩ (.int .i64 0)
  replace BB := BB.setCell (p := ⟨w.heap.size + 2, 4, none⟩) (by first | exact Nat.le_refl _ | (simp only; omega)) (.int .i64 0)
  replace Tq := Tq.set 5 (.int .i64 0) (by simp)
  replace Tj := Tj.other (k' := w.heap.size + 2) (by omega) 5 (.int .i64 0)
  replace To := To.other (k' := w.heap.size + 2) (by omega) 5 (.int .i64 0)
  replace Ta := Ta.other (k' := w.heap.size + 2) (by omega) 5 (.int .i64 0)
  replace Fo := Fo.set ⟨w.heap.size + 2, 5, none⟩ (.int .i64 0)
  replace Fq := Fq.set ⟨w.heap.size + 2, 5, none⟩ (.int .i64 0)
  replace BB := BB.setCell (p := ⟨w.heap.size + 2, 5, none⟩) (by first | exact Nat.le_refl _ | (simp only; omega)) (.int .i64 0)
  replace Tq := Tq.set 6 (.int .i64 0) (by simp)
  replace Tj := Tj.other (k' := w.heap.size + 2) (by omega) 6 (.int .i64 0)
  replace To := To.other (k' := w.heap.size + 2) (by omega) 6 (.int .i64 0)
  replace Ta := Ta.other (k' := w.heap.size + 2) (by omega) 6 (.int .i64 0)
  replace Fo := Fo.set ⟨w.heap.size + 2, 6, none⟩ (.int .i64 0)
  replace Fq := Fq.set ⟨w.heap.size + 2, 6, none⟩ (.int .i64 0)
  replace BB := BB.setCell (p := ⟨w.heap.size + 2, 6, none⟩) (by first | exact Nat.le_refl _ | (simp only; omega)) (.int .i64 0)
  replace Tq := Tq.set 7 (.int .i64 0) (by simp)
  replace Tj := Tj.other (k' := w.heap.size + 2) (by omega) 7 (.int .i64 0)
  replace To := To.other (k' := w.heap.size + 2) (by omega) 7 (.int .i64 0)
  replace Ta := Ta.other (k' := w.heap.size + 2) (by omega) 7 (.int .i64 0)
  replace Fo := Fo.set ⟨w.heap.size + 2, 7, none⟩ (.int .i64 0)
  replace Fq := Fq.set ⟨w.heap.size + 2, 7, none⟩ (.int .i64 0)
  replace BB := BB.setCell (p := ⟨w.heap.size + 2, 7, none⟩) (by first | exact Nat.le_refl _ | (simp only; omega)) (.int .i64 0)
  obtain ⟨V4, hV4⟩ : ∃ V4, (((((((V3.setCell ⟨w.heap.size + 2, 0, none⟩ (.int .i64 0)).setCell ⟨w.heap.size + 2, 1, none⟩ (.int .i64 0)).setCell ⟨w.heap.size + 2, 2, none⟩ (.int .i64 0)).setCell ⟨w.heap.size + 2, 3, none⟩ (.int .i64 0)).setCell ⟨w.heap.size + 2, 4, none⟩ (.int .i64 0)).setCell ⟨w.heap.size + 2, 5, none⟩ (.int .i64 0)).setCell ⟨w.heap.size + 2, 6, none⟩ (.int .i64 0)).setCell ⟨w.heap.size + 2, 7, none⟩ (.int .i64 0) = V4 := ⟨_, rfl⟩
  rw [hV4] at BB Tj To Tq Ta Fo Fq ⊢
  clear hV4
  have o0 := To 0 _ rfl
  have fo0 := Fo.1 0
  have o1 := To 1 _ rfl
  have fo1 := Fo.1 1
  have o2 := To 2 _ rfl
  have fo2 := Fo.1 2
  have o3 := To 3 _ rfl
  have fo3 := Fo.1 3
  have o4 := To 4 _ rfl
  have fo4 := Fo.1 4
  have q0 := Tq 0 _ rfl
  have fq0 := Fq.1 0
  have q1 := Tq 1 _ rfl
  have fq1 := Fq.1 1
  have q2 := Tq 2 _ rfl
  have fq2 := Fq.1 2
  have q3 := Tq 3 _ rfl
  have fq3 := Fq.1 3
  have q4 := Tq 4 _ rfl
  have fq4 := Fq.1 4
  have q5 := Tq 5 _ rfl
  have fq5 := Fq.1 5
  have q6 := Tq 6 _ rfl
  have fq6 := Fq.1 6
  have q7 := Tq 7 _ rfl
  have fq7 := Fq.1 7
  refine bodyPost_ret (v := .tuple #[zJn.v, zWd.v, .int .i64 1]) (by simp [results, Tryd.results22, go_sem, o0, o1, o2, o3, o4, q0, q1, q2, q3, q4, q5, q6, q7]) rfl ⟨rfl, BB⟩
set_option maxRecDepth 100000 in
set_option maxHeartbeats 4000000 in
theorem ask_r7 (t m b s f : Int) (w : World) (h0 : triesB t = true) (h1 : nodeB m = true) (h2 : nodeB s = true) (h3 : (m == s) = false) (h4 : ¬ b < 0) (h5 : ¬ 1000000 < b) (h6 : ¬ f < 0) (h7 : 1000000000 < f) :
    Calls Tryd.prog 22 #[(⟨0, -1, 0, 0, t⟩ : Jn).v, .int .i64 m, .int .i64 b, .int .i64 s, .int .i64 f] w (Ans (.tuple #[zJn.v, zWd.v, .int .i64 1]) w) := by
  have H0 := Lib.hid h0; clear h0
  have H1 := Lib.hid h1; clear h1
  have H2 := Lib.hid h2; clear h2
  go_enter Tryd.func22, Tryd.ntmps22
  go_wp2_with fail
  have Tj := CAt.new (w) [.int .i64 0, .int .i64 (-1), .int .i64 0, .int .i64 0, .int .i64 t] 28
  have BB : Below w.heap.size w ((w).alloc (.cells #[.int .i64 0, .int .i64 (-1), .int .i64 0, .int .i64 0, .int .i64 t] 28)) := ball (Below.refl _ _) _
  have To := CAt.new (w.alloc (.cells #[.int .i64 0, .int .i64 (-1), .int .i64 0, .int .i64 0, .int .i64 t] 28)) [.int .i64 0, .int .i64 0, .int .i64 0, .int .i64 0, .int .i64 0] 28
  have Fo := Fz.new (w.alloc (.cells #[.int .i64 0, .int .i64 (-1), .int .i64 0, .int .i64 0, .int .i64 t] 28)) #[.int .i64 0, .int .i64 0, .int .i64 0, .int .i64 0, .int .i64 0] 28
  replace Tj := Tj.alloc (.cells #[.int .i64 0, .int .i64 0, .int .i64 0, .int .i64 0, .int .i64 0] 28)
  replace BB := ball BB (.cells #[.int .i64 0, .int .i64 0, .int .i64 0, .int .i64 0, .int .i64 0] 28)
  have Tq := CAt.new ((w.alloc (.cells #[.int .i64 0, .int .i64 (-1), .int .i64 0, .int .i64 0, .int .i64 t] 28)).alloc (.cells #[.int .i64 0, .int .i64 0, .int .i64 0, .int .i64 0, .int .i64 0] 28)) [.int .i64 0, .int .i64 0, .int .i64 0, .int .i64 0, .int .i64 0, .int .i64 0, .int .i64 0, .int .i64 0] 43
  have Fq := Fz.new ((w.alloc (.cells #[.int .i64 0, .int .i64 (-1), .int .i64 0, .int .i64 0, .int .i64 t] 28)).alloc (.cells #[.int .i64 0, .int .i64 0, .int .i64 0, .int .i64 0, .int .i64 0] 28)) #[.int .i64 0, .int .i64 0, .int .i64 0, .int .i64 0, .int .i64 0, .int .i64 0, .int .i64 0, .int .i64 0] 43
  replace Tj := Tj.alloc (.cells #[.int .i64 0, .int .i64 0, .int .i64 0, .int .i64 0, .int .i64 0, .int .i64 0, .int .i64 0, .int .i64 0] 43)
  replace To := To.alloc (.cells #[.int .i64 0, .int .i64 0, .int .i64 0, .int .i64 0, .int .i64 0, .int .i64 0, .int .i64 0, .int .i64 0] 43)
  replace Fo := Fo.alloc (.cells #[.int .i64 0, .int .i64 0, .int .i64 0, .int .i64 0, .int .i64 0, .int .i64 0, .int .i64 0, .int .i64 0] 43)
  replace BB := ball BB (.cells #[.int .i64 0, .int .i64 0, .int .i64 0, .int .i64 0, .int .i64 0, .int .i64 0, .int .i64 0, .int .i64 0] 43)
  have Ta := CAt.new (((w.alloc (.cells #[.int .i64 0, .int .i64 (-1), .int .i64 0, .int .i64 0, .int .i64 t] 28)).alloc (.cells #[.int .i64 0, .int .i64 0, .int .i64 0, .int .i64 0, .int .i64 0] 28)).alloc (.cells #[.int .i64 0, .int .i64 0, .int .i64 0, .int .i64 0, .int .i64 0, .int .i64 0, .int .i64 0, .int .i64 0] 43)) [.int .i64 0, .int .i64 (-1), .int .i64 0, .int .i64 0, .int .i64 t] 97
  replace Tj := Tj.alloc (.cells #[.int .i64 0, .int .i64 (-1), .int .i64 0, .int .i64 0, .int .i64 t] 97)
  replace To := To.alloc (.cells #[.int .i64 0, .int .i64 (-1), .int .i64 0, .int .i64 0, .int .i64 t] 97)
  replace Tq := Tq.alloc (.cells #[.int .i64 0, .int .i64 (-1), .int .i64 0, .int .i64 0, .int .i64 t] 97)
  replace Fo := Fo.alloc (.cells #[.int .i64 0, .int .i64 (-1), .int .i64 0, .int .i64 0, .int .i64 t] 97)
  replace Fq := Fq.alloc (.cells #[.int .i64 0, .int .i64 (-1), .int .i64 0, .int .i64 0, .int .i64 t] 97)
  replace BB := ball BB (.cells #[.int .i64 0, .int .i64 (-1), .int .i64 0, .int .i64 0, .int .i64 t] 97)
  simp only [World.size_alloc, Nat.add_assoc, Nat.reduceAdd] at To Fo Tq Fq Ta
  obtain ⟨V1, hV1⟩ : ∃ V1, (((w.alloc (.cells #[.int .i64 0, .int .i64 (-1), .int .i64 0, .int .i64 0, .int .i64 t] 28)).alloc (.cells #[.int .i64 0, .int .i64 0, .int .i64 0, .int .i64 0, .int .i64 0] 28)).alloc (.cells #[.int .i64 0, .int .i64 0, .int .i64 0, .int .i64 0, .int .i64 0, .int .i64 0, .int .i64 0, .int .i64 0] 43)).alloc (.cells #[.int .i64 0, .int .i64 (-1), .int .i64 0, .int .i64 0, .int .i64 t] 97) = V1 := ⟨_, rfl⟩
  rw [hV1] at BB Tj To Tq Ta Fo Fq ⊢
  clear hV1
  have a0 := Ta 0 _ rfl
  have a1 := Ta 1 _ rfl
  have a2 := Ta 2 _ rfl
  have a3 := Ta 3 _ rfl
  have a4 := Ta 4 _ rfl
  simp only [Nat.add_assoc, Nat.reduceAdd]
  go_wp2_with fail
  refine (jvalid_at ⟨0, -1, 0, 0, t⟩ _ true V1 (fresh_ok t) H0.out Ta).mono ?_
  clear a0 a1 a2 a3 a4
  rintro e w2 ⟨rfl, b2⟩
  replace Tj := Tj.keep b2
  replace To := To.keep b2
  replace Tq := Tq.keep b2
  replace Ta := Ta.keep b2
  replace Fo := Fo.keep b2
  replace Fq := Fq.keep b2
  replace BB := bstep BB b2
  clear b2
  have a0 := Ta 0 _ rfl
  have a1 := Ta 1 _ rfl
  have a2 := Ta 2 _ rfl
  have a3 := Ta 3 _ rfl
  have a4 := Ta 4 _ rfl
  have o0 := To 0 _ rfl
  have fo0 := Fo.1 0
  have o1 := To 1 _ rfl
  have fo1 := Fo.1 1
  have o2 := To 2 _ rfl
  have fo2 := Fo.1 2
  have o3 := To 3 _ rfl
  have fo3 := Fo.1 3
  have o4 := To 4 _ rfl
  have fo4 := Fo.1 4
  have q0 := Tq 0 _ rfl
  have fq0 := Fq.1 0
  have q1 := Tq 1 _ rfl
  have fq1 := Fq.1 1
  have q2 := Tq 2 _ rfl
  have fq2 := Fq.1 2
  have q3 := Tq 3 _ rfl
  have fq3 := Fq.1 3
  have q4 := Tq 4 _ rfl
  have fq4 := Fq.1 4
  have q5 := Tq 5 _ rfl
  have fq5 := Fq.1 5
  have q6 := Tq 6 _ rfl
  have fq6 := Fq.1 6
  have q7 := Tq 7 _ rfl
  have fq7 := Fq.1 7
  go_wp2_with fail
  refine (node_at m true _ H1.out).mono ?_
  rintro e w' ⟨rfl, rfl⟩
  go_wp2_with fail
  refine (node_at s true _ H2.out).mono ?_
  rintro e w' ⟨rfl, rfl⟩
  go_wp2_with fail
  clear a0 a1 a2 a3 a4 o0 fo0 o1 fo1 o2 fo2 o3 fo3 o4 fo4 q0 fq0 q1 fq1 q2 fq2 q3 fq3 q4 fq4 q5 fq5 q6 fq6 q7 fq7
  replace To := To.set 0 (.int .i64 0) (by simp)
  replace Tj := Tj.other (k' := w.heap.size + 1) (by omega) 0 (.int .i64 0)
  replace Tq := Tq.other (k' := w.heap.size + 1) (by omega) 0 (.int .i64 0)
  replace Ta := Ta.other (k' := w.heap.size + 1) (by omega) 0 (.int .i64 0)
  replace Fo := Fo.set ⟨w.heap.size + 1, 0, none⟩ (.int .i64 0)
  replace Fq := Fq.set ⟨w.heap.size + 1, 0, none⟩ (.int .i64 0)
  replace BB := BB.setCell (p := ⟨w.heap.size + 1, 0, none⟩) (by first | exact Nat.le_refl _ | (simp only; omega)) (.int .i64 0)
  replace To := To.set 1 (.int .i64 0) (by simp)
  replace Tj := Tj.other (k' := w.heap.size + 1) (by omega) 1 (.int .i64 0)
  replace Tq := Tq.other (k' := w.heap.size + 1) (by omega) 1 (.int .i64 0)
  replace Ta := Ta.other (k' := w.heap.size + 1) (by omega) 1 (.int .i64 0)
  replace Fo := Fo.set ⟨w.heap.size + 1, 1, none⟩ (.int .i64 0)
  replace Fq := Fq.set ⟨w.heap.size + 1, 1, none⟩ (.int .i64 0)
  replace BB := BB.setCell (p := ⟨w.heap.size + 1, 1, none⟩) (by first | exact Nat.le_refl _ | (simp only; omega)) (.int .i64 0)
  replace To := To.set 2 (.int .i64 0) (by simp)
  replace Tj := Tj.other (k' := w.heap.size + 1) (by omega) 2 (.int .i64 0)
  replace Tq := Tq.other (k' := w.heap.size + 1) (by omega) 2 (.int .i64 0)
  replace Ta := Ta.other (k' := w.heap.size + 1) (by omega) 2 (.int .i64 0)
  replace Fo := Fo.set ⟨w.heap.size + 1, 2, none⟩ (.int .i64 0)
  replace Fq := Fq.set ⟨w.heap.size + 1, 2, none⟩ (.int .i64 0)
  replace BB := BB.setCell (p := ⟨w.heap.size + 1, 2, none⟩) (by first | exact Nat.le_refl _ | (simp only; omega)) (.int .i64 0)
  replace To := To.set 3 (.int .i64 0) (by simp)
  replace Tj := Tj.other (k' := w.heap.size + 1) (by omega) 3 (.int .i64 0)
  replace Tq := Tq.other (k' := w.heap.size + 1) (by omega) 3 (.int .i64 0)
  replace Ta := Ta.other (k' := w.heap.size + 1) (by omega) 3 (.int .i64 0)
  replace Fo := Fo.set ⟨w.heap.size + 1, 3, none⟩ (.int .i64 0)
  replace Fq := Fq.set ⟨w.heap.size + 1, 3, none⟩ (.int .i64 0)
  replace BB := BB.setCell (p := ⟨w.heap.size + 1, 3, none⟩) (by first | exact Nat.le_refl _ | (simp only; omega)) (.int .i64 0)
  replace To := To.set 4 (.int .i64 0) (by simp)
  replace Tj := Tj.other (k' := w.heap.size + 1) (by omega) 4 (.int .i64 0)
  replace Tq := Tq.other (k' := w.heap.size + 1) (by omega) 4 (.int .i64 0)
  replace Ta := Ta.other (k' := w.heap.size + 1) (by omega) 4 (.int .i64 0)
  replace Fo := Fo.set ⟨w.heap.size + 1, 4, none⟩ (.int .i64 0)
  replace Fq := Fq.set ⟨w.heap.size + 1, 4, none⟩ (.int .i64 0)
  replace BB := BB.setCell (p := ⟨w.heap.size + 1, 4, none⟩) (by first | exact Nat.le_refl _ | (simp only; omega)) (.int .i64 0)
  obtain ⟨V3, hV3⟩ : ∃ V3, ((((w2.setCell ⟨w.heap.size + 1, 0, none⟩ (.int .i64 0)).setCell ⟨w.heap.size + 1, 1, none⟩ (.int .i64 0)).setCell ⟨w.heap.size + 1, 2, none⟩ (.int .i64 0)).setCell ⟨w.heap.size + 1, 3, none⟩ (.int .i64 0)).setCell ⟨w.heap.size + 1, 4, none⟩ (.int .i64 0) = V3 := ⟨_, rfl⟩
  rw [hV3] at BB Tj To Tq Ta Fo Fq ⊢
  clear hV3
  replace Tq := Tq.set 0 (.int .i64 0) (by simp)
  replace Tj := Tj.other (k' := w.heap.size + 2) (by omega) 0 (.int .i64 0)
  replace To := To.other (k' := w.heap.size + 2) (by omega) 0 (.int .i64 0)
  replace Ta := Ta.other (k' := w.heap.size + 2) (by omega) 0 (.int .i64 0)
  replace Fo := Fo.set ⟨w.heap.size + 2, 0, none⟩ (.int .i64 0)
  replace Fq := Fq.set ⟨w.heap.size + 2, 0, none⟩ (.int .i64 0)
  replace BB := BB.setCell (p := ⟨w.heap.size + 2, 0, none⟩) (by first | exact Nat.le_refl _ | (simp only; omega)) (.int .i64 0)
  replace Tq := Tq.set 1 (.int .i64 0) (by simp)
  replace Tj := Tj.other (k' := w.heap.size + 2) (by omega) 1 (.int .i64 0)
  replace To := To.other (k' := w.heap.size + 2) (by omega) 1 (.int .i64 0)
  replace Ta := Ta.other (k' := w.heap.size + 2) (by omega) 1 (.int .i64 0)
  replace Fo := Fo.set ⟨w.heap.size + 2, 1, none⟩ (.int .i64 0)
  replace Fq := Fq.set ⟨w.heap.size + 2, 1, none⟩ (.int .i64 0)
  replace BB := BB.setCell (p := ⟨w.heap.size + 2, 1, none⟩) (by first | exact Nat.le_refl _ | (simp only; omega)) (.int .i64 0)
  replace Tq := Tq.set 2 (.int .i64 0) (by simp)
  replace Tj := Tj.other (k' := w.heap.size + 2) (by omega) 2 (.int .i64 0)
  replace To := To.other (k' := w.heap.size + 2) (by omega) 2 (.int .i64 0)
  replace Ta := Ta.other (k' := w.heap.size + 2) (by omega) 2 (.int .i64 0)
  replace Fo := Fo.set ⟨w.heap.size + 2, 2, none⟩ (.int .i64 0)
  replace Fq := Fq.set ⟨w.heap.size + 2, 2, none⟩ (.int .i64 0)
  replace BB := BB.setCell (p := ⟨w.heap.size + 2, 2, none⟩) (by first | exact Nat.le_refl _ | (simp only; omega)) (.int .i64 0)
  replace Tq := Tq.set 3 (.int .i64 0) (by simp)
  replace Tj := Tj.other (k' := w.heap.size + 2) (by omega) 3 (.int .i64 0)
  replace To := To.other (k' := w.heap.size + 2) (by omega) 3 (.int .i64 0)
  replace Ta := Ta.other (k' := w.heap.size + 2) (by omega) 3 (.int .i64 0)
  replace Fo := Fo.set ⟨w.heap.size + 2, 3, none⟩ (.int .i64 0)
  replace Fq := Fq.set ⟨w.heap.size + 2, 3, none⟩ (.int .i64 0)
  replace BB := BB.setCell (p := ⟨w.heap.size + 2, 3, none⟩) (by first | exact Nat.le_refl _ | (simp only; omega)) (.int .i64 0)
  replace Tq := Tq.set 4 (.int .i64 0) (by simp)
  replace Tj := Tj.other (k' := w.heap.size + 2) (by omega) 4 (.int .i64 0)
  replace To := To.other (k' := w.heap.size + 2) (by omega) 4 (.int .i64 0)
  replace Ta := Ta.other (k' := w.heap.size + 2) (by omega) 4 (.int .i64 0)
  replace Fo := Fo.set ⟨w.heap.size + 2, 4, none⟩ (.int .i64 0)
  replace Fq := Fq.set ⟨w.heap.size + 2, 4, none⟩ (.int .i64 0)
  replace BB := BB.setCell (p := ⟨w.heap.size + 2, 4, none⟩) (by first | exact Nat.le_refl _ | (simp only; omega)) (.int .i64 0)
  replace Tq := Tq.set 5 (.int .i64 0) (by simp)
  replace Tj := Tj.other (k' := w.heap.size + 2) (by omega) 5 (.int .i64 0)
  replace To := To.other (k' := w.heap.size + 2) (by omega) 5 (.int .i64 0)
  replace Ta := Ta.other (k' := w.heap.size + 2) (by omega) 5 (.int .i64 0)
  replace Fo := Fo.set ⟨w.heap.size + 2, 5, none⟩ (.int .i64 0)
  replace Fq := Fq.set ⟨w.heap.size + 2, 5, none⟩ (.int .i64 0)
  replace BB := BB.setCell (p := ⟨w.heap.size + 2, 5, none⟩) (by first | exact Nat.le_refl _ | (simp only; omega)) (.int .i64 0)
  replace Tq := Tq.set 6 (.int .i64 0) (by simp)
  replace Tj := Tj.other (k' := w.heap.size + 2) (by omega) 6 (.int .i64 0)
  replace To := To.other (k' := w.heap.size + 2) (by omega) 6 (.int .i64 0)
  replace Ta := Ta.other (k' := w.heap.size + 2) (by omega) 6 (.int .i64 0)
  replace Fo := Fo.set ⟨w.heap.size + 2, 6, none⟩ (.int .i64 0)
  replace Fq := Fq.set ⟨w.heap.size + 2, 6, none⟩ (.int .i64 0)
  replace BB := BB.setCell (p := ⟨w.heap.size + 2, 6, none⟩) (by first | exact Nat.le_refl _ | (simp only; omega)) (.int .i64 0)
  replace Tq := Tq.set 7 (.int .i64 0) (by simp)
  replace Tj := Tj.other (k' := w.heap.size + 2) (by omega) 7 (.int .i64 0)
  replace To := To.other (k' := w.heap.size + 2) (by omega) 7 (.int .i64 0)
  replace Ta := Ta.other (k' := w.heap.size + 2) (by omega) 7 (.int .i64 0)
  replace Fo := Fo.set ⟨w.heap.size + 2, 7, none⟩ (.int .i64 0)
  replace Fq := Fq.set ⟨w.heap.size + 2, 7, none⟩ (.int .i64 0)
  replace BB := BB.setCell (p := ⟨w.heap.size + 2, 7, none⟩) (by first | exact Nat.le_refl _ | (simp only; omega)) (.int .i64 0)
  obtain ⟨V4, hV4⟩ : ∃ V4, (((((((V3.setCell ⟨w.heap.size + 2, 0, none⟩ (.int .i64 0)).setCell ⟨w.heap.size + 2, 1, none⟩ (.int .i64 0)).setCell ⟨w.heap.size + 2, 2, none⟩ (.int .i64 0)).setCell ⟨w.heap.size + 2, 3, none⟩ (.int .i64 0)).setCell ⟨w.heap.size + 2, 4, none⟩ (.int .i64 0)).setCell ⟨w.heap.size + 2, 5, none⟩ (.int .i64 0)).setCell ⟨w.heap.size + 2, 6, none⟩ (.int .i64 0)).setCell ⟨w.heap.size + 2, 7, none⟩ (.int .i64 0) = V4 := ⟨_, rfl⟩
  rw [hV4] at BB Tj To Tq Ta Fo Fq ⊢
  clear hV4
  have o0 := To 0 _ rfl
  have fo0 := Fo.1 0
  have o1 := To 1 _ rfl
  have fo1 := Fo.1 1
  have o2 := To 2 _ rfl
  have fo2 := Fo.1 2
  have o3 := To 3 _ rfl
  have fo3 := Fo.1 3
  have o4 := To 4 _ rfl
  have fo4 := Fo.1 4
  have q0 := Tq 0 _ rfl
  have fq0 := Fq.1 0
  have q1 := Tq 1 _ rfl
  have fq1 := Fq.1 1
  have q2 := Tq 2 _ rfl
  have fq2 := Fq.1 2
  have q3 := Tq 3 _ rfl
  have fq3 := Fq.1 3
  have q4 := Tq 4 _ rfl
  have fq4 := Fq.1 4
  have q5 := Tq 5 _ rfl
  have fq5 := Fq.1 5
  have q6 := Tq 6 _ rfl
  have fq6 := Fq.1 6
  have q7 := Tq 7 _ rfl
  have fq7 := Fq.1 7
  refine bodyPost_ret (v := .tuple #[zJn.v, zWd.v, .int .i64 1]) (by simp [results, Tryd.results22, go_sem, o0, o1, o2, o3, o4, q0, q1, q2, q3, q4, q5, q6, q7]) rfl ⟨rfl, BB⟩
set_option maxRecDepth 100000 in
set_option maxHeartbeats 4000000 in
theorem ask_r8 (t m b s f : Int) (w : World) (h0 : triesB t = true) (h1 : nodeB m = true) (h2 : nodeB s = true) (h3 : (m == s) = false) (h4 : ¬ b < 0) (h5 : ¬ 1000000 < b) (h6 : ¬ f < 0) (h7 : ¬ 1000000000 < f) (h8 : (t == 255) = true) :
    Calls Tryd.prog 22 #[(⟨0, -1, 0, 0, t⟩ : Jn).v, .int .i64 m, .int .i64 b, .int .i64 s, .int .i64 f] w (Ans (.tuple #[zJn.v, zWd.v, .int .i64 2]) w) := by
  have H0 := Lib.hid h0; clear h0
  have H1 := Lib.hid h1; clear h1
  have H2 := Lib.hid h2; clear h2
  go_enter Tryd.func22, Tryd.ntmps22
  go_wp2_with fail
  have Tj := CAt.new (w) [.int .i64 0, .int .i64 (-1), .int .i64 0, .int .i64 0, .int .i64 t] 28
  have BB : Below w.heap.size w ((w).alloc (.cells #[.int .i64 0, .int .i64 (-1), .int .i64 0, .int .i64 0, .int .i64 t] 28)) := ball (Below.refl _ _) _
  have To := CAt.new (w.alloc (.cells #[.int .i64 0, .int .i64 (-1), .int .i64 0, .int .i64 0, .int .i64 t] 28)) [.int .i64 0, .int .i64 0, .int .i64 0, .int .i64 0, .int .i64 0] 28
  have Fo := Fz.new (w.alloc (.cells #[.int .i64 0, .int .i64 (-1), .int .i64 0, .int .i64 0, .int .i64 t] 28)) #[.int .i64 0, .int .i64 0, .int .i64 0, .int .i64 0, .int .i64 0] 28
  replace Tj := Tj.alloc (.cells #[.int .i64 0, .int .i64 0, .int .i64 0, .int .i64 0, .int .i64 0] 28)
  replace BB := ball BB (.cells #[.int .i64 0, .int .i64 0, .int .i64 0, .int .i64 0, .int .i64 0] 28)
  have Tq := CAt.new ((w.alloc (.cells #[.int .i64 0, .int .i64 (-1), .int .i64 0, .int .i64 0, .int .i64 t] 28)).alloc (.cells #[.int .i64 0, .int .i64 0, .int .i64 0, .int .i64 0, .int .i64 0] 28)) [.int .i64 0, .int .i64 0, .int .i64 0, .int .i64 0, .int .i64 0, .int .i64 0, .int .i64 0, .int .i64 0] 43
  have Fq := Fz.new ((w.alloc (.cells #[.int .i64 0, .int .i64 (-1), .int .i64 0, .int .i64 0, .int .i64 t] 28)).alloc (.cells #[.int .i64 0, .int .i64 0, .int .i64 0, .int .i64 0, .int .i64 0] 28)) #[.int .i64 0, .int .i64 0, .int .i64 0, .int .i64 0, .int .i64 0, .int .i64 0, .int .i64 0, .int .i64 0] 43
  replace Tj := Tj.alloc (.cells #[.int .i64 0, .int .i64 0, .int .i64 0, .int .i64 0, .int .i64 0, .int .i64 0, .int .i64 0, .int .i64 0] 43)
  replace To := To.alloc (.cells #[.int .i64 0, .int .i64 0, .int .i64 0, .int .i64 0, .int .i64 0, .int .i64 0, .int .i64 0, .int .i64 0] 43)
  replace Fo := Fo.alloc (.cells #[.int .i64 0, .int .i64 0, .int .i64 0, .int .i64 0, .int .i64 0, .int .i64 0, .int .i64 0, .int .i64 0] 43)
  replace BB := ball BB (.cells #[.int .i64 0, .int .i64 0, .int .i64 0, .int .i64 0, .int .i64 0, .int .i64 0, .int .i64 0, .int .i64 0] 43)
  have Ta := CAt.new (((w.alloc (.cells #[.int .i64 0, .int .i64 (-1), .int .i64 0, .int .i64 0, .int .i64 t] 28)).alloc (.cells #[.int .i64 0, .int .i64 0, .int .i64 0, .int .i64 0, .int .i64 0] 28)).alloc (.cells #[.int .i64 0, .int .i64 0, .int .i64 0, .int .i64 0, .int .i64 0, .int .i64 0, .int .i64 0, .int .i64 0] 43)) [.int .i64 0, .int .i64 (-1), .int .i64 0, .int .i64 0, .int .i64 t] 97
  replace Tj := Tj.alloc (.cells #[.int .i64 0, .int .i64 (-1), .int .i64 0, .int .i64 0, .int .i64 t] 97)
  replace To := To.alloc (.cells #[.int .i64 0, .int .i64 (-1), .int .i64 0, .int .i64 0, .int .i64 t] 97)
  replace Tq := Tq.alloc (.cells #[.int .i64 0, .int .i64 (-1), .int .i64 0, .int .i64 0, .int .i64 t] 97)
  replace Fo := Fo.alloc (.cells #[.int .i64 0, .int .i64 (-1), .int .i64 0, .int .i64 0, .int .i64 t] 97)
  replace Fq := Fq.alloc (.cells #[.int .i64 0, .int .i64 (-1), .int .i64 0, .int .i64 0, .int .i64 t] 97)
  replace BB := ball BB (.cells #[.int .i64 0, .int .i64 (-1), .int .i64 0, .int .i64 0, .int .i64 t] 97)
  simp only [World.size_alloc, Nat.add_assoc, Nat.reduceAdd] at To Fo Tq Fq Ta
  obtain ⟨V1, hV1⟩ : ∃ V1, (((w.alloc (.cells #[.int .i64 0, .int .i64 (-1), .int .i64 0, .int .i64 0, .int .i64 t] 28)).alloc (.cells #[.int .i64 0, .int .i64 0, .int .i64 0, .int .i64 0, .int .i64 0] 28)).alloc (.cells #[.int .i64 0, .int .i64 0, .int .i64 0, .int .i64 0, .int .i64 0, .int .i64 0, .int .i64 0, .int .i64 0] 43)).alloc (.cells #[.int .i64 0, .int .i64 (-1), .int .i64 0, .int .i64 0, .int .i64 t] 97) = V1 := ⟨_, rfl⟩
  rw [hV1] at BB Tj To Tq Ta Fo Fq ⊢
  clear hV1
  have a0 := Ta 0 _ rfl
  have a1 := Ta 1 _ rfl
  have a2 := Ta 2 _ rfl
  have a3 := Ta 3 _ rfl
  have a4 := Ta 4 _ rfl
  simp only [Nat.add_assoc, Nat.reduceAdd]
  go_wp2_with fail
  refine (jvalid_at ⟨0, -1, 0, 0, t⟩ _ true V1 (fresh_ok t) H0.out Ta).mono ?_
  clear a0 a1 a2 a3 a4
  rintro e w2 ⟨rfl, b2⟩
  replace Tj := Tj.keep b2
  replace To := To.keep b2
  replace Tq := Tq.keep b2
  replace Ta := Ta.keep b2
  replace Fo := Fo.keep b2
  replace Fq := Fq.keep b2
  replace BB := bstep BB b2
  clear b2
  have a0 := Ta 0 _ rfl
  have a1 := Ta 1 _ rfl
  have a2 := Ta 2 _ rfl
  have a3 := Ta 3 _ rfl
  have a4 := Ta 4 _ rfl
  have o0 := To 0 _ rfl
  have fo0 := Fo.1 0
  have o1 := To 1 _ rfl
  have fo1 := Fo.1 1
  have o2 := To 2 _ rfl
  have fo2 := Fo.1 2
  have o3 := To 3 _ rfl
  have fo3 := Fo.1 3
  have o4 := To 4 _ rfl
  have fo4 := Fo.1 4
  have q0 := Tq 0 _ rfl
  have fq0 := Fq.1 0
  have q1 := Tq 1 _ rfl
  have fq1 := Fq.1 1
  have q2 := Tq 2 _ rfl
  have fq2 := Fq.1 2
  have q3 := Tq 3 _ rfl
  have fq3 := Fq.1 3
  have q4 := Tq 4 _ rfl
  have fq4 := Fq.1 4
  have q5 := Tq 5 _ rfl
  have fq5 := Fq.1 5
  have q6 := Tq 6 _ rfl
  have fq6 := Fq.1 6
  have q7 := Tq 7 _ rfl
  have fq7 := Fq.1 7
  go_wp2_with fail
  refine (node_at m true _ H1.out).mono ?_
  rintro e w' ⟨rfl, rfl⟩
  go_wp2_with fail
  refine (node_at s true _ H2.out).mono ?_
  rintro e w' ⟨rfl, rfl⟩
  go_wp2_with fail
  clear a0 a1 a2 a3 a4 o0 fo0 o1 fo1 o2 fo2 o3 fo3 o4 fo4 q0 fq0 q1 fq1 q2 fq2 q3 fq3 q4 fq4 q5 fq5 q6 fq6 q7 fq7
  replace To := To.set 0 (.int .i64 0) (by simp)
  replace Tj := Tj.other (k' := w.heap.size + 1) (by omega) 0 (.int .i64 0)
  replace Tq := Tq.other (k' := w.heap.size + 1) (by omega) 0 (.int .i64 0)
  replace Ta := Ta.other (k' := w.heap.size + 1) (by omega) 0 (.int .i64 0)
  replace Fo := Fo.set ⟨w.heap.size + 1, 0, none⟩ (.int .i64 0)
  replace Fq := Fq.set ⟨w.heap.size + 1, 0, none⟩ (.int .i64 0)
  replace BB := BB.setCell (p := ⟨w.heap.size + 1, 0, none⟩) (by first | exact Nat.le_refl _ | (simp only; omega)) (.int .i64 0)
  replace To := To.set 1 (.int .i64 0) (by simp)
  replace Tj := Tj.other (k' := w.heap.size + 1) (by omega) 1 (.int .i64 0)
  replace Tq := Tq.other (k' := w.heap.size + 1) (by omega) 1 (.int .i64 0)
  replace Ta := Ta.other (k' := w.heap.size + 1) (by omega) 1 (.int .i64 0)
  replace Fo := Fo.set ⟨w.heap.size + 1, 1, none⟩ (.int .i64 0)
  replace Fq := Fq.set ⟨w.heap.size + 1, 1, none⟩ (.int .i64 0)
  replace BB := BB.setCell (p := ⟨w.heap.size + 1, 1, none⟩) (by first | exact Nat.le_refl _ | (simp only; omega)) (.int .i64 0)
  replace To := To.set 2 (.int .i64 0) (by simp)
  replace Tj := Tj.other (k' := w.heap.size + 1) (by omega) 2 (.int .i64 0)
  replace Tq := Tq.other (k' := w.heap.size + 1) (by omega) 2 (.int .i64 0)
  replace Ta := Ta.other (k' := w.heap.size + 1) (by omega) 2 (.int .i64 0)
  replace Fo := Fo.set ⟨w.heap.size + 1, 2, none⟩ (.int .i64 0)
  replace Fq := Fq.set ⟨w.heap.size + 1, 2, none⟩ (.int .i64 0)
  replace BB := BB.setCell (p := ⟨w.heap.size + 1, 2, none⟩) (by first | exact Nat.le_refl _ | (simp only; omega)) (.int .i64 0)
  replace To := To.set 3 (.int .i64 0) (by simp)
  replace Tj := Tj.other (k' := w.heap.size + 1) (by omega) 3 (.int .i64 0)
  replace Tq := Tq.other (k' := w.heap.size + 1) (by omega) 3 (.int .i64 0)
  replace Ta := Ta.other (k' := w.heap.size + 1) (by omega) 3 (.int .i64 0)
  replace Fo := Fo.set ⟨w.heap.size + 1, 3, none⟩ (.int .i64 0)
  replace Fq := Fq.set ⟨w.heap.size + 1, 3, none⟩ (.int .i64 0)
  replace BB := BB.setCell (p := ⟨w.heap.size + 1, 3, none⟩) (by first | exact Nat.le_refl _ | (simp only; omega)) (.int .i64 0)
  replace To := To.set 4 (.int .i64 0) (by simp)
  replace Tj := Tj.other (k' := w.heap.size + 1) (by omega) 4 (.int .i64 0)
  replace Tq := Tq.other (k' := w.heap.size + 1) (by omega) 4 (.int .i64 0)
  replace Ta := Ta.other (k' := w.heap.size + 1) (by omega) 4 (.int .i64 0)
  replace Fo := Fo.set ⟨w.heap.size + 1, 4, none⟩ (.int .i64 0)
  replace Fq := Fq.set ⟨w.heap.size + 1, 4, none⟩ (.int .i64 0)
  replace BB := BB.setCell (p := ⟨w.heap.size + 1, 4, none⟩) (by first | exact Nat.le_refl _ | (simp only; omega)) (.int .i64 0)
  obtain ⟨V3, hV3⟩ : ∃ V3, ((((w2.setCell ⟨w.heap.size + 1, 0, none⟩ (.int .i64 0)).setCell ⟨w.heap.size + 1, 1, none⟩ (.int .i64 0)).setCell ⟨w.heap.size + 1, 2, none⟩ (.int .i64 0)).setCell ⟨w.heap.size + 1, 3, none⟩ (.int .i64 0)).setCell ⟨w.heap.size + 1, 4, none⟩ (.int .i64 0) = V3 := ⟨_, rfl⟩
  rw [hV3] at BB Tj To Tq Ta Fo Fq ⊢
  clear hV3
  replace Tq := Tq.set 0 (.int .i64 0) (by simp)
  replace Tj := Tj.other (k' := w.heap.size + 2) (by omega) 0 (.int .i64 0)
  replace To := To.other (k' := w.heap.size + 2) (by omega) 0 (.int .i64 0)
  replace Ta := Ta.other (k' := w.heap.size + 2) (by omega) 0 (.int .i64 0)
  replace Fo := Fo.set ⟨w.heap.size + 2, 0, none⟩ (.int .i64 0)
  replace Fq := Fq.set ⟨w.heap.size + 2, 0, none⟩ (.int .i64 0)
  replace BB := BB.setCell (p := ⟨w.heap.size + 2, 0, none⟩) (by first | exact Nat.le_refl _ | (simp only; omega)) (.int .i64 0)
  replace Tq := Tq.set 1 (.int .i64 0) (by simp)
  replace Tj := Tj.other (k' := w.heap.size + 2) (by omega) 1 (.int .i64 0)
  replace To := To.other (k' := w.heap.size + 2) (by omega) 1 (.int .i64 0)
  replace Ta := Ta.other (k' := w.heap.size + 2) (by omega) 1 (.int .i64 0)
  replace Fo := Fo.set ⟨w.heap.size + 2, 1, none⟩ (.int .i64 0)
  replace Fq := Fq.set ⟨w.heap.size + 2, 1, none⟩ (.int .i64 0)
  replace BB := BB.setCell (p := ⟨w.heap.size + 2, 1, none⟩) (by first | exact Nat.le_refl _ | (simp only; omega)) (.int .i64 0)
  replace Tq := Tq.set 2 (.int .i64 0) (by simp)
  replace Tj := Tj.other (k' := w.heap.size + 2) (by omega) 2 (.int .i64 0)
  replace To := To.other (k' := w.heap.size + 2) (by omega) 2 (.int .i64 0)
  replace Ta := Ta.other (k' := w.heap.size + 2) (by omega) 2 (.int .i64 0)
  replace Fo := Fo.set ⟨w.heap.size + 2, 2, none⟩ (.int .i64 0)
  replace Fq := Fq.set ⟨w.heap.size + 2, 2, none⟩ (.int .i64 0)
  replace BB := BB.setCell (p := ⟨w.heap.size + 2, 2, none⟩) (by first | exact Nat.le_refl _ | (simp only; omega)) (.int .i64 0)
  replace Tq := Tq.set 3 (.int .i64 0) (by simp)
  replace Tj := Tj.other (k' := w.heap.size + 2) (by omega) 3 (.int .i64 0)
  replace To := To.other (k' := w.heap.size + 2) (by omega) 3 (.int .i64 0)
  replace Ta := Ta.other (k' := w.heap.size + 2) (by omega) 3 (.int .i64 0)
  replace Fo := Fo.set ⟨w.heap.size + 2, 3, none⟩ (.int .i64 0)
  replace Fq := Fq.set ⟨w.heap.size + 2, 3, none⟩ (.int .i64 0)
  replace BB := BB.setCell (p := ⟨w.heap.size + 2, 3, none⟩) (by first | exact Nat.le_refl _ | (simp only; omega)) (.int .i64 0)
  replace Tq := Tq.set 4 (.int .i64 0) (by simp)
  replace Tj := Tj.other (k' := w.heap.size + 2) (by omega) 4 (.int .i64 0)
  replace To := To.other (k' := w.heap.size + 2) (by omega) 4 (.int .i64 0)
  replace Ta := Ta.other (k' := w.heap.size + 2) (by omega) 4 (.int .i64 0)
  replace Fo := Fo.set ⟨w.heap.size + 2, 4, none⟩ (.int .i64 0)
  replace Fq := Fq.set ⟨w.heap.size + 2, 4, none⟩ (.int .i64 0)
  replace BB := BB.setCell (p := ⟨w.heap.size + 2, 4, none⟩) (by first | exact Nat.le_refl _ | (simp only; omega)) (.int .i64 0)
  replace Tq := Tq.set 5 (.int .i64 0) (by simp)
  replace Tj := Tj.other (k' := w.heap.size + 2) (by omega) 5 (.int .i64 0)
  replace To := To.other (k' := w.heap.size + 2) (by omega) 5 (.int .i64 0)
  replace Ta := Ta.other (k' := w.heap.size + 2) (by omega) 5 (.int .i64 0)
  replace Fo := Fo.set ⟨w.heap.size + 2, 5, none⟩ (.int .i64 0)
  replace Fq := Fq.set ⟨w.heap.size + 2, 5, none⟩ (.int .i64 0)
  replace BB := BB.setCell (p := ⟨w.heap.size + 2, 5, none⟩) (by first | exact Nat.le_refl _ | (simp only; omega)) (.int .i64 0)
  replace Tq := Tq.set 6 (.int .i64 0) (by simp)
  replace Tj := Tj.other (k' := w.heap.size + 2) (by omega) 6 (.int .i64 0)
  replace To := To.other (k' := w.heap.size + 2) (by omega) 6 (.int .i64 0)
  replace Ta := Ta.other (k' := w.heap.size + 2) (by omega) 6 (.int .i64 0)
  replace Fo := Fo.set ⟨w.heap.size + 2, 6, none⟩ (.int .i64 0)
  replace Fq := Fq.set ⟨w.heap.size + 2, 6, none⟩ (.int .i64 0)
  replace BB := BB.setCell (p := ⟨w.heap.size + 2, 6, none⟩) (by first | exact Nat.le_refl _ | (simp only; omega)) (.int .i64 0)
  replace Tq := Tq.set 7 (.int .i64 0) (by simp)
  replace Tj := Tj.other (k' := w.heap.size + 2) (by omega) 7 (.int .i64 0)
  replace To := To.other (k' := w.heap.size + 2) (by omega) 7 (.int .i64 0)
  replace Ta := Ta.other (k' := w.heap.size + 2) (by omega) 7 (.int .i64 0)
  replace Fo := Fo.set ⟨w.heap.size + 2, 7, none⟩ (.int .i64 0)
  replace Fq := Fq.set ⟨w.heap.size + 2, 7, none⟩ (.int .i64 0)
  replace BB := BB.setCell (p := ⟨w.heap.size + 2, 7, none⟩) (by first | exact Nat.le_refl _ | (simp only; omega)) (.int .i64 0)
  obtain ⟨V4, hV4⟩ : ∃ V4, (((((((V3.setCell ⟨w.heap.size + 2, 0, none⟩ (.int .i64 0)).setCell ⟨w.heap.size + 2, 1, none⟩ (.int .i64 0)).setCell ⟨w.heap.size + 2, 2, none⟩ (.int .i64 0)).setCell ⟨w.heap.size + 2, 3, none⟩ (.int .i64 0)).setCell ⟨w.heap.size + 2, 4, none⟩ (.int .i64 0)).setCell ⟨w.heap.size + 2, 5, none⟩ (.int .i64 0)).setCell ⟨w.heap.size + 2, 6, none⟩ (.int .i64 0)).setCell ⟨w.heap.size + 2, 7, none⟩ (.int .i64 0) = V4 := ⟨_, rfl⟩
  rw [hV4] at BB Tj To Tq Ta Fo Fq ⊢
  clear hV4
  have o0 := To 0 _ rfl
  have fo0 := Fo.1 0
  have o1 := To 1 _ rfl
  have fo1 := Fo.1 1
  have o2 := To 2 _ rfl
  have fo2 := Fo.1 2
  have o3 := To 3 _ rfl
  have fo3 := Fo.1 3
  have o4 := To 4 _ rfl
  have fo4 := Fo.1 4
  have q0 := Tq 0 _ rfl
  have fq0 := Fq.1 0
  have q1 := Tq 1 _ rfl
  have fq1 := Fq.1 1
  have q2 := Tq 2 _ rfl
  have fq2 := Fq.1 2
  have q3 := Tq 3 _ rfl
  have fq3 := Fq.1 3
  have q4 := Tq 4 _ rfl
  have fq4 := Fq.1 4
  have q5 := Tq 5 _ rfl
  have fq5 := Fq.1 5
  have q6 := Tq 6 _ rfl
  have fq6 := Fq.1 6
  have q7 := Tq 7 _ rfl
  have fq7 := Fq.1 7
  refine bodyPost_ret (v := .tuple #[zJn.v, zWd.v, .int .i64 2]) (by simp [results, Tryd.results22, go_sem, o0, o1, o2, o3, o4, q0, q1, q2, q3, q4, q5, q6, q7]) rfl ⟨rfl, BB⟩
end Go.Proofs.YtgmabjlehjpboaaDoor
