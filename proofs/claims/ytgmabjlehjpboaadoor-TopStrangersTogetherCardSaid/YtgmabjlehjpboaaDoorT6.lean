/- Proved: what the root says of a proof, where it refuses it. Conditions: those that each theorem names. -/
import Derived.Test.YtgmabjlehjpboaaDoorT5
namespace Go.Proofs.YtgmabjlehjpboaaDoor
open Go.RowKit Go.Sort Go.BigFrame Go.Proofs.YtgmabjlehjpboaaDoor.K
set_option linter.unusedVariables false
set_option linter.unusedSimpArgs false
attribute [local go_sem] cell_alloc_old

abbrev zWd : Wd := ⟨0, 0, 0, 0, 0, 0, 0, 0⟩
set_option maxRecDepth 100000 in
set_option maxHeartbeats 4000000 in
theorem judge_a (k s p n c key f y a b : Int) (w : World) (h : formedB ⟨k, s, p, n, c, key, f, y⟩ = false) :
    Calls Tryd.prog 24 #[(⟨k, s, p, n, c, key, f, y⟩ : Wd).v, .agg #[.int .i64 a, .int .i64 b]] w (Ans (.tuple #[zWd.v, .int .i64 1]) w) := by
  have H := Lib.hid h; clear h
  go_enter Tryd.func24, Tryd.ntmps24
  go_wp2_with fail
  have Tt := CAt.new (w) [.int .i64 k, .int .i64 s, .int .i64 p, .int .i64 n, .int .i64 c, .int .i64 key, .int .i64 f, .int .i64 y] 43
  have BB : Below w.heap.size w ((w).alloc (.cells #[.int .i64 k, .int .i64 s, .int .i64 p, .int .i64 n, .int .i64 c, .int .i64 key, .int .i64 f, .int .i64 y] 43)) := ball (Below.refl _ _) _
  have Tg := CAt.new (w.alloc (.cells #[.int .i64 k, .int .i64 s, .int .i64 p, .int .i64 n, .int .i64 c, .int .i64 key, .int .i64 f, .int .i64 y] 43)) [.int .i64 a, .int .i64 b] 35
  replace Tt := Tt.alloc (.cells #[.int .i64 a, .int .i64 b] 35)
  replace BB := ball BB (.cells #[.int .i64 a, .int .i64 b] 35)
  have To := CAt.new ((w.alloc (.cells #[.int .i64 k, .int .i64 s, .int .i64 p, .int .i64 n, .int .i64 c, .int .i64 key, .int .i64 f, .int .i64 y] 43)).alloc (.cells #[.int .i64 a, .int .i64 b] 35)) [.int .i64 0, .int .i64 0, .int .i64 0, .int .i64 0, .int .i64 0, .int .i64 0, .int .i64 0, .int .i64 0] 43
  have Fo := Fz.new ((w.alloc (.cells #[.int .i64 k, .int .i64 s, .int .i64 p, .int .i64 n, .int .i64 c, .int .i64 key, .int .i64 f, .int .i64 y] 43)).alloc (.cells #[.int .i64 a, .int .i64 b] 35)) #[.int .i64 0, .int .i64 0, .int .i64 0, .int .i64 0, .int .i64 0, .int .i64 0, .int .i64 0, .int .i64 0] 43
  replace Tt := Tt.alloc (.cells #[.int .i64 0, .int .i64 0, .int .i64 0, .int .i64 0, .int .i64 0, .int .i64 0, .int .i64 0, .int .i64 0] 43)
  replace Tg := Tg.alloc (.cells #[.int .i64 0, .int .i64 0, .int .i64 0, .int .i64 0, .int .i64 0, .int .i64 0, .int .i64 0, .int .i64 0] 43)
  replace BB := ball BB (.cells #[.int .i64 0, .int .i64 0, .int .i64 0, .int .i64 0, .int .i64 0, .int .i64 0, .int .i64 0, .int .i64 0] 43)
  simp only [World.size_alloc, Nat.add_assoc, Nat.reduceAdd] at Tg To Fo
  obtain ⟨V1, hV1⟩ : ∃ V1, ((w.alloc (.cells #[.int .i64 k, .int .i64 s, .int .i64 p, .int .i64 n, .int .i64 c, .int .i64 key, .int .i64 f, .int .i64 y] 43)).alloc (.cells #[.int .i64 a, .int .i64 b] 35)).alloc (.cells #[.int .i64 0, .int .i64 0, .int .i64 0, .int .i64 0, .int .i64 0, .int .i64 0, .int .i64 0, .int .i64 0] 43) = V1 := ⟨_, rfl⟩
  rw [hV1] at BB Tt Tg To Fo ⊢
  clear hV1
  have t0 := Tt 0 _ rfl
  have t1 := Tt 1 _ rfl
  have t2 := Tt 2 _ rfl
  have t3 := Tt 3 _ rfl
  have t4 := Tt 4 _ rfl
  have t5 := Tt 5 _ rfl
  have t6 := Tt 6 _ rfl
  have t7 := Tt 7 _ rfl
  have g0 := Tg 0 _ rfl
  have g1 := Tg 1 _ rfl
  go_wp2_with fail
  refine (formed_at ⟨k, s, p, n, c, key, f, y⟩ false V1 H.out).mono ?_
  clear t0 t1 t2 t3 t4 t5 t6 t7 g0 g1
  rintro e w2 ⟨rfl, b2⟩
  replace Tt := Tt.keep b2
  replace Tg := Tg.keep b2
  replace To := To.keep b2
  replace Fo := Fo.keep b2
  replace BB := bstep BB b2
  clear b2
  have t0 := Tt 0 _ rfl
  have t1 := Tt 1 _ rfl
  have t2 := Tt 2 _ rfl
  have t3 := Tt 3 _ rfl
  have t4 := Tt 4 _ rfl
  have t5 := Tt 5 _ rfl
  have t6 := Tt 6 _ rfl
  have t7 := Tt 7 _ rfl
  have g0 := Tg 0 _ rfl
  have g1 := Tg 1 _ rfl
  have o0 := To 0 _ rfl
  have fo0 := Fo.1 0
  have o1 := To 1 _ rfl
  have fo1 := Fo.1 1
  have o2 := To 2 _ rfl
  have fo2 := Fo.1 2
  have o3 := To 3 _ rfl
  have fo3 := Fo.1 3
  have o4 := To 4 _ rfl
  have fo4 := Fo.1 4
  have o5 := To 5 _ rfl
  have fo5 := Fo.1 5
  have o6 := To 6 _ rfl
  have fo6 := Fo.1 6
  have o7 := To 7 _ rfl
  have fo7 := Fo.1 7
  go_wp2_with fail
  simp only [Nat.add_assoc, Nat.reduceAdd]
  clear t0 t1 t2 t3 t4 t5 t6 t7 g0 g1 o0 fo0 o1 fo1 o2 fo2 o3 fo3 o4 fo4 o5 fo5 o6 fo6 o7 fo7
  replace To := To.set 0 (.int .i64 0) (by simp)
  replace Tt := Tt.other (k' := w.heap.size + 2) (by omega) 0 (.int .i64 0)
  replace Tg := Tg.other (k' := w.heap.size + 2) (by omega) 0 (.int .i64 0)
  replace Fo := Fo.set ⟨w.heap.size + 2, 0, none⟩ (.int .i64 0)
  replace BB := BB.setCell (p := ⟨w.heap.size + 2, 0, none⟩) (by first | exact Nat.le_refl _ | (simp only; omega)) (.int .i64 0)
  replace To := To.set 1 (.int .i64 0) (by simp)
  replace Tt := Tt.other (k' := w.heap.size + 2) (by omega) 1 (.int .i64 0)
  replace Tg := Tg.other (k' := w.heap.size + 2) (by omega) 1 (.int .i64 0)
  replace Fo := Fo.set ⟨w.heap.size + 2, 1, none⟩ (.int .i64 0)
  replace BB := BB.setCell (p := ⟨w.heap.size + 2, 1, none⟩) (by first | exact Nat.le_refl _ | (simp only; omega)) (.int .i64 0)
  replace To := To.set 2 (.int .i64 0) (by simp)
  replace Tt := Tt.other (k' := w.heap.size + 2) (by omega) 2 (.int .i64 0)
  replace Tg := Tg.other (k' := w.heap.size + 2) (by omega) 2 (.int .i64 0)
  replace Fo := Fo.set ⟨w.heap.size + 2, 2, none⟩ (.int .i64 0)
  replace BB := BB.setCell (p := ⟨w.heap.size + 2, 2, none⟩) (by first | exact Nat.le_refl _ | (simp only; omega)) (.int .i64 0)
  replace To := To.set 3 (.int .i64 0) (by simp)
  replace Tt := Tt.other (k' := w.heap.size + 2) (by omega) 3 (.int .i64 0)
  replace Tg := Tg.other (k' := w.heap.size + 2) (by omega) 3 (.int .i64 0)
  replace Fo := Fo.set ⟨w.heap.size + 2, 3, none⟩ (.int .i64 0)
  replace BB := BB.setCell (p := ⟨w.heap.size + 2, 3, none⟩) (by first | exact Nat.le_refl _ | (simp only; omega)) (.int .i64 0)
  replace To := To.set 4 (.int .i64 0) (by simp)
  replace Tt := Tt.other (k' := w.heap.size + 2) (by omega) 4 (.int .i64 0)
  replace Tg := Tg.other (k' := w.heap.size + 2) (by omega) 4 (.int .i64 0)
  replace Fo := Fo.set ⟨w.heap.size + 2, 4, none⟩ (.int .i64 0)
  replace BB := BB.setCell (p := ⟨w.heap.size + 2, 4, none⟩) (by first | exact Nat.le_refl _ | (simp only; omega)) (.int .i64 0)
  replace To := To.set 5 (.int .i64 0) (by simp)
  replace Tt := Tt.other (k' := w.heap.size + 2) (by omega) 5 (.int .i64 0)
  replace Tg := Tg.other (k' := w.heap.size + 2) (by omega) 5 (.int .i64 0)
  replace Fo := Fo.set ⟨w.heap.size + 2, 5, none⟩ (.int .i64 0)
  replace BB := BB.setCell (p := ⟨w.heap.size + 2, 5, none⟩) (by first | exact Nat.le_refl _ | (simp only; omega)) (.int .i64 0)
  replace To := To.set 6 (.int .i64 0) (by simp)
  replace Tt := Tt.other (k' := w.heap.size + 2) (by omega) 6 (.int .i64 0)
  replace Tg := Tg.other (k' := w.heap.size + 2) (by omega) 6 (.int .i64 0)
  replace Fo := Fo.set ⟨w.heap.size + 2, 6, none⟩ (.int .i64 0)
  replace BB := BB.setCell (p := ⟨w.heap.size + 2, 6, none⟩) (by first | exact Nat.le_refl _ | (simp only; omega)) (.int .i64 0)
  replace To := To.set 7 (.int .i64 0) (by simp)
  replace Tt := Tt.other (k' := w.heap.size + 2) (by omega) 7 (.int .i64 0)
  replace Tg := Tg.other (k' := w.heap.size + 2) (by omega) 7 (.int .i64 0)
  replace Fo := Fo.set ⟨w.heap.size + 2, 7, none⟩ (.int .i64 0)
  replace BB := BB.setCell (p := ⟨w.heap.size + 2, 7, none⟩) (by first | exact Nat.le_refl _ | (simp only; omega)) (.int .i64 0)
  obtain ⟨V3, hV3⟩ : ∃ V3, (((((((w2.setCell ⟨w.heap.size + 2, 0, none⟩ (.int .i64 0)).setCell ⟨w.heap.size + 2, 1, none⟩ (.int .i64 0)).setCell ⟨w.heap.size + 2, 2, none⟩ (.int .i64 0)).setCell ⟨w.heap.size + 2, 3, none⟩ (.int .i64 0)).setCell ⟨w.heap.size + 2, 4, none⟩ (.int .i64 0)).setCell ⟨w.heap.size + 2, 5, none⟩ (.int .i64 0)).setCell ⟨w.heap.size + 2, 6, none⟩ (.int .i64 0)).setCell ⟨w.heap.size + 2, 7, none⟩ (.int .i64 0) = V3 := ⟨_, rfl⟩
  rw [hV3] at BB Tt Tg To Fo ⊢
  clear hV3
  have o0 := To 0 _ rfl
  have fo0 := Fo.1 0
  have o1 := To 1 _ rfl
  have fo1 := Fo.1 1
  have o2 := To 2 _ rfl
  have fo2 := Fo.1 2
  have o3 := To 3 _ rfl
  have fo3 := Fo.1 3
  have o4 := To 4 _ rfl
  have fo4 := Fo.1 4
  have o5 := To 5 _ rfl
  have fo5 := Fo.1 5
  have o6 := To 6 _ rfl
  have fo6 := Fo.1 6
  have o7 := To 7 _ rfl
  have fo7 := Fo.1 7
  refine bodyPost_ret (v := .tuple #[zWd.v, .int .i64 1]) (by simp [results, Tryd.results24, go_sem, o0, o1, o2, o3, o4, o5, o6, o7]) rfl ⟨rfl, BB⟩
set_option maxRecDepth 100000 in
set_option maxHeartbeats 4000000 in
theorem judge_b1 (k s p n c key f y a b : Int) (w : World) (h : formedB ⟨k, s, p, n, c, key, f, y⟩ = true) (h0 : a < 0) :
    Calls Tryd.prog 24 #[(⟨k, s, p, n, c, key, f, y⟩ : Wd).v, .agg #[.int .i64 a, .int .i64 b]] w (Ans (.tuple #[zWd.v, .int .i64 1]) w) := by
  have H := Lib.hid h; clear h
  go_enter Tryd.func24, Tryd.ntmps24
  go_wp2_with fail
  have Tt := CAt.new (w) [.int .i64 k, .int .i64 s, .int .i64 p, .int .i64 n, .int .i64 c, .int .i64 key, .int .i64 f, .int .i64 y] 43
  have BB : Below w.heap.size w ((w).alloc (.cells #[.int .i64 k, .int .i64 s, .int .i64 p, .int .i64 n, .int .i64 c, .int .i64 key, .int .i64 f, .int .i64 y] 43)) := ball (Below.refl _ _) _
  have Tg := CAt.new (w.alloc (.cells #[.int .i64 k, .int .i64 s, .int .i64 p, .int .i64 n, .int .i64 c, .int .i64 key, .int .i64 f, .int .i64 y] 43)) [.int .i64 a, .int .i64 b] 35
  replace Tt := Tt.alloc (.cells #[.int .i64 a, .int .i64 b] 35)
  replace BB := ball BB (.cells #[.int .i64 a, .int .i64 b] 35)
  have To := CAt.new ((w.alloc (.cells #[.int .i64 k, .int .i64 s, .int .i64 p, .int .i64 n, .int .i64 c, .int .i64 key, .int .i64 f, .int .i64 y] 43)).alloc (.cells #[.int .i64 a, .int .i64 b] 35)) [.int .i64 0, .int .i64 0, .int .i64 0, .int .i64 0, .int .i64 0, .int .i64 0, .int .i64 0, .int .i64 0] 43
  have Fo := Fz.new ((w.alloc (.cells #[.int .i64 k, .int .i64 s, .int .i64 p, .int .i64 n, .int .i64 c, .int .i64 key, .int .i64 f, .int .i64 y] 43)).alloc (.cells #[.int .i64 a, .int .i64 b] 35)) #[.int .i64 0, .int .i64 0, .int .i64 0, .int .i64 0, .int .i64 0, .int .i64 0, .int .i64 0, .int .i64 0] 43
  replace Tt := Tt.alloc (.cells #[.int .i64 0, .int .i64 0, .int .i64 0, .int .i64 0, .int .i64 0, .int .i64 0, .int .i64 0, .int .i64 0] 43)
  replace Tg := Tg.alloc (.cells #[.int .i64 0, .int .i64 0, .int .i64 0, .int .i64 0, .int .i64 0, .int .i64 0, .int .i64 0, .int .i64 0] 43)
  replace BB := ball BB (.cells #[.int .i64 0, .int .i64 0, .int .i64 0, .int .i64 0, .int .i64 0, .int .i64 0, .int .i64 0, .int .i64 0] 43)
  simp only [World.size_alloc, Nat.add_assoc, Nat.reduceAdd] at Tg To Fo
  obtain ⟨V1, hV1⟩ : ∃ V1, ((w.alloc (.cells #[.int .i64 k, .int .i64 s, .int .i64 p, .int .i64 n, .int .i64 c, .int .i64 key, .int .i64 f, .int .i64 y] 43)).alloc (.cells #[.int .i64 a, .int .i64 b] 35)).alloc (.cells #[.int .i64 0, .int .i64 0, .int .i64 0, .int .i64 0, .int .i64 0, .int .i64 0, .int .i64 0, .int .i64 0] 43) = V1 := ⟨_, rfl⟩
  rw [hV1] at BB Tt Tg To Fo ⊢
  clear hV1
  have t0 := Tt 0 _ rfl
  have t1 := Tt 1 _ rfl
  have t2 := Tt 2 _ rfl
  have t3 := Tt 3 _ rfl
  have t4 := Tt 4 _ rfl
  have t5 := Tt 5 _ rfl
  have t6 := Tt 6 _ rfl
  have t7 := Tt 7 _ rfl
  have g0 := Tg 0 _ rfl
  have g1 := Tg 1 _ rfl
  go_wp2_with fail
  refine (formed_at ⟨k, s, p, n, c, key, f, y⟩ true V1 H.out).mono ?_
  clear t0 t1 t2 t3 t4 t5 t6 t7 g0 g1
  rintro e w2 ⟨rfl, b2⟩
  replace Tt := Tt.keep b2
  replace Tg := Tg.keep b2
  replace To := To.keep b2
  replace Fo := Fo.keep b2
  replace BB := bstep BB b2
  clear b2
  have t0 := Tt 0 _ rfl
  have t1 := Tt 1 _ rfl
  have t2 := Tt 2 _ rfl
  have t3 := Tt 3 _ rfl
  have t4 := Tt 4 _ rfl
  have t5 := Tt 5 _ rfl
  have t6 := Tt 6 _ rfl
  have t7 := Tt 7 _ rfl
  have g0 := Tg 0 _ rfl
  have g1 := Tg 1 _ rfl
  have o0 := To 0 _ rfl
  have fo0 := Fo.1 0
  have o1 := To 1 _ rfl
  have fo1 := Fo.1 1
  have o2 := To 2 _ rfl
  have fo2 := Fo.1 2
  have o3 := To 3 _ rfl
  have fo3 := Fo.1 3
  have o4 := To 4 _ rfl
  have fo4 := Fo.1 4
  have o5 := To 5 _ rfl
  have fo5 := Fo.1 5
  have o6 := To 6 _ rfl
  have fo6 := Fo.1 6
  have o7 := To 7 _ rfl
  have fo7 := Fo.1 7
  go_wp2_with fail
  simp only [Nat.add_assoc, Nat.reduceAdd]
  clear t0 t1 t2 t3 t4 t5 t6 t7 g0 g1 o0 fo0 o1 fo1 o2 fo2 o3 fo3 o4 fo4 o5 fo5 o6 fo6 o7 fo7
  replace To := To.set 0 (.int .i64 0) (by simp)
  replace Tt := Tt.other (k' := w.heap.size + 2) (by omega) 0 (.int .i64 0)
  replace Tg := Tg.other (k' := w.heap.size + 2) (by omega) 0 (.int .i64 0)
  replace Fo := Fo.set ⟨w.heap.size + 2, 0, none⟩ (.int .i64 0)
  replace BB := BB.setCell (p := ⟨w.heap.size + 2, 0, none⟩) (by first | exact Nat.le_refl _ | (simp only; omega)) (.int .i64 0)
  replace To := To.set 1 (.int .i64 0) (by simp)
  replace Tt := Tt.other (k' := w.heap.size + 2) (by omega) 1 (.int .i64 0)
  replace Tg := Tg.other (k' := w.heap.size + 2) (by omega) 1 (.int .i64 0)
  replace Fo := Fo.set ⟨w.heap.size + 2, 1, none⟩ (.int .i64 0)
  replace BB := BB.setCell (p := ⟨w.heap.size + 2, 1, none⟩) (by first | exact Nat.le_refl _ | (simp only; omega)) (.int .i64 0)
  replace To := To.set 2 (.int .i64 0) (by simp)
  replace Tt := Tt.other (k' := w.heap.size + 2) (by omega) 2 (.int .i64 0)
  replace Tg := Tg.other (k' := w.heap.size + 2) (by omega) 2 (.int .i64 0)
  replace Fo := Fo.set ⟨w.heap.size + 2, 2, none⟩ (.int .i64 0)
  replace BB := BB.setCell (p := ⟨w.heap.size + 2, 2, none⟩) (by first | exact Nat.le_refl _ | (simp only; omega)) (.int .i64 0)
  replace To := To.set 3 (.int .i64 0) (by simp)
  replace Tt := Tt.other (k' := w.heap.size + 2) (by omega) 3 (.int .i64 0)
  replace Tg := Tg.other (k' := w.heap.size + 2) (by omega) 3 (.int .i64 0)
  replace Fo := Fo.set ⟨w.heap.size + 2, 3, none⟩ (.int .i64 0)
  replace BB := BB.setCell (p := ⟨w.heap.size + 2, 3, none⟩) (by first | exact Nat.le_refl _ | (simp only; omega)) (.int .i64 0)
  replace To := To.set 4 (.int .i64 0) (by simp)
  replace Tt := Tt.other (k' := w.heap.size + 2) (by omega) 4 (.int .i64 0)
  replace Tg := Tg.other (k' := w.heap.size + 2) (by omega) 4 (.int .i64 0)
  replace Fo := Fo.set ⟨w.heap.size + 2, 4, none⟩ (.int .i64 0)
  replace BB := BB.setCell (p := ⟨w.heap.size + 2, 4, none⟩) (by first | exact Nat.le_refl _ | (simp only; omega)) (.int .i64 0)
  replace To := To.set 5 (.int .i64 0) (by simp)
  replace Tt := Tt.other (k' := w.heap.size + 2) (by omega) 5 (.int .i64 0)
  replace Tg := Tg.other (k' := w.heap.size + 2) (by omega) 5 (.int .i64 0)
  replace Fo := Fo.set ⟨w.heap.size + 2, 5, none⟩ (.int .i64 0)
  replace BB := BB.setCell (p := ⟨w.heap.size + 2, 5, none⟩) (by first | exact Nat.le_refl _ | (simp only; omega)) (.int .i64 0)
  replace To := To.set 6 (.int .i64 0) (by simp)
  replace Tt := Tt.other (k' := w.heap.size + 2) (by omega) 6 (.int .i64 0)
  replace Tg := Tg.other (k' := w.heap.size + 2) (by omega) 6 (.int .i64 0)
  replace Fo := Fo.set ⟨w.heap.size + 2, 6, none⟩ (.int .i64 0)
  replace BB := BB.setCell (p := ⟨w.heap.size + 2, 6, none⟩) (by first | exact Nat.le_refl _ | (simp only; omega)) (.int .i64 0)
  replace To := To.set 7 (.int .i64 0) (by simp)
  replace Tt := Tt.other (k' := w.heap.size + 2) (by omega) 7 (.int .i64 0)
  replace Tg := Tg.other (k' := w.heap.size + 2) (by omega) 7 (.int .i64 0)
  replace Fo := Fo.set ⟨w.heap.size + 2, 7, none⟩ (.int .i64 0)
  replace BB := BB.setCell (p := ⟨w.heap.size + 2, 7, none⟩) (by first | exact Nat.le_refl _ | (simp only; omega)) (.int .i64 0)
  obtain ⟨V3, hV3⟩ : ∃ V3, (((((((w2.setCell ⟨w.heap.size + 2, 0, none⟩ (.int .i64 0)).setCell ⟨w.heap.size + 2, 1, none⟩ (.int .i64 0)).setCell ⟨w.heap.size + 2, 2, none⟩ (.int .i64 0)).setCell ⟨w.heap.size + 2, 3, none⟩ (.int .i64 0)).setCell ⟨w.heap.size + 2, 4, none⟩ (.int .i64 0)).setCell ⟨w.heap.size + 2, 5, none⟩ (.int .i64 0)).setCell ⟨w.heap.size + 2, 6, none⟩ (.int .i64 0)).setCell ⟨w.heap.size + 2, 7, none⟩ (.int .i64 0) = V3 := ⟨_, rfl⟩
  rw [hV3] at BB Tt Tg To Fo ⊢
  clear hV3
  have o0 := To 0 _ rfl
  have fo0 := Fo.1 0
  have o1 := To 1 _ rfl
  have fo1 := Fo.1 1
  have o2 := To 2 _ rfl
  have fo2 := Fo.1 2
  have o3 := To 3 _ rfl
  have fo3 := Fo.1 3
  have o4 := To 4 _ rfl
  have fo4 := Fo.1 4
  have o5 := To 5 _ rfl
  have fo5 := Fo.1 5
  have o6 := To 6 _ rfl
  have fo6 := Fo.1 6
  have o7 := To 7 _ rfl
  have fo7 := Fo.1 7
  refine bodyPost_ret (v := .tuple #[zWd.v, .int .i64 1]) (by simp [results, Tryd.results24, go_sem, o0, o1, o2, o3, o4, o5, o6, o7]) rfl ⟨rfl, BB⟩
set_option maxRecDepth 100000 in
set_option maxHeartbeats 4000000 in
theorem judge_b2 (k s p n c key f y a b : Int) (w : World) (h : formedB ⟨k, s, p, n, c, key, f, y⟩ = true) (h0 : ¬ a < 0) (h1 : b ≤ a) :
    Calls Tryd.prog 24 #[(⟨k, s, p, n, c, key, f, y⟩ : Wd).v, .agg #[.int .i64 a, .int .i64 b]] w (Ans (.tuple #[zWd.v, .int .i64 1]) w) := by
  have H := Lib.hid h; clear h
  go_enter Tryd.func24, Tryd.ntmps24
  go_wp2_with fail
  have Tt := CAt.new (w) [.int .i64 k, .int .i64 s, .int .i64 p, .int .i64 n, .int .i64 c, .int .i64 key, .int .i64 f, .int .i64 y] 43
  have BB : Below w.heap.size w ((w).alloc (.cells #[.int .i64 k, .int .i64 s, .int .i64 p, .int .i64 n, .int .i64 c, .int .i64 key, .int .i64 f, .int .i64 y] 43)) := ball (Below.refl _ _) _
  have Tg := CAt.new (w.alloc (.cells #[.int .i64 k, .int .i64 s, .int .i64 p, .int .i64 n, .int .i64 c, .int .i64 key, .int .i64 f, .int .i64 y] 43)) [.int .i64 a, .int .i64 b] 35
  replace Tt := Tt.alloc (.cells #[.int .i64 a, .int .i64 b] 35)
  replace BB := ball BB (.cells #[.int .i64 a, .int .i64 b] 35)
  have To := CAt.new ((w.alloc (.cells #[.int .i64 k, .int .i64 s, .int .i64 p, .int .i64 n, .int .i64 c, .int .i64 key, .int .i64 f, .int .i64 y] 43)).alloc (.cells #[.int .i64 a, .int .i64 b] 35)) [.int .i64 0, .int .i64 0, .int .i64 0, .int .i64 0, .int .i64 0, .int .i64 0, .int .i64 0, .int .i64 0] 43
  have Fo := Fz.new ((w.alloc (.cells #[.int .i64 k, .int .i64 s, .int .i64 p, .int .i64 n, .int .i64 c, .int .i64 key, .int .i64 f, .int .i64 y] 43)).alloc (.cells #[.int .i64 a, .int .i64 b] 35)) #[.int .i64 0, .int .i64 0, .int .i64 0, .int .i64 0, .int .i64 0, .int .i64 0, .int .i64 0, .int .i64 0] 43
  replace Tt := Tt.alloc (.cells #[.int .i64 0, .int .i64 0, .int .i64 0, .int .i64 0, .int .i64 0, .int .i64 0, .int .i64 0, .int .i64 0] 43)
  replace Tg := Tg.alloc (.cells #[.int .i64 0, .int .i64 0, .int .i64 0, .int .i64 0, .int .i64 0, .int .i64 0, .int .i64 0, .int .i64 0] 43)
  replace BB := ball BB (.cells #[.int .i64 0, .int .i64 0, .int .i64 0, .int .i64 0, .int .i64 0, .int .i64 0, .int .i64 0, .int .i64 0] 43)
  simp only [World.size_alloc, Nat.add_assoc, Nat.reduceAdd] at Tg To Fo
  obtain ⟨V1, hV1⟩ : ∃ V1, ((w.alloc (.cells #[.int .i64 k, .int .i64 s, .int .i64 p, .int .i64 n, .int .i64 c, .int .i64 key, .int .i64 f, .int .i64 y] 43)).alloc (.cells #[.int .i64 a, .int .i64 b] 35)).alloc (.cells #[.int .i64 0, .int .i64 0, .int .i64 0, .int .i64 0, .int .i64 0, .int .i64 0, .int .i64 0, .int .i64 0] 43) = V1 := ⟨_, rfl⟩
  rw [hV1] at BB Tt Tg To Fo ⊢
  clear hV1
  have t0 := Tt 0 _ rfl
  have t1 := Tt 1 _ rfl
  have t2 := Tt 2 _ rfl
  have t3 := Tt 3 _ rfl
  have t4 := Tt 4 _ rfl
  have t5 := Tt 5 _ rfl
  have t6 := Tt 6 _ rfl
  have t7 := Tt 7 _ rfl
  have g0 := Tg 0 _ rfl
  have g1 := Tg 1 _ rfl
  go_wp2_with fail
  refine (formed_at ⟨k, s, p, n, c, key, f, y⟩ true V1 H.out).mono ?_
  clear t0 t1 t2 t3 t4 t5 t6 t7 g0 g1
  rintro e w2 ⟨rfl, b2⟩
  replace Tt := Tt.keep b2
  replace Tg := Tg.keep b2
  replace To := To.keep b2
  replace Fo := Fo.keep b2
  replace BB := bstep BB b2
  clear b2
  have t0 := Tt 0 _ rfl
  have t1 := Tt 1 _ rfl
  have t2 := Tt 2 _ rfl
  have t3 := Tt 3 _ rfl
  have t4 := Tt 4 _ rfl
  have t5 := Tt 5 _ rfl
  have t6 := Tt 6 _ rfl
  have t7 := Tt 7 _ rfl
  have g0 := Tg 0 _ rfl
  have g1 := Tg 1 _ rfl
  have o0 := To 0 _ rfl
  have fo0 := Fo.1 0
  have o1 := To 1 _ rfl
  have fo1 := Fo.1 1
  have o2 := To 2 _ rfl
  have fo2 := Fo.1 2
  have o3 := To 3 _ rfl
  have fo3 := Fo.1 3
  have o4 := To 4 _ rfl
  have fo4 := Fo.1 4
  have o5 := To 5 _ rfl
  have fo5 := Fo.1 5
  have o6 := To 6 _ rfl
  have fo6 := Fo.1 6
  have o7 := To 7 _ rfl
  have fo7 := Fo.1 7
  go_wp2_with fail
  simp only [Nat.add_assoc, Nat.reduceAdd]
  clear t0 t1 t2 t3 t4 t5 t6 t7 g0 g1 o0 fo0 o1 fo1 o2 fo2 o3 fo3 o4 fo4 o5 fo5 o6 fo6 o7 fo7
  replace To := To.set 0 (.int .i64 0) (by simp)
  replace Tt := Tt.other (k' := w.heap.size + 2) (by omega) 0 (.int .i64 0)
  replace Tg := Tg.other (k' := w.heap.size + 2) (by omega) 0 (.int .i64 0)
  replace Fo := Fo.set ⟨w.heap.size + 2, 0, none⟩ (.int .i64 0)
  replace BB := BB.setCell (p := ⟨w.heap.size + 2, 0, none⟩) (by first | exact Nat.le_refl _ | (simp only; omega)) (.int .i64 0)
  replace To := To.set 1 (.int .i64 0) (by simp)
  replace Tt := Tt.other (k' := w.heap.size + 2) (by omega) 1 (.int .i64 0)
  replace Tg := Tg.other (k' := w.heap.size + 2) (by omega) 1 (.int .i64 0)
  replace Fo := Fo.set ⟨w.heap.size + 2, 1, none⟩ (.int .i64 0)
  replace BB := BB.setCell (p := ⟨w.heap.size + 2, 1, none⟩) (by first | exact Nat.le_refl _ | (simp only; omega)) (.int .i64 0)
  replace To := To.set 2 (.int .i64 0) (by simp)
  replace Tt := Tt.other (k' := w.heap.size + 2) (by omega) 2 (.int .i64 0)
  replace Tg := Tg.other (k' := w.heap.size + 2) (by omega) 2 (.int .i64 0)
  replace Fo := Fo.set ⟨w.heap.size + 2, 2, none⟩ (.int .i64 0)
  replace BB := BB.setCell (p := ⟨w.heap.size + 2, 2, none⟩) (by first | exact Nat.le_refl _ | (simp only; omega)) (.int .i64 0)
  replace To := To.set 3 (.int .i64 0) (by simp)
  replace Tt := Tt.other (k' := w.heap.size + 2) (by omega) 3 (.int .i64 0)
  replace Tg := Tg.other (k' := w.heap.size + 2) (by omega) 3 (.int .i64 0)
  replace Fo := Fo.set ⟨w.heap.size + 2, 3, none⟩ (.int .i64 0)
  replace BB := BB.setCell (p := ⟨w.heap.size + 2, 3, none⟩) (by first | exact Nat.le_refl _ | (simp only; omega)) (.int .i64 0)
  replace To := To.set 4 (.int .i64 0) (by simp)
  replace Tt := Tt.other (k' := w.heap.size + 2) (by omega) 4 (.int .i64 0)
  replace Tg := Tg.other (k' := w.heap.size + 2) (by omega) 4 (.int .i64 0)
  replace Fo := Fo.set ⟨w.heap.size + 2, 4, none⟩ (.int .i64 0)
  replace BB := BB.setCell (p := ⟨w.heap.size + 2, 4, none⟩) (by first | exact Nat.le_refl _ | (simp only; omega)) (.int .i64 0)
  replace To := To.set 5 (.int .i64 0) (by simp)
  replace Tt := Tt.other (k' := w.heap.size + 2) (by omega) 5 (.int .i64 0)
  replace Tg := Tg.other (k' := w.heap.size + 2) (by omega) 5 (.int .i64 0)
  replace Fo := Fo.set ⟨w.heap.size + 2, 5, none⟩ (.int .i64 0)
  replace BB := BB.setCell (p := ⟨w.heap.size + 2, 5, none⟩) (by first | exact Nat.le_refl _ | (simp only; omega)) (.int .i64 0)
  replace To := To.set 6 (.int .i64 0) (by simp)
  replace Tt := Tt.other (k' := w.heap.size + 2) (by omega) 6 (.int .i64 0)
  replace Tg := Tg.other (k' := w.heap.size + 2) (by omega) 6 (.int .i64 0)
  replace Fo := Fo.set ⟨w.heap.size + 2, 6, none⟩ (.int .i64 0)
  replace BB := BB.setCell (p := ⟨w.heap.size + 2, 6, none⟩) (by first | exact Nat.le_refl _ | (simp only; omega)) (.int .i64 0)
  replace To := To.set 7 (.int .i64 0) (by simp)
  replace Tt := Tt.other (k' := w.heap.size + 2) (by omega) 7 (.int .i64 0)
  replace Tg := Tg.other (k' := w.heap.size + 2) (by omega) 7 (.int .i64 0)
  replace Fo := Fo.set ⟨w.heap.size + 2, 7, none⟩ (.int .i64 0)
  replace BB := BB.setCell (p := ⟨w.heap.size + 2, 7, none⟩) (by first | exact Nat.le_refl _ | (simp only; omega)) (.int .i64 0)
  obtain ⟨V3, hV3⟩ : ∃ V3, (((((((w2.setCell ⟨w.heap.size + 2, 0, none⟩ (.int .i64 0)).setCell ⟨w.heap.size + 2, 1, none⟩ (.int .i64 0)).setCell ⟨w.heap.size + 2, 2, none⟩ (.int .i64 0)).setCell ⟨w.heap.size + 2, 3, none⟩ (.int .i64 0)).setCell ⟨w.heap.size + 2, 4, none⟩ (.int .i64 0)).setCell ⟨w.heap.size + 2, 5, none⟩ (.int .i64 0)).setCell ⟨w.heap.size + 2, 6, none⟩ (.int .i64 0)).setCell ⟨w.heap.size + 2, 7, none⟩ (.int .i64 0) = V3 := ⟨_, rfl⟩
  rw [hV3] at BB Tt Tg To Fo ⊢
  clear hV3
  have o0 := To 0 _ rfl
  have fo0 := Fo.1 0
  have o1 := To 1 _ rfl
  have fo1 := Fo.1 1
  have o2 := To 2 _ rfl
  have fo2 := Fo.1 2
  have o3 := To 3 _ rfl
  have fo3 := Fo.1 3
  have o4 := To 4 _ rfl
  have fo4 := Fo.1 4
  have o5 := To 5 _ rfl
  have fo5 := Fo.1 5
  have o6 := To 6 _ rfl
  have fo6 := Fo.1 6
  have o7 := To 7 _ rfl
  have fo7 := Fo.1 7
  refine bodyPost_ret (v := .tuple #[zWd.v, .int .i64 1]) (by simp [results, Tryd.results24, go_sem, o0, o1, o2, o3, o4, o5, o6, o7]) rfl ⟨rfl, BB⟩
set_option maxRecDepth 100000 in
set_option maxHeartbeats 4000000 in
theorem judge_b3 (k s p n c key f y a b : Int) (w : World) (h : formedB ⟨k, s, p, n, c, key, f, y⟩ = true) (h0 : ¬ a < 0) (h1 : ¬ b ≤ a) (h2 : 1000000000 < b) :
    Calls Tryd.prog 24 #[(⟨k, s, p, n, c, key, f, y⟩ : Wd).v, .agg #[.int .i64 a, .int .i64 b]] w (Ans (.tuple #[zWd.v, .int .i64 1]) w) := by
  have H := Lib.hid h; clear h
  go_enter Tryd.func24, Tryd.ntmps24
  go_wp2_with fail
  have Tt := CAt.new (w) [.int .i64 k, .int .i64 s, .int .i64 p, .int .i64 n, .int .i64 c, .int .i64 key, .int .i64 f, .int .i64 y] 43
  have BB : Below w.heap.size w ((w).alloc (.cells #[.int .i64 k, .int .i64 s, .int .i64 p, .int .i64 n, .int .i64 c, .int .i64 key, .int .i64 f, .int .i64 y] 43)) := ball (Below.refl _ _) _
  have Tg := CAt.new (w.alloc (.cells #[.int .i64 k, .int .i64 s, .int .i64 p, .int .i64 n, .int .i64 c, .int .i64 key, .int .i64 f, .int .i64 y] 43)) [.int .i64 a, .int .i64 b] 35
  replace Tt := Tt.alloc (.cells #[.int .i64 a, .int .i64 b] 35)
  replace BB := ball BB (.cells #[.int .i64 a, .int .i64 b] 35)
  have To := CAt.new ((w.alloc (.cells #[.int .i64 k, .int .i64 s, .int .i64 p, .int .i64 n, .int .i64 c, .int .i64 key, .int .i64 f, .int .i64 y] 43)).alloc (.cells #[.int .i64 a, .int .i64 b] 35)) [.int .i64 0, .int .i64 0, .int .i64 0, .int .i64 0, .int .i64 0, .int .i64 0, .int .i64 0, .int .i64 0] 43
  have Fo := Fz.new ((w.alloc (.cells #[.int .i64 k, .int .i64 s, .int .i64 p, .int .i64 n, .int .i64 c, .int .i64 key, .int .i64 f, .int .i64 y] 43)).alloc (.cells #[.int .i64 a, .int .i64 b] 35)) #[.int .i64 0, .int .i64 0, .int .i64 0, .int .i64 0, .int .i64 0, .int .i64 0, .int .i64 0, .int .i64 0] 43
  replace Tt := Tt.alloc (.cells #[.int .i64 0, .int .i64 0, .int .i64 0, .int .i64 0, .int .i64 0, .int .i64 0, .int .i64 0, .int .i64 0] 43)
  replace Tg := Tg.alloc (.cells #[.int .i64 0, .int .i64 0, .int .i64 0, .int .i64 0, .int .i64 0, .int .i64 0, .int .i64 0, .int .i64 0] 43)
  replace BB := ball BB (.cells #[.int .i64 0, .int .i64 0, .int .i64 0, .int .i64 0, .int .i64 0, .int .i64 0, .int .i64 0, .int .i64 0] 43)
  simp only [World.size_alloc, Nat.add_assoc, Nat.reduceAdd] at Tg To Fo
  obtain ⟨V1, hV1⟩ : ∃ V1, ((w.alloc (.cells #[.int .i64 k, .int .i64 s, .int .i64 p, .int .i64 n, .int .i64 c, .int .i64 key, .int .i64 f, .int .i64 y] 43)).alloc (.cells #[.int .i64 a, .int .i64 b] 35)).alloc (.cells #[.int .i64 0, .int .i64 0, .int .i64 0, .int .i64 0, .int .i64 0, .int .i64 0, .int .i64 0, .int .i64 0] 43) = V1 := ⟨_, rfl⟩
  rw [hV1] at BB Tt Tg To Fo ⊢
  clear hV1
  have t0 := Tt 0 _ rfl
  have t1 := Tt 1 _ rfl
  have t2 := Tt 2 _ rfl
  have t3 := Tt 3 _ rfl
  have t4 := Tt 4 _ rfl
  have t5 := Tt 5 _ rfl
  have t6 := Tt 6 _ rfl
  have t7 := Tt 7 _ rfl
  have g0 := Tg 0 _ rfl
  have g1 := Tg 1 _ rfl
  go_wp2_with fail
  refine (formed_at ⟨k, s, p, n, c, key, f, y⟩ true V1 H.out).mono ?_
  clear t0 t1 t2 t3 t4 t5 t6 t7 g0 g1
  rintro e w2 ⟨rfl, b2⟩
  replace Tt := Tt.keep b2
  replace Tg := Tg.keep b2
  replace To := To.keep b2
  replace Fo := Fo.keep b2
  replace BB := bstep BB b2
  clear b2
  have t0 := Tt 0 _ rfl
  have t1 := Tt 1 _ rfl
  have t2 := Tt 2 _ rfl
  have t3 := Tt 3 _ rfl
  have t4 := Tt 4 _ rfl
  have t5 := Tt 5 _ rfl
  have t6 := Tt 6 _ rfl
  have t7 := Tt 7 _ rfl
  have g0 := Tg 0 _ rfl
  have g1 := Tg 1 _ rfl
  have o0 := To 0 _ rfl
  have fo0 := Fo.1 0
  have o1 := To 1 _ rfl
  have fo1 := Fo.1 1
  have o2 := To 2 _ rfl
  have fo2 := Fo.1 2
  have o3 := To 3 _ rfl
  have fo3 := Fo.1 3
  have o4 := To 4 _ rfl
  have fo4 := Fo.1 4
  have o5 := To 5 _ rfl
  have fo5 := Fo.1 5
  have o6 := To 6 _ rfl
  have fo6 := Fo.1 6
  have o7 := To 7 _ rfl
  have fo7 := Fo.1 7
  go_wp2_with fail
  simp only [Nat.add_assoc, Nat.reduceAdd]
  clear t0 t1 t2 t3 t4 t5 t6 t7 g0 g1 o0 fo0 o1 fo1 o2 fo2 o3 fo3 o4 fo4 o5 fo5 o6 fo6 o7 fo7
  replace To := To.set 0 (.int .i64 0) (by simp)
  replace Tt := Tt.other (k' := w.heap.size + 2) (by omega) 0 (.int .i64 0)
  replace Tg := Tg.other (k' := w.heap.size + 2) (by omega) 0 (.int .i64 0)
  replace Fo := Fo.set ⟨w.heap.size + 2, 0, none⟩ (.int .i64 0)
  replace BB := BB.setCell (p := ⟨w.heap.size + 2, 0, none⟩) (by first | exact Nat.le_refl _ | (simp only; omega)) (.int .i64 0)
  replace To := To.set 1 (.int .i64 0) (by simp)
  replace Tt := Tt.other (k' := w.heap.size + 2) (by omega) 1 (.int .i64 0)
  replace Tg := Tg.other (k' := w.heap.size + 2) (by omega) 1 (.int .i64 0)
  replace Fo := Fo.set ⟨w.heap.size + 2, 1, none⟩ (.int .i64 0)
  replace BB := BB.setCell (p := ⟨w.heap.size + 2, 1, none⟩) (by first | exact Nat.le_refl _ | (simp only; omega)) (.int .i64 0)
  replace To := To.set 2 (.int .i64 0) (by simp)
  replace Tt := Tt.other (k' := w.heap.size + 2) (by omega) 2 (.int .i64 0)
  replace Tg := Tg.other (k' := w.heap.size + 2) (by omega) 2 (.int .i64 0)
  replace Fo := Fo.set ⟨w.heap.size + 2, 2, none⟩ (.int .i64 0)
  replace BB := BB.setCell (p := ⟨w.heap.size + 2, 2, none⟩) (by first | exact Nat.le_refl _ | (simp only; omega)) (.int .i64 0)
  replace To := To.set 3 (.int .i64 0) (by simp)
  replace Tt := Tt.other (k' := w.heap.size + 2) (by omega) 3 (.int .i64 0)
  replace Tg := Tg.other (k' := w.heap.size + 2) (by omega) 3 (.int .i64 0)
  replace Fo := Fo.set ⟨w.heap.size + 2, 3, none⟩ (.int .i64 0)
  replace BB := BB.setCell (p := ⟨w.heap.size + 2, 3, none⟩) (by first | exact Nat.le_refl _ | (simp only; omega)) (.int .i64 0)
  replace To := To.set 4 (.int .i64 0) (by simp)
  replace Tt := Tt.other (k' := w.heap.size + 2) (by omega) 4 (.int .i64 0)
  replace Tg := Tg.other (k' := w.heap.size + 2) (by omega) 4 (.int .i64 0)
  replace Fo := Fo.set ⟨w.heap.size + 2, 4, none⟩ (.int .i64 0)
  replace BB := BB.setCell (p := ⟨w.heap.size + 2, 4, none⟩) (by first | exact Nat.le_refl _ | (simp only; omega)) (.int .i64 0)
  replace To := To.set 5 (.int .i64 0) (by simp)
  replace Tt := Tt.other (k' := w.heap.size + 2) (by omega) 5 (.int .i64 0)
  replace Tg := Tg.other (k' := w.heap.size + 2) (by omega) 5 (.int .i64 0)
  replace Fo := Fo.set ⟨w.heap.size + 2, 5, none⟩ (.int .i64 0)
  replace BB := BB.setCell (p := ⟨w.heap.size + 2, 5, none⟩) (by first | exact Nat.le_refl _ | (simp only; omega)) (.int .i64 0)
  replace To := To.set 6 (.int .i64 0) (by simp)
  replace Tt := Tt.other (k' := w.heap.size + 2) (by omega) 6 (.int .i64 0)
  replace Tg := Tg.other (k' := w.heap.size + 2) (by omega) 6 (.int .i64 0)
  replace Fo := Fo.set ⟨w.heap.size + 2, 6, none⟩ (.int .i64 0)
  replace BB := BB.setCell (p := ⟨w.heap.size + 2, 6, none⟩) (by first | exact Nat.le_refl _ | (simp only; omega)) (.int .i64 0)
  replace To := To.set 7 (.int .i64 0) (by simp)
  replace Tt := Tt.other (k' := w.heap.size + 2) (by omega) 7 (.int .i64 0)
  replace Tg := Tg.other (k' := w.heap.size + 2) (by omega) 7 (.int .i64 0)
  replace Fo := Fo.set ⟨w.heap.size + 2, 7, none⟩ (.int .i64 0)
  replace BB := BB.setCell (p := ⟨w.heap.size + 2, 7, none⟩) (by first | exact Nat.le_refl _ | (simp only; omega)) (.int .i64 0)
  obtain ⟨V3, hV3⟩ : ∃ V3, (((((((w2.setCell ⟨w.heap.size + 2, 0, none⟩ (.int .i64 0)).setCell ⟨w.heap.size + 2, 1, none⟩ (.int .i64 0)).setCell ⟨w.heap.size + 2, 2, none⟩ (.int .i64 0)).setCell ⟨w.heap.size + 2, 3, none⟩ (.int .i64 0)).setCell ⟨w.heap.size + 2, 4, none⟩ (.int .i64 0)).setCell ⟨w.heap.size + 2, 5, none⟩ (.int .i64 0)).setCell ⟨w.heap.size + 2, 6, none⟩ (.int .i64 0)).setCell ⟨w.heap.size + 2, 7, none⟩ (.int .i64 0) = V3 := ⟨_, rfl⟩
  rw [hV3] at BB Tt Tg To Fo ⊢
  clear hV3
  have o0 := To 0 _ rfl
  have fo0 := Fo.1 0
  have o1 := To 1 _ rfl
  have fo1 := Fo.1 1
  have o2 := To 2 _ rfl
  have fo2 := Fo.1 2
  have o3 := To 3 _ rfl
  have fo3 := Fo.1 3
  have o4 := To 4 _ rfl
  have fo4 := Fo.1 4
  have o5 := To 5 _ rfl
  have fo5 := Fo.1 5
  have o6 := To 6 _ rfl
  have fo6 := Fo.1 6
  have o7 := To 7 _ rfl
  have fo7 := Fo.1 7
  refine bodyPost_ret (v := .tuple #[zWd.v, .int .i64 1]) (by simp [results, Tryd.results24, go_sem, o0, o1, o2, o3, o4, o5, o6, o7]) rfl ⟨rfl, BB⟩
set_option maxRecDepth 100000 in
set_option maxHeartbeats 4000000 in
theorem judge_c (k s p n c key f y a b : Int) (w : World) (h : formedB ⟨k, s, p, n, c, key, f, y⟩ = true) (h0 : ¬ a < 0) (h1 : ¬ b ≤ a) (h2 : ¬ 1000000000 < b) (h3 : (k != 3) = true) (h4 : nodeB s = true) :
    Calls Tryd.prog 24 #[(⟨k, s, p, n, c, key, f, y⟩ : Wd).v, .agg #[.int .i64 a, .int .i64 b]] w (Ans (.tuple #[zWd.v, .int .i64 9]) w) := by
  have H := Lib.hid h; clear h
  have H4 := Lib.hid h4; clear h4
  go_enter Tryd.func24, Tryd.ntmps24
  go_wp2_with fail
  have Tt := CAt.new (w) [.int .i64 k, .int .i64 s, .int .i64 p, .int .i64 n, .int .i64 c, .int .i64 key, .int .i64 f, .int .i64 y] 43
  have BB : Below w.heap.size w ((w).alloc (.cells #[.int .i64 k, .int .i64 s, .int .i64 p, .int .i64 n, .int .i64 c, .int .i64 key, .int .i64 f, .int .i64 y] 43)) := ball (Below.refl _ _) _
  have Tg := CAt.new (w.alloc (.cells #[.int .i64 k, .int .i64 s, .int .i64 p, .int .i64 n, .int .i64 c, .int .i64 key, .int .i64 f, .int .i64 y] 43)) [.int .i64 a, .int .i64 b] 35
  replace Tt := Tt.alloc (.cells #[.int .i64 a, .int .i64 b] 35)
  replace BB := ball BB (.cells #[.int .i64 a, .int .i64 b] 35)
  have To := CAt.new ((w.alloc (.cells #[.int .i64 k, .int .i64 s, .int .i64 p, .int .i64 n, .int .i64 c, .int .i64 key, .int .i64 f, .int .i64 y] 43)).alloc (.cells #[.int .i64 a, .int .i64 b] 35)) [.int .i64 0, .int .i64 0, .int .i64 0, .int .i64 0, .int .i64 0, .int .i64 0, .int .i64 0, .int .i64 0] 43
  have Fo := Fz.new ((w.alloc (.cells #[.int .i64 k, .int .i64 s, .int .i64 p, .int .i64 n, .int .i64 c, .int .i64 key, .int .i64 f, .int .i64 y] 43)).alloc (.cells #[.int .i64 a, .int .i64 b] 35)) #[.int .i64 0, .int .i64 0, .int .i64 0, .int .i64 0, .int .i64 0, .int .i64 0, .int .i64 0, .int .i64 0] 43
  replace Tt := Tt.alloc (.cells #[.int .i64 0, .int .i64 0, .int .i64 0, .int .i64 0, .int .i64 0, .int .i64 0, .int .i64 0, .int .i64 0] 43)
  replace Tg := Tg.alloc (.cells #[.int .i64 0, .int .i64 0, .int .i64 0, .int .i64 0, .int .i64 0, .int .i64 0, .int .i64 0, .int .i64 0] 43)
  replace BB := ball BB (.cells #[.int .i64 0, .int .i64 0, .int .i64 0, .int .i64 0, .int .i64 0, .int .i64 0, .int .i64 0, .int .i64 0] 43)
  simp only [World.size_alloc, Nat.add_assoc, Nat.reduceAdd] at Tg To Fo
  obtain ⟨V1, hV1⟩ : ∃ V1, ((w.alloc (.cells #[.int .i64 k, .int .i64 s, .int .i64 p, .int .i64 n, .int .i64 c, .int .i64 key, .int .i64 f, .int .i64 y] 43)).alloc (.cells #[.int .i64 a, .int .i64 b] 35)).alloc (.cells #[.int .i64 0, .int .i64 0, .int .i64 0, .int .i64 0, .int .i64 0, .int .i64 0, .int .i64 0, .int .i64 0] 43) = V1 := ⟨_, rfl⟩
  rw [hV1] at BB Tt Tg To Fo ⊢
  clear hV1
  have t0 := Tt 0 _ rfl
  have t1 := Tt 1 _ rfl
  have t2 := Tt 2 _ rfl
  have t3 := Tt 3 _ rfl
  have t4 := Tt 4 _ rfl
  have t5 := Tt 5 _ rfl
  have t6 := Tt 6 _ rfl
  have t7 := Tt 7 _ rfl
  have g0 := Tg 0 _ rfl
  have g1 := Tg 1 _ rfl
  go_wp2_with fail
  refine (formed_at ⟨k, s, p, n, c, key, f, y⟩ true V1 H.out).mono ?_
  clear t0 t1 t2 t3 t4 t5 t6 t7 g0 g1
  rintro e w2 ⟨rfl, b2⟩
  replace Tt := Tt.keep b2
  replace Tg := Tg.keep b2
  replace To := To.keep b2
  replace Fo := Fo.keep b2
  replace BB := bstep BB b2
  clear b2
  have t0 := Tt 0 _ rfl
  have t1 := Tt 1 _ rfl
  have t2 := Tt 2 _ rfl
  have t3 := Tt 3 _ rfl
  have t4 := Tt 4 _ rfl
  have t5 := Tt 5 _ rfl
  have t6 := Tt 6 _ rfl
  have t7 := Tt 7 _ rfl
  have g0 := Tg 0 _ rfl
  have g1 := Tg 1 _ rfl
  have o0 := To 0 _ rfl
  have fo0 := Fo.1 0
  have o1 := To 1 _ rfl
  have fo1 := Fo.1 1
  have o2 := To 2 _ rfl
  have fo2 := Fo.1 2
  have o3 := To 3 _ rfl
  have fo3 := Fo.1 3
  have o4 := To 4 _ rfl
  have fo4 := Fo.1 4
  have o5 := To 5 _ rfl
  have fo5 := Fo.1 5
  have o6 := To 6 _ rfl
  have fo6 := Fo.1 6
  have o7 := To 7 _ rfl
  have fo7 := Fo.1 7
  go_wp2_with fail
  refine (own_yes s _ H4.out).mono ?_
  rintro e w' ⟨rfl, rfl⟩
  go_wp2_with fail
  simp only [Nat.add_assoc, Nat.reduceAdd]
  clear t0 t1 t2 t3 t4 t5 t6 t7 g0 g1 o0 fo0 o1 fo1 o2 fo2 o3 fo3 o4 fo4 o5 fo5 o6 fo6 o7 fo7
  replace To := To.set 0 (.int .i64 0) (by simp)
  replace Tt := Tt.other (k' := w.heap.size + 2) (by omega) 0 (.int .i64 0)
  replace Tg := Tg.other (k' := w.heap.size + 2) (by omega) 0 (.int .i64 0)
  replace Fo := Fo.set ⟨w.heap.size + 2, 0, none⟩ (.int .i64 0)
  replace BB := BB.setCell (p := ⟨w.heap.size + 2, 0, none⟩) (by first | exact Nat.le_refl _ | (simp only; omega)) (.int .i64 0)
  replace To := To.set 1 (.int .i64 0) (by simp)
  replace Tt := Tt.other (k' := w.heap.size + 2) (by omega) 1 (.int .i64 0)
  replace Tg := Tg.other (k' := w.heap.size + 2) (by omega) 1 (.int .i64 0)
  replace Fo := Fo.set ⟨w.heap.size + 2, 1, none⟩ (.int .i64 0)
  replace BB := BB.setCell (p := ⟨w.heap.size + 2, 1, none⟩) (by first | exact Nat.le_refl _ | (simp only; omega)) (.int .i64 0)
  replace To := To.set 2 (.int .i64 0) (by simp)
  replace Tt := Tt.other (k' := w.heap.size + 2) (by omega) 2 (.int .i64 0)
  replace Tg := Tg.other (k' := w.heap.size + 2) (by omega) 2 (.int .i64 0)
  replace Fo := Fo.set ⟨w.heap.size + 2, 2, none⟩ (.int .i64 0)
  replace BB := BB.setCell (p := ⟨w.heap.size + 2, 2, none⟩) (by first | exact Nat.le_refl _ | (simp only; omega)) (.int .i64 0)
  replace To := To.set 3 (.int .i64 0) (by simp)
  replace Tt := Tt.other (k' := w.heap.size + 2) (by omega) 3 (.int .i64 0)
  replace Tg := Tg.other (k' := w.heap.size + 2) (by omega) 3 (.int .i64 0)
  replace Fo := Fo.set ⟨w.heap.size + 2, 3, none⟩ (.int .i64 0)
  replace BB := BB.setCell (p := ⟨w.heap.size + 2, 3, none⟩) (by first | exact Nat.le_refl _ | (simp only; omega)) (.int .i64 0)
  replace To := To.set 4 (.int .i64 0) (by simp)
  replace Tt := Tt.other (k' := w.heap.size + 2) (by omega) 4 (.int .i64 0)
  replace Tg := Tg.other (k' := w.heap.size + 2) (by omega) 4 (.int .i64 0)
  replace Fo := Fo.set ⟨w.heap.size + 2, 4, none⟩ (.int .i64 0)
  replace BB := BB.setCell (p := ⟨w.heap.size + 2, 4, none⟩) (by first | exact Nat.le_refl _ | (simp only; omega)) (.int .i64 0)
  replace To := To.set 5 (.int .i64 0) (by simp)
  replace Tt := Tt.other (k' := w.heap.size + 2) (by omega) 5 (.int .i64 0)
  replace Tg := Tg.other (k' := w.heap.size + 2) (by omega) 5 (.int .i64 0)
  replace Fo := Fo.set ⟨w.heap.size + 2, 5, none⟩ (.int .i64 0)
  replace BB := BB.setCell (p := ⟨w.heap.size + 2, 5, none⟩) (by first | exact Nat.le_refl _ | (simp only; omega)) (.int .i64 0)
  replace To := To.set 6 (.int .i64 0) (by simp)
  replace Tt := Tt.other (k' := w.heap.size + 2) (by omega) 6 (.int .i64 0)
  replace Tg := Tg.other (k' := w.heap.size + 2) (by omega) 6 (.int .i64 0)
  replace Fo := Fo.set ⟨w.heap.size + 2, 6, none⟩ (.int .i64 0)
  replace BB := BB.setCell (p := ⟨w.heap.size + 2, 6, none⟩) (by first | exact Nat.le_refl _ | (simp only; omega)) (.int .i64 0)
  replace To := To.set 7 (.int .i64 0) (by simp)
  replace Tt := Tt.other (k' := w.heap.size + 2) (by omega) 7 (.int .i64 0)
  replace Tg := Tg.other (k' := w.heap.size + 2) (by omega) 7 (.int .i64 0)
  replace Fo := Fo.set ⟨w.heap.size + 2, 7, none⟩ (.int .i64 0)
  replace BB := BB.setCell (p := ⟨w.heap.size + 2, 7, none⟩) (by first | exact Nat.le_refl _ | (simp only; omega)) (.int .i64 0)
  obtain ⟨V3, hV3⟩ : ∃ V3, (((((((w2.setCell ⟨w.heap.size + 2, 0, none⟩ (.int .i64 0)).setCell ⟨w.heap.size + 2, 1, none⟩ (.int .i64 0)).setCell ⟨w.heap.size + 2, 2, none⟩ (.int .i64 0)).setCell ⟨w.heap.size + 2, 3, none⟩ (.int .i64 0)).setCell ⟨w.heap.size + 2, 4, none⟩ (.int .i64 0)).setCell ⟨w.heap.size + 2, 5, none⟩ (.int .i64 0)).setCell ⟨w.heap.size + 2, 6, none⟩ (.int .i64 0)).setCell ⟨w.heap.size + 2, 7, none⟩ (.int .i64 0) = V3 := ⟨_, rfl⟩
  rw [hV3] at BB Tt Tg To Fo ⊢
  clear hV3
  have o0 := To 0 _ rfl
  have fo0 := Fo.1 0
  have o1 := To 1 _ rfl
  have fo1 := Fo.1 1
  have o2 := To 2 _ rfl
  have fo2 := Fo.1 2
  have o3 := To 3 _ rfl
  have fo3 := Fo.1 3
  have o4 := To 4 _ rfl
  have fo4 := Fo.1 4
  have o5 := To 5 _ rfl
  have fo5 := Fo.1 5
  have o6 := To 6 _ rfl
  have fo6 := Fo.1 6
  have o7 := To 7 _ rfl
  have fo7 := Fo.1 7
  refine bodyPost_ret (v := .tuple #[zWd.v, .int .i64 9]) (by simp [results, Tryd.results24, go_sem, o0, o1, o2, o3, o4, o5, o6, o7]) rfl ⟨rfl, BB⟩
set_option maxRecDepth 100000 in
set_option maxHeartbeats 4000000 in
theorem judge_d (k s p n c key f y a b : Int) (w : World) (h : formedB ⟨k, s, p, n, c, key, f, y⟩ = true) (h0 : ¬ a < 0) (h1 : ¬ b ≤ a) (h2 : ¬ 1000000000 < b) (h3 : (k != 3) = false) (h4 : nodeB s = true) (h5 : (key != 1000000 + s) = true) :
    Calls Tryd.prog 24 #[(⟨k, s, p, n, c, key, f, y⟩ : Wd).v, .agg #[.int .i64 a, .int .i64 b]] w (Ans (.tuple #[zWd.v, .int .i64 13]) w) := by
  have H := Lib.hid h; clear h
  have H4 := Lib.hid h4; clear h4
  go_enter Tryd.func24, Tryd.ntmps24
  go_wp2_with fail
  have Tt := CAt.new (w) [.int .i64 k, .int .i64 s, .int .i64 p, .int .i64 n, .int .i64 c, .int .i64 key, .int .i64 f, .int .i64 y] 43
  have BB : Below w.heap.size w ((w).alloc (.cells #[.int .i64 k, .int .i64 s, .int .i64 p, .int .i64 n, .int .i64 c, .int .i64 key, .int .i64 f, .int .i64 y] 43)) := ball (Below.refl _ _) _
  have Tg := CAt.new (w.alloc (.cells #[.int .i64 k, .int .i64 s, .int .i64 p, .int .i64 n, .int .i64 c, .int .i64 key, .int .i64 f, .int .i64 y] 43)) [.int .i64 a, .int .i64 b] 35
  replace Tt := Tt.alloc (.cells #[.int .i64 a, .int .i64 b] 35)
  replace BB := ball BB (.cells #[.int .i64 a, .int .i64 b] 35)
  have To := CAt.new ((w.alloc (.cells #[.int .i64 k, .int .i64 s, .int .i64 p, .int .i64 n, .int .i64 c, .int .i64 key, .int .i64 f, .int .i64 y] 43)).alloc (.cells #[.int .i64 a, .int .i64 b] 35)) [.int .i64 0, .int .i64 0, .int .i64 0, .int .i64 0, .int .i64 0, .int .i64 0, .int .i64 0, .int .i64 0] 43
  have Fo := Fz.new ((w.alloc (.cells #[.int .i64 k, .int .i64 s, .int .i64 p, .int .i64 n, .int .i64 c, .int .i64 key, .int .i64 f, .int .i64 y] 43)).alloc (.cells #[.int .i64 a, .int .i64 b] 35)) #[.int .i64 0, .int .i64 0, .int .i64 0, .int .i64 0, .int .i64 0, .int .i64 0, .int .i64 0, .int .i64 0] 43
  replace Tt := Tt.alloc (.cells #[.int .i64 0, .int .i64 0, .int .i64 0, .int .i64 0, .int .i64 0, .int .i64 0, .int .i64 0, .int .i64 0] 43)
  replace Tg := Tg.alloc (.cells #[.int .i64 0, .int .i64 0, .int .i64 0, .int .i64 0, .int .i64 0, .int .i64 0, .int .i64 0, .int .i64 0] 43)
  replace BB := ball BB (.cells #[.int .i64 0, .int .i64 0, .int .i64 0, .int .i64 0, .int .i64 0, .int .i64 0, .int .i64 0, .int .i64 0] 43)
  simp only [World.size_alloc, Nat.add_assoc, Nat.reduceAdd] at Tg To Fo
  obtain ⟨V1, hV1⟩ : ∃ V1, ((w.alloc (.cells #[.int .i64 k, .int .i64 s, .int .i64 p, .int .i64 n, .int .i64 c, .int .i64 key, .int .i64 f, .int .i64 y] 43)).alloc (.cells #[.int .i64 a, .int .i64 b] 35)).alloc (.cells #[.int .i64 0, .int .i64 0, .int .i64 0, .int .i64 0, .int .i64 0, .int .i64 0, .int .i64 0, .int .i64 0] 43) = V1 := ⟨_, rfl⟩
  rw [hV1] at BB Tt Tg To Fo ⊢
  clear hV1
  have t0 := Tt 0 _ rfl
  have t1 := Tt 1 _ rfl
  have t2 := Tt 2 _ rfl
  have t3 := Tt 3 _ rfl
  have t4 := Tt 4 _ rfl
  have t5 := Tt 5 _ rfl
  have t6 := Tt 6 _ rfl
  have t7 := Tt 7 _ rfl
  have g0 := Tg 0 _ rfl
  have g1 := Tg 1 _ rfl
  go_wp2_with fail
  refine (formed_at ⟨k, s, p, n, c, key, f, y⟩ true V1 H.out).mono ?_
  clear t0 t1 t2 t3 t4 t5 t6 t7 g0 g1
  rintro e w2 ⟨rfl, b2⟩
  replace Tt := Tt.keep b2
  replace Tg := Tg.keep b2
  replace To := To.keep b2
  replace Fo := Fo.keep b2
  replace BB := bstep BB b2
  clear b2
  have t0 := Tt 0 _ rfl
  have t1 := Tt 1 _ rfl
  have t2 := Tt 2 _ rfl
  have t3 := Tt 3 _ rfl
  have t4 := Tt 4 _ rfl
  have t5 := Tt 5 _ rfl
  have t6 := Tt 6 _ rfl
  have t7 := Tt 7 _ rfl
  have g0 := Tg 0 _ rfl
  have g1 := Tg 1 _ rfl
  have o0 := To 0 _ rfl
  have fo0 := Fo.1 0
  have o1 := To 1 _ rfl
  have fo1 := Fo.1 1
  have o2 := To 2 _ rfl
  have fo2 := Fo.1 2
  have o3 := To 3 _ rfl
  have fo3 := Fo.1 3
  have o4 := To 4 _ rfl
  have fo4 := Fo.1 4
  have o5 := To 5 _ rfl
  have fo5 := Fo.1 5
  have o6 := To 6 _ rfl
  have fo6 := Fo.1 6
  have o7 := To 7 _ rfl
  have fo7 := Fo.1 7
  go_wp2_with fail
  refine (own_yes s _ H4.out).mono ?_
  rintro e w' ⟨rfl, rfl⟩
  go_wp2_with fail
  simp only [Nat.add_assoc, Nat.reduceAdd]
  clear t0 t1 t2 t3 t4 t5 t6 t7 g0 g1 o0 fo0 o1 fo1 o2 fo2 o3 fo3 o4 fo4 o5 fo5 o6 fo6 o7 fo7
  replace To := To.set 0 (.int .i64 0) (by simp)
  replace Tt := Tt.other (k' := w.heap.size + 2) (by omega) 0 (.int .i64 0)
  replace Tg := Tg.other (k' := w.heap.size + 2) (by omega) 0 (.int .i64 0)
  replace Fo := Fo.set ⟨w.heap.size + 2, 0, none⟩ (.int .i64 0)
  replace BB := BB.setCell (p := ⟨w.heap.size + 2, 0, none⟩) (by first | exact Nat.le_refl _ | (simp only; omega)) (.int .i64 0)
  replace To := To.set 1 (.int .i64 0) (by simp)
  replace Tt := Tt.other (k' := w.heap.size + 2) (by omega) 1 (.int .i64 0)
  replace Tg := Tg.other (k' := w.heap.size + 2) (by omega) 1 (.int .i64 0)
  replace Fo := Fo.set ⟨w.heap.size + 2, 1, none⟩ (.int .i64 0)
  replace BB := BB.setCell (p := ⟨w.heap.size + 2, 1, none⟩) (by first | exact Nat.le_refl _ | (simp only; omega)) (.int .i64 0)
  replace To := To.set 2 (.int .i64 0) (by simp)
  replace Tt := Tt.other (k' := w.heap.size + 2) (by omega) 2 (.int .i64 0)
  replace Tg := Tg.other (k' := w.heap.size + 2) (by omega) 2 (.int .i64 0)
  replace Fo := Fo.set ⟨w.heap.size + 2, 2, none⟩ (.int .i64 0)
  replace BB := BB.setCell (p := ⟨w.heap.size + 2, 2, none⟩) (by first | exact Nat.le_refl _ | (simp only; omega)) (.int .i64 0)
  replace To := To.set 3 (.int .i64 0) (by simp)
  replace Tt := Tt.other (k' := w.heap.size + 2) (by omega) 3 (.int .i64 0)
  replace Tg := Tg.other (k' := w.heap.size + 2) (by omega) 3 (.int .i64 0)
  replace Fo := Fo.set ⟨w.heap.size + 2, 3, none⟩ (.int .i64 0)
  replace BB := BB.setCell (p := ⟨w.heap.size + 2, 3, none⟩) (by first | exact Nat.le_refl _ | (simp only; omega)) (.int .i64 0)
  replace To := To.set 4 (.int .i64 0) (by simp)
  replace Tt := Tt.other (k' := w.heap.size + 2) (by omega) 4 (.int .i64 0)
  replace Tg := Tg.other (k' := w.heap.size + 2) (by omega) 4 (.int .i64 0)
  replace Fo := Fo.set ⟨w.heap.size + 2, 4, none⟩ (.int .i64 0)
  replace BB := BB.setCell (p := ⟨w.heap.size + 2, 4, none⟩) (by first | exact Nat.le_refl _ | (simp only; omega)) (.int .i64 0)
  replace To := To.set 5 (.int .i64 0) (by simp)
  replace Tt := Tt.other (k' := w.heap.size + 2) (by omega) 5 (.int .i64 0)
  replace Tg := Tg.other (k' := w.heap.size + 2) (by omega) 5 (.int .i64 0)
  replace Fo := Fo.set ⟨w.heap.size + 2, 5, none⟩ (.int .i64 0)
  replace BB := BB.setCell (p := ⟨w.heap.size + 2, 5, none⟩) (by first | exact Nat.le_refl _ | (simp only; omega)) (.int .i64 0)
  replace To := To.set 6 (.int .i64 0) (by simp)
  replace Tt := Tt.other (k' := w.heap.size + 2) (by omega) 6 (.int .i64 0)
  replace Tg := Tg.other (k' := w.heap.size + 2) (by omega) 6 (.int .i64 0)
  replace Fo := Fo.set ⟨w.heap.size + 2, 6, none⟩ (.int .i64 0)
  replace BB := BB.setCell (p := ⟨w.heap.size + 2, 6, none⟩) (by first | exact Nat.le_refl _ | (simp only; omega)) (.int .i64 0)
  replace To := To.set 7 (.int .i64 0) (by simp)
  replace Tt := Tt.other (k' := w.heap.size + 2) (by omega) 7 (.int .i64 0)
  replace Tg := Tg.other (k' := w.heap.size + 2) (by omega) 7 (.int .i64 0)
  replace Fo := Fo.set ⟨w.heap.size + 2, 7, none⟩ (.int .i64 0)
  replace BB := BB.setCell (p := ⟨w.heap.size + 2, 7, none⟩) (by first | exact Nat.le_refl _ | (simp only; omega)) (.int .i64 0)
  obtain ⟨V3, hV3⟩ : ∃ V3, (((((((w2.setCell ⟨w.heap.size + 2, 0, none⟩ (.int .i64 0)).setCell ⟨w.heap.size + 2, 1, none⟩ (.int .i64 0)).setCell ⟨w.heap.size + 2, 2, none⟩ (.int .i64 0)).setCell ⟨w.heap.size + 2, 3, none⟩ (.int .i64 0)).setCell ⟨w.heap.size + 2, 4, none⟩ (.int .i64 0)).setCell ⟨w.heap.size + 2, 5, none⟩ (.int .i64 0)).setCell ⟨w.heap.size + 2, 6, none⟩ (.int .i64 0)).setCell ⟨w.heap.size + 2, 7, none⟩ (.int .i64 0) = V3 := ⟨_, rfl⟩
  rw [hV3] at BB Tt Tg To Fo ⊢
  clear hV3
  have o0 := To 0 _ rfl
  have fo0 := Fo.1 0
  have o1 := To 1 _ rfl
  have fo1 := Fo.1 1
  have o2 := To 2 _ rfl
  have fo2 := Fo.1 2
  have o3 := To 3 _ rfl
  have fo3 := Fo.1 3
  have o4 := To 4 _ rfl
  have fo4 := Fo.1 4
  have o5 := To 5 _ rfl
  have fo5 := Fo.1 5
  have o6 := To 6 _ rfl
  have fo6 := Fo.1 6
  have o7 := To 7 _ rfl
  have fo7 := Fo.1 7
  refine bodyPost_ret (v := .tuple #[zWd.v, .int .i64 13]) (by simp [results, Tryd.results24, go_sem, o0, o1, o2, o3, o4, o5, o6, o7]) rfl ⟨rfl, BB⟩
end Go.Proofs.YtgmabjlehjpboaaDoor
