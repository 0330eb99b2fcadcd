/- Proved: what the root says of a proof that it takes. Conditions: those that the theorem names. -/
import Derived.Test.YtgmabjlehjpboaaDoorT6
namespace Go.Proofs.YtgmabjlehjpboaaDoor
open Go.RowKit Go.Sort Go.BigFrame Go.Proofs.YtgmabjlehjpboaaDoor.K
set_option linter.unusedVariables false
set_option linter.unusedSimpArgs false
attribute [local go_sem] cell_alloc_old

set_option maxRecDepth 100000 in
set_option maxHeartbeats 4000000 in
theorem judge_e (k s p n c key f y a b : Int) (w : World) (h : formedB ⟨k, s, p, n, c, key, f, y⟩ = true) (h0 : ¬ a < 0) (h1 : ¬ b ≤ a) (h2 : ¬ 1000000000 < b) (h3 : (k != 3) = false) (h4 : nodeB s = true) (h5 : (key != 1000000 + s) = false) :
    Calls Tryd.prog 24 #[(⟨k, s, p, n, c, key, f, y⟩ : Wd).v, .agg #[.int .i64 a, .int .i64 b]] w (Ans (.tuple #[(⟨4, s, p, n, 0, key, a, b⟩ : Wd).v, .int .i64 0]) w) := by
  have H := Lib.hid h; clear h
  have H4 := Lib.hid h4; clear h4
  go_enter Tryd.func24, Tryd.ntmps24
  go_wp2_with fail
  have Tt := CAt.new (w) [.int .i64 k, .int .i64 s, .int .i64 p, .int .i64 n, .int .i64 c, .int .i64 key, .int .i64 f, .int .i64 y] 43
  have Ft := Fz.new (w) #[.int .i64 k, .int .i64 s, .int .i64 p, .int .i64 n, .int .i64 c, .int .i64 key, .int .i64 f, .int .i64 y] 43
  have BB : Below w.heap.size w ((w).alloc (.cells #[.int .i64 k, .int .i64 s, .int .i64 p, .int .i64 n, .int .i64 c, .int .i64 key, .int .i64 f, .int .i64 y] 43)) := ball (Below.refl _ _) _
  have Tg := CAt.new (w.alloc (.cells #[.int .i64 k, .int .i64 s, .int .i64 p, .int .i64 n, .int .i64 c, .int .i64 key, .int .i64 f, .int .i64 y] 43)) [.int .i64 a, .int .i64 b] 35
  replace Tt := Tt.alloc (.cells #[.int .i64 a, .int .i64 b] 35)
  replace Ft := Ft.alloc (.cells #[.int .i64 a, .int .i64 b] 35)
  replace BB := ball BB (.cells #[.int .i64 a, .int .i64 b] 35)
  have To := CAt.new ((w.alloc (.cells #[.int .i64 k, .int .i64 s, .int .i64 p, .int .i64 n, .int .i64 c, .int .i64 key, .int .i64 f, .int .i64 y] 43)).alloc (.cells #[.int .i64 a, .int .i64 b] 35)) [.int .i64 0, .int .i64 0, .int .i64 0, .int .i64 0, .int .i64 0, .int .i64 0, .int .i64 0, .int .i64 0] 43
  have Fo := Fz.new ((w.alloc (.cells #[.int .i64 k, .int .i64 s, .int .i64 p, .int .i64 n, .int .i64 c, .int .i64 key, .int .i64 f, .int .i64 y] 43)).alloc (.cells #[.int .i64 a, .int .i64 b] 35)) #[.int .i64 0, .int .i64 0, .int .i64 0, .int .i64 0, .int .i64 0, .int .i64 0, .int .i64 0, .int .i64 0] 43
  replace Tt := Tt.alloc (.cells #[.int .i64 0, .int .i64 0, .int .i64 0, .int .i64 0, .int .i64 0, .int .i64 0, .int .i64 0, .int .i64 0] 43)
  replace Tg := Tg.alloc (.cells #[.int .i64 0, .int .i64 0, .int .i64 0, .int .i64 0, .int .i64 0, .int .i64 0, .int .i64 0, .int .i64 0] 43)
  replace Ft := Ft.alloc (.cells #[.int .i64 0, .int .i64 0, .int .i64 0, .int .i64 0, .int .i64 0, .int .i64 0, .int .i64 0, .int .i64 0] 43)
  replace BB := ball BB (.cells #[.int .i64 0, .int .i64 0, .int .i64 0, .int .i64 0, .int .i64 0, .int .i64 0, .int .i64 0, .int .i64 0] 43)
  simp only [World.size_alloc, Nat.add_assoc, Nat.reduceAdd] at Tg To Fo
  obtain ⟨V1, hV1⟩ : ∃ V1, ((w.alloc (.cells #[.int .i64 k, .int .i64 s, .int .i64 p, .int .i64 n, .int .i64 c, .int .i64 key, .int .i64 f, .int .i64 y] 43)).alloc (.cells #[.int .i64 a, .int .i64 b] 35)).alloc (.cells #[.int .i64 0, .int .i64 0, .int .i64 0, .int .i64 0, .int .i64 0, .int .i64 0, .int .i64 0, .int .i64 0] 43) = V1 := ⟨_, rfl⟩
  rw [hV1] at BB Tt Tg To Ft Fo ⊢
  clear hV1
  have t0 := Tt 0 _ rfl
  have ft0 := Ft.1 0
  have t1 := Tt 1 _ rfl
  have ft1 := Ft.1 1
  have t2 := Tt 2 _ rfl
  have ft2 := Ft.1 2
  have t3 := Tt 3 _ rfl
  have ft3 := Ft.1 3
  have t4 := Tt 4 _ rfl
  have ft4 := Ft.1 4
  have t5 := Tt 5 _ rfl
  have ft5 := Ft.1 5
  have t6 := Tt 6 _ rfl
  have ft6 := Ft.1 6
  have t7 := Tt 7 _ rfl
  have ft7 := Ft.1 7
  have g0 := Tg 0 _ rfl
  have g1 := Tg 1 _ rfl
  go_wp2_with fail
  refine (formed_at ⟨k, s, p, n, c, key, f, y⟩ true V1 H.out).mono ?_
  clear t0 ft0 t1 ft1 t2 ft2 t3 ft3 t4 ft4 t5 ft5 t6 ft6 t7 ft7 g0 g1
  rintro e w2 ⟨rfl, b2⟩
  replace Tt := Tt.keep b2
  replace Tg := Tg.keep b2
  replace To := To.keep b2
  replace Ft := Ft.keep b2
  replace Fo := Fo.keep b2
  replace BB := bstep BB b2
  clear b2
  have t0 := Tt 0 _ rfl
  have ft0 := Ft.1 0
  have t1 := Tt 1 _ rfl
  have ft1 := Ft.1 1
  have t2 := Tt 2 _ rfl
  have ft2 := Ft.1 2
  have t3 := Tt 3 _ rfl
  have ft3 := Ft.1 3
  have t4 := Tt 4 _ rfl
  have ft4 := Ft.1 4
  have t5 := Tt 5 _ rfl
  have ft5 := Ft.1 5
  have t6 := Tt 6 _ rfl
  have ft6 := Ft.1 6
  have t7 := Tt 7 _ rfl
  have ft7 := Ft.1 7
  have g0 := Tg 0 _ rfl
  have g1 := Tg 1 _ rfl
  go_wp2_with fail
  refine (own_yes s _ H4.out).mono ?_
  rintro e w' ⟨rfl, rfl⟩
  go_wp2_with fail
  clear t0 ft0 t1 ft1 t2 ft2 t3 ft3 t4 ft4 t5 ft5 t6 ft6 t7 ft7 g0 g1
  have t0 := Tt 0 _ rfl
  have ft0 := Ft.1 0
  have t1 := Tt 1 _ rfl
  have ft1 := Ft.1 1
  have t2 := Tt 2 _ rfl
  have ft2 := Ft.1 2
  have t3 := Tt 3 _ rfl
  have ft3 := Ft.1 3
  have t4 := Tt 4 _ rfl
  have ft4 := Ft.1 4
  have t5 := Tt 5 _ rfl
  have ft5 := Ft.1 5
  have t6 := Tt 6 _ rfl
  have ft6 := Ft.1 6
  have t7 := Tt 7 _ rfl
  have ft7 := Ft.1 7
  have g0 := Tg 0 _ rfl
  have g1 := Tg 1 _ rfl
  go_region
  clear t0 ft0 t1 ft1 t2 ft2 t3 ft3 t4 ft4 t5 ft5 t6 ft6 t7 ft7 g0 g1
  replace Tt := Tt.set 0 (.int .i64 4) (by simp)
  replace Tg := Tg.other (k' := w.heap.size) (by omega) 0 (.int .i64 4)
  replace To := To.other (k' := w.heap.size) (by omega) 0 (.int .i64 4)
  replace Ft := Ft.set ⟨w.heap.size, 0, none⟩ (.int .i64 4)
  replace Fo := Fo.set ⟨w.heap.size, 0, none⟩ (.int .i64 4)
  replace BB := BB.setCell (p := ⟨w.heap.size, 0, none⟩) (by first | exact Nat.le_refl _ | (simp only; omega)) (.int .i64 4)
  obtain ⟨V3, hV3⟩ : ∃ V3, w2.setCell ⟨w.heap.size, 0, none⟩ (.int .i64 4) = V3 := ⟨_, rfl⟩
  rw [hV3] at BB Tt Tg To Ft Fo ⊢
  clear hV3
  replace Tt := Tt.set 4 (.int .i64 0) (by simp)
  replace Tg := Tg.other (k' := w.heap.size) (by omega) 4 (.int .i64 0)
  replace To := To.other (k' := w.heap.size) (by omega) 4 (.int .i64 0)
  replace Ft := Ft.set ⟨w.heap.size, 4, none⟩ (.int .i64 0)
  replace Fo := Fo.set ⟨w.heap.size, 4, none⟩ (.int .i64 0)
  replace BB := BB.setCell (p := ⟨w.heap.size, 4, none⟩) (by first | exact Nat.le_refl _ | (simp only; omega)) (.int .i64 0)
  obtain ⟨V4, hV4⟩ : ∃ V4, V3.setCell ⟨w.heap.size, 4, none⟩ (.int .i64 0) = V4 := ⟨_, rfl⟩
  rw [hV4] at BB Tt Tg To Ft Fo ⊢
  clear hV4
  replace Tt := Tt.set 6 (.int .i64 a) (by simp)
  replace Tg := Tg.other (k' := w.heap.size) (by omega) 6 (.int .i64 a)
  replace To := To.other (k' := w.heap.size) (by omega) 6 (.int .i64 a)
  replace Ft := Ft.set ⟨w.heap.size, 6, none⟩ (.int .i64 a)
  replace Fo := Fo.set ⟨w.heap.size, 6, none⟩ (.int .i64 a)
  replace BB := BB.setCell (p := ⟨w.heap.size, 6, none⟩) (by first | exact Nat.le_refl _ | (simp only; omega)) (.int .i64 a)
  replace Tt := Tt.set 7 (.int .i64 b) (by simp)
  replace Tg := Tg.other (k' := w.heap.size) (by omega) 7 (.int .i64 b)
  replace To := To.other (k' := w.heap.size) (by omega) 7 (.int .i64 b)
  replace Ft := Ft.set ⟨w.heap.size, 7, none⟩ (.int .i64 b)
  replace Fo := Fo.set ⟨w.heap.size, 7, none⟩ (.int .i64 b)
  replace BB := BB.setCell (p := ⟨w.heap.size, 7, none⟩) (by first | exact Nat.le_refl _ | (simp only; omega)) (.int .i64 b)
  obtain ⟨V5, hV5⟩ : ∃ V5, (V4.setCell ⟨w.heap.size, 6, none⟩ (.int .i64 a)).setCell ⟨w.heap.size, 7, none⟩ (.int .i64 b) = V5 := ⟨_, rfl⟩
  rw [hV5] at BB Tt Tg To Ft Fo ⊢
  clear hV5
  replace Tt := Tt.drew; replace Ft := Ft.drew; replace To := To.drew; replace Fo := Fo.drew; replace Tg := Tg.drew
  replace BB : Below w.heap.size w V5.drew := ⟨BB.os, BB.tape, BB.output, BB.size, BB.block⟩
  obtain ⟨V9, hV9⟩ : ∃ V9, V5.drew = V9 := ⟨_, rfl⟩
  rw [hV9] at BB Tt Ft To Fo Tg ⊢
  clear hV9
  have t0 := Tt 0 _ rfl
  have ft0 := Ft.1 0
  have t1 := Tt 1 _ rfl
  have ft1 := Ft.1 1
  have t2 := Tt 2 _ rfl
  have ft2 := Ft.1 2
  have t3 := Tt 3 _ rfl
  have ft3 := Ft.1 3
  have t4 := Tt 4 _ rfl
  have ft4 := Ft.1 4
  have t5 := Tt 5 _ rfl
  have ft5 := Ft.1 5
  have t6 := Tt 6 _ rfl
  have ft6 := Ft.1 6
  have t7 := Tt 7 _ rfl
  have ft7 := Ft.1 7
  have o0 := To 0 _ rfl
  have fo0 := Fo.1 0
  have o1 := To 1 _ rfl
  have fo1 := Fo.1 1
  have o2 := To 2 _ rfl
  have fo2 := Fo.1 2
  have o3 := To 3 _ rfl
  have fo3 := Fo.1 3
  have o4 := To 4 _ rfl
  have fo4 := Fo.1 4
  have o5 := To 5 _ rfl
  have fo5 := Fo.1 5
  have o6 := To 6 _ rfl
  have fo6 := Fo.1 6
  have o7 := To 7 _ rfl
  have fo7 := Fo.1 7
  go_wp2_with fail
  simp only [Nat.add_assoc, Nat.reduceAdd]
  clear t0 ft0 t1 ft1 t2 ft2 t3 ft3 t4 ft4 t5 ft5 t6 ft6 t7 ft7 o0 fo0 o1 fo1 o2 fo2 o3 fo3 o4 fo4 o5 fo5 o6 fo6 o7 fo7
  replace To := To.set 0 (.int .i64 4) (by simp)
  replace Tt := Tt.other (k' := w.heap.size + 2) (by omega) 0 (.int .i64 4)
  replace Tg := Tg.other (k' := w.heap.size + 2) (by omega) 0 (.int .i64 4)
  replace Ft := Ft.set ⟨w.heap.size + 2, 0, none⟩ (.int .i64 4)
  replace Fo := Fo.set ⟨w.heap.size + 2, 0, none⟩ (.int .i64 4)
  replace BB := BB.setCell (p := ⟨w.heap.size + 2, 0, none⟩) (by first | exact Nat.le_refl _ | (simp only; omega)) (.int .i64 4)
  replace To := To.set 1 (.int .i64 s) (by simp)
  replace Tt := Tt.other (k' := w.heap.size + 2) (by omega) 1 (.int .i64 s)
  replace Tg := Tg.other (k' := w.heap.size + 2) (by omega) 1 (.int .i64 s)
  replace Ft := Ft.set ⟨w.heap.size + 2, 1, none⟩ (.int .i64 s)
  replace Fo := Fo.set ⟨w.heap.size + 2, 1, none⟩ (.int .i64 s)
  replace BB := BB.setCell (p := ⟨w.heap.size + 2, 1, none⟩) (by first | exact Nat.le_refl _ | (simp only; omega)) (.int .i64 s)
  replace To := To.set 2 (.int .i64 p) (by simp)
  replace Tt := Tt.other (k' := w.heap.size + 2) (by omega) 2 (.int .i64 p)
  replace Tg := Tg.other (k' := w.heap.size + 2) (by omega) 2 (.int .i64 p)
  replace Ft := Ft.set ⟨w.heap.size + 2, 2, none⟩ (.int .i64 p)
  replace Fo := Fo.set ⟨w.heap.size + 2, 2, none⟩ (.int .i64 p)
  replace BB := BB.setCell (p := ⟨w.heap.size + 2, 2, none⟩) (by first | exact Nat.le_refl _ | (simp only; omega)) (.int .i64 p)
  replace To := To.set 3 (.int .i64 n) (by simp)
  replace Tt := Tt.other (k' := w.heap.size + 2) (by omega) 3 (.int .i64 n)
  replace Tg := Tg.other (k' := w.heap.size + 2) (by omega) 3 (.int .i64 n)
  replace Ft := Ft.set ⟨w.heap.size + 2, 3, none⟩ (.int .i64 n)
  replace Fo := Fo.set ⟨w.heap.size + 2, 3, none⟩ (.int .i64 n)
  replace BB := BB.setCell (p := ⟨w.heap.size + 2, 3, none⟩) (by first | exact Nat.le_refl _ | (simp only; omega)) (.int .i64 n)
  replace To := To.set 4 (.int .i64 0) (by simp)
  replace Tt := Tt.other (k' := w.heap.size + 2) (by omega) 4 (.int .i64 0)
  replace Tg := Tg.other (k' := w.heap.size + 2) (by omega) 4 (.int .i64 0)
  replace Ft := Ft.set ⟨w.heap.size + 2, 4, none⟩ (.int .i64 0)
  replace Fo := Fo.set ⟨w.heap.size + 2, 4, none⟩ (.int .i64 0)
  replace BB := BB.setCell (p := ⟨w.heap.size + 2, 4, none⟩) (by first | exact Nat.le_refl _ | (simp only; omega)) (.int .i64 0)
  replace To := To.set 5 (.int .i64 key) (by simp)
  replace Tt := Tt.other (k' := w.heap.size + 2) (by omega) 5 (.int .i64 key)
  replace Tg := Tg.other (k' := w.heap.size + 2) (by omega) 5 (.int .i64 key)
  replace Ft := Ft.set ⟨w.heap.size + 2, 5, none⟩ (.int .i64 key)
  replace Fo := Fo.set ⟨w.heap.size + 2, 5, none⟩ (.int .i64 key)
  replace BB := BB.setCell (p := ⟨w.heap.size + 2, 5, none⟩) (by first | exact Nat.le_refl _ | (simp only; omega)) (.int .i64 key)
  replace To := To.set 6 (.int .i64 a) (by simp)
  replace Tt := Tt.other (k' := w.heap.size + 2) (by omega) 6 (.int .i64 a)
  replace Tg := Tg.other (k' := w.heap.size + 2) (by omega) 6 (.int .i64 a)
  replace Ft := Ft.set ⟨w.heap.size + 2, 6, none⟩ (.int .i64 a)
  replace Fo := Fo.set ⟨w.heap.size + 2, 6, none⟩ (.int .i64 a)
  replace BB := BB.setCell (p := ⟨w.heap.size + 2, 6, none⟩) (by first | exact Nat.le_refl _ | (simp only; omega)) (.int .i64 a)
  replace To := To.set 7 (.int .i64 b) (by simp)
  replace Tt := Tt.other (k' := w.heap.size + 2) (by omega) 7 (.int .i64 b)
  replace Tg := Tg.other (k' := w.heap.size + 2) (by omega) 7 (.int .i64 b)
  replace Ft := Ft.set ⟨w.heap.size + 2, 7, none⟩ (.int .i64 b)
  replace Fo := Fo.set ⟨w.heap.size + 2, 7, none⟩ (.int .i64 b)
  replace BB := BB.setCell (p := ⟨w.heap.size + 2, 7, none⟩) (by first | exact Nat.le_refl _ | (simp only; omega)) (.int .i64 b)
  obtain ⟨V6, hV6⟩ : ∃ V6, (((((((V9.setCell ⟨w.heap.size + 2, 0, none⟩ (.int .i64 4)).setCell ⟨w.heap.size + 2, 1, none⟩ (.int .i64 s)).setCell ⟨w.heap.size + 2, 2, none⟩ (.int .i64 p)).setCell ⟨w.heap.size + 2, 3, none⟩ (.int .i64 n)).setCell ⟨w.heap.size + 2, 4, none⟩ (.int .i64 0)).setCell ⟨w.heap.size + 2, 5, none⟩ (.int .i64 key)).setCell ⟨w.heap.size + 2, 6, none⟩ (.int .i64 a)).setCell ⟨w.heap.size + 2, 7, none⟩ (.int .i64 b) = V6 := ⟨_, rfl⟩
  rw [hV6] at BB Tt Tg To Ft Fo ⊢
  clear hV6
  have o0 := To 0 _ rfl
  have fo0 := Fo.1 0
  have o1 := To 1 _ rfl
  have fo1 := Fo.1 1
  have o2 := To 2 _ rfl
  have fo2 := Fo.1 2
  have o3 := To 3 _ rfl
  have fo3 := Fo.1 3
  have o4 := To 4 _ rfl
  have fo4 := Fo.1 4
  have o5 := To 5 _ rfl
  have fo5 := Fo.1 5
  have o6 := To 6 _ rfl
  have fo6 := Fo.1 6
  have o7 := To 7 _ rfl
  have fo7 := Fo.1 7
  refine bodyPost_ret (v := .tuple #[(⟨4, s, p, n, 0, key, a, b⟩ : Wd).v, .int .i64 0]) (by simp [results, Tryd.results24, go_sem, o0, o1, o2, o3, o4, o5, o6, o7]) rfl ⟨rfl, BB⟩
end Go.Proofs.YtgmabjlehjpboaaDoor
