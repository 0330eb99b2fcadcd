/- Proved: what Renew of package rank and of its reference returns. Conditions: none. -/
import Derived.Test.YtbonchnhngaicaaX8
namespace Go.Proofs.Ytbonchnhngaicaa
open Go.RowKit Go.Sort Go.BigFrame
set_option linter.unusedVariables false
set_option linter.unusedSimpArgs false
attribute [local go_sem] cell_alloc_old

set_option maxRecDepth 100000 in
set_option maxHeartbeats 1000000 in
theorem renew_0 (r : Rt) (q : Int) (w : World) (hv : Hid (validR r = false)) : Calls Try.prog 20 #[r.v, .int .i64 q] w (Gives r.v w) := by
  go_enter Try.func20, Try.ntmps20
  go_wp2_with fail
  have Tt := CAt.new (w) [.int .i64 r.o.s, .int .i64 r.o.r, .int .i64 r.l.s, .int .i64 r.l.r, .int .i64 r.p] 25
  have BB : Below w.heap.size w ((w).alloc (.cells #[.int .i64 r.o.s, .int .i64 r.o.r, .int .i64 r.l.s, .int .i64 r.l.r, .int .i64 r.p] 25)) := ball (Below.refl _ _) _
  have Tres := CAt.new (w.alloc (.cells #[.int .i64 r.o.s, .int .i64 r.o.r, .int .i64 r.l.s, .int .i64 r.l.r, .int .i64 r.p] 25)) [.int .i64 0, .int .i64 0, .int .i64 0, .int .i64 0, .int .i64 0] 25
  have Fres := Fz.new (w.alloc (.cells #[.int .i64 r.o.s, .int .i64 r.o.r, .int .i64 r.l.s, .int .i64 r.l.r, .int .i64 r.p] 25)) #[.int .i64 0, .int .i64 0, .int .i64 0, .int .i64 0, .int .i64 0] 25
  replace Tt := Tt.alloc (.cells #[.int .i64 0, .int .i64 0, .int .i64 0, .int .i64 0, .int .i64 0] 25)
  replace BB := ball BB (.cells #[.int .i64 0, .int .i64 0, .int .i64 0, .int .i64 0, .int .i64 0] 25)
  simp only [World.size_alloc, Nat.add_assoc, Nat.reduceAdd] at Tres Fres
  obtain ⟨V1, hV1⟩ : ∃ V1, (w.alloc (.cells #[.int .i64 r.o.s, .int .i64 r.o.r, .int .i64 r.l.s, .int .i64 r.l.r, .int .i64 r.p] 25)).alloc (.cells #[.int .i64 0, .int .i64 0, .int .i64 0, .int .i64 0, .int .i64 0] 25) = V1 := ⟨_, rfl⟩
  rw [hV1] at BB Tt Tres Fres ⊢
  clear hV1
  refine (isroute_at r _ _ hv.out).mono ?_
  rintro e w2 ⟨rfl, b2⟩
  replace Tt := Tt.keep b2
  replace Tres := Tres.keep b2
  replace Fres := Fres.keep b2
  replace BB := bstep BB b2
  clear b2
  have t0 := Tt 0 _ rfl
  have t1 := Tt 1 _ rfl
  have t2 := Tt 2 _ rfl
  have t3 := Tt 3 _ rfl
  have t4 := Tt 4 _ rfl
  have res0 := Tres 0 _ rfl
  have fres0 := Fres.1 0
  have res1 := Tres 1 _ rfl
  have fres1 := Fres.1 1
  have res2 := Tres 2 _ rfl
  have fres2 := Fres.1 2
  have res3 := Tres 3 _ rfl
  have fres3 := Fres.1 3
  have res4 := Tres 4 _ rfl
  have fres4 := Fres.1 4
  go_wp2_with fail
  clear t0 t1 t2 t3 t4 res0 fres0 res1 fres1 res2 fres2 res3 fres3 res4 fres4
  replace Tres := Tres.set 0 (.int .i64 r.o.s) (by simp)
  replace Tt := Tt.other (k' := w.heap.size + 1) (by omega) 0 (.int .i64 r.o.s)
  replace Fres := Fres.set ⟨w.heap.size + 1, 0, none⟩ (.int .i64 r.o.s)
  replace BB := BB.setCell (p := ⟨w.heap.size + 1, 0, none⟩) (by first | exact Nat.le_refl _ | (simp only; omega)) (.int .i64 r.o.s)
  replace Tres := Tres.set 1 (.int .i64 r.o.r) (by simp)
  replace Tt := Tt.other (k' := w.heap.size + 1) (by omega) 1 (.int .i64 r.o.r)
  replace Fres := Fres.set ⟨w.heap.size + 1, 1, none⟩ (.int .i64 r.o.r)
  replace BB := BB.setCell (p := ⟨w.heap.size + 1, 1, none⟩) (by first | exact Nat.le_refl _ | (simp only; omega)) (.int .i64 r.o.r)
  replace Tres := Tres.set 2 (.int .i64 r.l.s) (by simp)
  replace Tt := Tt.other (k' := w.heap.size + 1) (by omega) 2 (.int .i64 r.l.s)
  replace Fres := Fres.set ⟨w.heap.size + 1, 2, none⟩ (.int .i64 r.l.s)
  replace BB := BB.setCell (p := ⟨w.heap.size + 1, 2, none⟩) (by first | exact Nat.le_refl _ | (simp only; omega)) (.int .i64 r.l.s)
  replace Tres := Tres.set 3 (.int .i64 r.l.r) (by simp)
  replace Tt := Tt.other (k' := w.heap.size + 1) (by omega) 3 (.int .i64 r.l.r)
  replace Fres := Fres.set ⟨w.heap.size + 1, 3, none⟩ (.int .i64 r.l.r)
  replace BB := BB.setCell (p := ⟨w.heap.size + 1, 3, none⟩) (by first | exact Nat.le_refl _ | (simp only; omega)) (.int .i64 r.l.r)
  replace Tres := Tres.set 4 (.int .i64 r.p) (by simp)
  replace Tt := Tt.other (k' := w.heap.size + 1) (by omega) 4 (.int .i64 r.p)
  replace Fres := Fres.set ⟨w.heap.size + 1, 4, none⟩ (.int .i64 r.p)
  replace BB := BB.setCell (p := ⟨w.heap.size + 1, 4, none⟩) (by first | exact Nat.le_refl _ | (simp only; omega)) (.int .i64 r.p)
  obtain ⟨V3, hV3⟩ : ∃ V3, ((((w2.setCell ⟨w.heap.size + 1, 0, none⟩ (.int .i64 r.o.s)).setCell ⟨w.heap.size + 1, 1, none⟩ (.int .i64 r.o.r)).setCell ⟨w.heap.size + 1, 2, none⟩ (.int .i64 r.l.s)).setCell ⟨w.heap.size + 1, 3, none⟩ (.int .i64 r.l.r)).setCell ⟨w.heap.size + 1, 4, none⟩ (.int .i64 r.p) = V3 := ⟨_, rfl⟩
  rw [hV3] at BB Tt Tres Fres ⊢
  clear hV3
  have res0 := Tres 0 _ rfl
  have fres0 := Fres.1 0
  have res1 := Tres 1 _ rfl
  have fres1 := Fres.1 1
  have res2 := Tres 2 _ rfl
  have fres2 := Fres.1 2
  have res3 := Tres 3 _ rfl
  have fres3 := Fres.1 3
  have res4 := Tres 4 _ rfl
  have fres4 := Fres.1 4
  refine bodyPost_ret (v := r.v) (by simp [results, Try.results20, go_sem, loseV, res0, res1, res2, res3, res4]) rfl ⟨rfl, BB⟩
set_option maxRecDepth 100000 in
set_option maxHeartbeats 1000000 in
theorem renew_1 (r : Rt) (q : Int) (w : World) (hv : Hid (validR r = true)) (h1 : 1000000000 < q) : Calls Try.prog 20 #[r.v, .int .i64 q] w (Gives r.v w) := by
  go_enter Try.func20, Try.ntmps20
  go_wp2_with fail
  have Tt := CAt.new (w) [.int .i64 r.o.s, .int .i64 r.o.r, .int .i64 r.l.s, .int .i64 r.l.r, .int .i64 r.p] 25
  have BB : Below w.heap.size w ((w).alloc (.cells #[.int .i64 r.o.s, .int .i64 r.o.r, .int .i64 r.l.s, .int .i64 r.l.r, .int .i64 r.p] 25)) := ball (Below.refl _ _) _
  have Tres := CAt.new (w.alloc (.cells #[.int .i64 r.o.s, .int .i64 r.o.r, .int .i64 r.l.s, .int .i64 r.l.r, .int .i64 r.p] 25)) [.int .i64 0, .int .i64 0, .int .i64 0, .int .i64 0, .int .i64 0] 25
  have Fres := Fz.new (w.alloc (.cells #[.int .i64 r.o.s, .int .i64 r.o.r, .int .i64 r.l.s, .int .i64 r.l.r, .int .i64 r.p] 25)) #[.int .i64 0, .int .i64 0, .int .i64 0, .int .i64 0, .int .i64 0] 25
  replace Tt := Tt.alloc (.cells #[.int .i64 0, .int .i64 0, .int .i64 0, .int .i64 0, .int .i64 0] 25)
  replace BB := ball BB (.cells #[.int .i64 0, .int .i64 0, .int .i64 0, .int .i64 0, .int .i64 0] 25)
  simp only [World.size_alloc, Nat.add_assoc, Nat.reduceAdd] at Tres Fres
  obtain ⟨V1, hV1⟩ : ∃ V1, (w.alloc (.cells #[.int .i64 r.o.s, .int .i64 r.o.r, .int .i64 r.l.s, .int .i64 r.l.r, .int .i64 r.p] 25)).alloc (.cells #[.int .i64 0, .int .i64 0, .int .i64 0, .int .i64 0, .int .i64 0] 25) = V1 := ⟨_, rfl⟩
  rw [hV1] at BB Tt Tres Fres ⊢
  clear hV1
  refine (isroute_at r _ _ hv.out).mono ?_
  rintro e w2 ⟨rfl, b2⟩
  replace Tt := Tt.keep b2
  replace Tres := Tres.keep b2
  replace Fres := Fres.keep b2
  replace BB := bstep BB b2
  clear b2
  have t0 := Tt 0 _ rfl
  have t1 := Tt 1 _ rfl
  have t2 := Tt 2 _ rfl
  have t3 := Tt 3 _ rfl
  have t4 := Tt 4 _ rfl
  have res0 := Tres 0 _ rfl
  have fres0 := Fres.1 0
  have res1 := Tres 1 _ rfl
  have fres1 := Fres.1 1
  have res2 := Tres 2 _ rfl
  have fres2 := Fres.1 2
  have res3 := Tres 3 _ rfl
  have fres3 := Fres.1 3
  have res4 := Tres 4 _ rfl
  have fres4 := Fres.1 4
  go_wp2_with fail
  clear t0 t1 t2 t3 t4 res0 fres0 res1 fres1 res2 fres2 res3 fres3 res4 fres4
  replace Tres := Tres.set 0 (.int .i64 r.o.s) (by simp)
  replace Tt := Tt.other (k' := w.heap.size + 1) (by omega) 0 (.int .i64 r.o.s)
  replace Fres := Fres.set ⟨w.heap.size + 1, 0, none⟩ (.int .i64 r.o.s)
  replace BB := BB.setCell (p := ⟨w.heap.size + 1, 0, none⟩) (by first | exact Nat.le_refl _ | (simp only; omega)) (.int .i64 r.o.s)
  replace Tres := Tres.set 1 (.int .i64 r.o.r) (by simp)
  replace Tt := Tt.other (k' := w.heap.size + 1) (by omega) 1 (.int .i64 r.o.r)
  replace Fres := Fres.set ⟨w.heap.size + 1, 1, none⟩ (.int .i64 r.o.r)
  replace BB := BB.setCell (p := ⟨w.heap.size + 1, 1, none⟩) (by first | exact Nat.le_refl _ | (simp only; omega)) (.int .i64 r.o.r)
  replace Tres := Tres.set 2 (.int .i64 r.l.s) (by simp)
  replace Tt := Tt.other (k' := w.heap.size + 1) (by omega) 2 (.int .i64 r.l.s)
  replace Fres := Fres.set ⟨w.heap.size + 1, 2, none⟩ (.int .i64 r.l.s)
  replace BB := BB.setCell (p := ⟨w.heap.size + 1, 2, none⟩) (by first | exact Nat.le_refl _ | (simp only; omega)) (.int .i64 r.l.s)
  replace Tres := Tres.set 3 (.int .i64 r.l.r) (by simp)
  replace Tt := Tt.other (k' := w.heap.size + 1) (by omega) 3 (.int .i64 r.l.r)
  replace Fres := Fres.set ⟨w.heap.size + 1, 3, none⟩ (.int .i64 r.l.r)
  replace BB := BB.setCell (p := ⟨w.heap.size + 1, 3, none⟩) (by first | exact Nat.le_refl _ | (simp only; omega)) (.int .i64 r.l.r)
  replace Tres := Tres.set 4 (.int .i64 r.p) (by simp)
  replace Tt := Tt.other (k' := w.heap.size + 1) (by omega) 4 (.int .i64 r.p)
  replace Fres := Fres.set ⟨w.heap.size + 1, 4, none⟩ (.int .i64 r.p)
  replace BB := BB.setCell (p := ⟨w.heap.size + 1, 4, none⟩) (by first | exact Nat.le_refl _ | (simp only; omega)) (.int .i64 r.p)
  obtain ⟨V3, hV3⟩ : ∃ V3, ((((w2.setCell ⟨w.heap.size + 1, 0, none⟩ (.int .i64 r.o.s)).setCell ⟨w.heap.size + 1, 1, none⟩ (.int .i64 r.o.r)).setCell ⟨w.heap.size + 1, 2, none⟩ (.int .i64 r.l.s)).setCell ⟨w.heap.size + 1, 3, none⟩ (.int .i64 r.l.r)).setCell ⟨w.heap.size + 1, 4, none⟩ (.int .i64 r.p) = V3 := ⟨_, rfl⟩
  rw [hV3] at BB Tt Tres Fres ⊢
  clear hV3
  have res0 := Tres 0 _ rfl
  have fres0 := Fres.1 0
  have res1 := Tres 1 _ rfl
  have fres1 := Fres.1 1
  have res2 := Tres 2 _ rfl
  have fres2 := Fres.1 2
  have res3 := Tres 3 _ rfl
  have fres3 := Fres.1 3
  have res4 := Tres 4 _ rfl
  have fres4 := Fres.1 4
  refine bodyPost_ret (v := r.v) (by simp [results, Try.results20, go_sem, loseV, res0, res1, res2, res3, res4]) rfl ⟨rfl, BB⟩
set_option maxRecDepth 100000 in
set_option maxHeartbeats 1000000 in
theorem renew_2 (r : Rt) (q : Int) (w : World) (hv : Hid (validR r = true)) (h1 : q ≤ 1000000000) (hb : Hid (betterB ⟨q, 0⟩ r.l = false)) : Calls Try.prog 20 #[r.v, .int .i64 q] w (Gives r.v w) := by
  go_enter Try.func20, Try.ntmps20
  go_wp2_with fail
  have Tt := CAt.new (w) [.int .i64 r.o.s, .int .i64 r.o.r, .int .i64 r.l.s, .int .i64 r.l.r, .int .i64 r.p] 25
  have BB : Below w.heap.size w ((w).alloc (.cells #[.int .i64 r.o.s, .int .i64 r.o.r, .int .i64 r.l.s, .int .i64 r.l.r, .int .i64 r.p] 25)) := ball (Below.refl _ _) _
  have Tres := CAt.new (w.alloc (.cells #[.int .i64 r.o.s, .int .i64 r.o.r, .int .i64 r.l.s, .int .i64 r.l.r, .int .i64 r.p] 25)) [.int .i64 0, .int .i64 0, .int .i64 0, .int .i64 0, .int .i64 0] 25
  have Fres := Fz.new (w.alloc (.cells #[.int .i64 r.o.s, .int .i64 r.o.r, .int .i64 r.l.s, .int .i64 r.l.r, .int .i64 r.p] 25)) #[.int .i64 0, .int .i64 0, .int .i64 0, .int .i64 0, .int .i64 0] 25
  replace Tt := Tt.alloc (.cells #[.int .i64 0, .int .i64 0, .int .i64 0, .int .i64 0, .int .i64 0] 25)
  replace BB := ball BB (.cells #[.int .i64 0, .int .i64 0, .int .i64 0, .int .i64 0, .int .i64 0] 25)
  simp only [World.size_alloc, Nat.add_assoc, Nat.reduceAdd] at Tres Fres
  obtain ⟨V1, hV1⟩ : ∃ V1, (w.alloc (.cells #[.int .i64 r.o.s, .int .i64 r.o.r, .int .i64 r.l.s, .int .i64 r.l.r, .int .i64 r.p] 25)).alloc (.cells #[.int .i64 0, .int .i64 0, .int .i64 0, .int .i64 0, .int .i64 0] 25) = V1 := ⟨_, rfl⟩
  rw [hV1] at BB Tt Tres Fres ⊢
  clear hV1
  refine (isroute_at r _ _ hv.out).mono ?_
  rintro e w2 ⟨rfl, b2⟩
  replace Tt := Tt.keep b2
  replace Tres := Tres.keep b2
  replace Fres := Fres.keep b2
  replace BB := bstep BB b2
  clear b2
  have t0 := Tt 0 _ rfl
  have t1 := Tt 1 _ rfl
  have t2 := Tt 2 _ rfl
  have t3 := Tt 3 _ rfl
  have t4 := Tt 4 _ rfl
  have res0 := Tres 0 _ rfl
  have fres0 := Fres.1 0
  have res1 := Tres 1 _ rfl
  have fres1 := Fres.1 1
  have res2 := Tres 2 _ rfl
  have fres2 := Fres.1 2
  have res3 := Tres 3 _ rfl
  have fres3 := Fres.1 3
  have res4 := Tres 4 _ rfl
  have fres4 := Fres.1 4
  go_wp2_with fail
  refine (better_at ⟨q, 0⟩ r.l _ _ hb.out).mono ?_
  clear t0 t1 t2 t3 t4 res0 fres0 res1 fres1 res2 fres2 res3 fres3 res4 fres4
  rintro e w3 ⟨rfl, b3⟩
  replace Tt := Tt.keep b3
  replace Tres := Tres.keep b3
  replace Fres := Fres.keep b3
  replace BB := bstep BB b3
  clear b3
  have t0 := Tt 0 _ rfl
  have t1 := Tt 1 _ rfl
  have t2 := Tt 2 _ rfl
  have t3 := Tt 3 _ rfl
  have t4 := Tt 4 _ rfl
  have res0 := Tres 0 _ rfl
  have fres0 := Fres.1 0
  have res1 := Tres 1 _ rfl
  have fres1 := Fres.1 1
  have res2 := Tres 2 _ rfl
  have fres2 := Fres.1 2
  have res3 := Tres 3 _ rfl
  have fres3 := Fres.1 3
  have res4 := Tres 4 _ rfl
  have fres4 := Fres.1 4
  go_wp2_with fail
  clear t0 t1 t2 t3 t4 res0 fres0 res1 fres1 res2 fres2 res3 fres3 res4 fres4
  replace Tres := Tres.set 0 (.int .i64 r.o.s) (by simp)
  replace Tt := Tt.other (k' := w.heap.size + 1) (by omega) 0 (.int .i64 r.o.s)
  replace Fres := Fres.set ⟨w.heap.size + 1, 0, none⟩ (.int .i64 r.o.s)
  replace BB := BB.setCell (p := ⟨w.heap.size + 1, 0, none⟩) (by first | exact Nat.le_refl _ | (simp only; omega)) (.int .i64 r.o.s)
  replace Tres := Tres.set 1 (.int .i64 r.o.r) (by simp)
  replace Tt := Tt.other (k' := w.heap.size + 1) (by omega) 1 (.int .i64 r.o.r)
  replace Fres := Fres.set ⟨w.heap.size + 1, 1, none⟩ (.int .i64 r.o.r)
  replace BB := BB.setCell (p := ⟨w.heap.size + 1, 1, none⟩) (by first | exact Nat.le_refl _ | (simp only; omega)) (.int .i64 r.o.r)
  replace Tres := Tres.set 2 (.int .i64 r.l.s) (by simp)
  replace Tt := Tt.other (k' := w.heap.size + 1) (by omega) 2 (.int .i64 r.l.s)
  replace Fres := Fres.set ⟨w.heap.size + 1, 2, none⟩ (.int .i64 r.l.s)
  replace BB := BB.setCell (p := ⟨w.heap.size + 1, 2, none⟩) (by first | exact Nat.le_refl _ | (simp only; omega)) (.int .i64 r.l.s)
  replace Tres := Tres.set 3 (.int .i64 r.l.r) (by simp)
  replace Tt := Tt.other (k' := w.heap.size + 1) (by omega) 3 (.int .i64 r.l.r)
  replace Fres := Fres.set ⟨w.heap.size + 1, 3, none⟩ (.int .i64 r.l.r)
  replace BB := BB.setCell (p := ⟨w.heap.size + 1, 3, none⟩) (by first | exact Nat.le_refl _ | (simp only; omega)) (.int .i64 r.l.r)
  replace Tres := Tres.set 4 (.int .i64 r.p) (by simp)
  replace Tt := Tt.other (k' := w.heap.size + 1) (by omega) 4 (.int .i64 r.p)
  replace Fres := Fres.set ⟨w.heap.size + 1, 4, none⟩ (.int .i64 r.p)
  replace BB := BB.setCell (p := ⟨w.heap.size + 1, 4, none⟩) (by first | exact Nat.le_refl _ | (simp only; omega)) (.int .i64 r.p)
  obtain ⟨V4, hV4⟩ : ∃ V4, ((((w3.setCell ⟨w.heap.size + 1, 0, none⟩ (.int .i64 r.o.s)).setCell ⟨w.heap.size + 1, 1, none⟩ (.int .i64 r.o.r)).setCell ⟨w.heap.size + 1, 2, none⟩ (.int .i64 r.l.s)).setCell ⟨w.heap.size + 1, 3, none⟩ (.int .i64 r.l.r)).setCell ⟨w.heap.size + 1, 4, none⟩ (.int .i64 r.p) = V4 := ⟨_, rfl⟩
  rw [hV4] at BB Tt Tres Fres ⊢
  clear hV4
  have res0 := Tres 0 _ rfl
  have fres0 := Fres.1 0
  have res1 := Tres 1 _ rfl
  have fres1 := Fres.1 1
  have res2 := Tres 2 _ rfl
  have fres2 := Fres.1 2
  have res3 := Tres 3 _ rfl
  have fres3 := Fres.1 3
  have res4 := Tres 4 _ rfl
  have fres4 := Fres.1 4
  refine bodyPost_ret (v := r.v) (by simp [results, Try.results20, go_sem, loseV, res0, res1, res2, res3, res4]) rfl ⟨rfl, BB⟩
set_option maxRecDepth 100000 in
set_option maxHeartbeats 1000000 in
theorem renew_3 (r : Rt) (q : Int) (w : World) (hv : Hid (validR r = true)) (h1 : q ≤ 1000000000) (h0 : 0 ≤ q) (hb : Hid (betterB ⟨q, 0⟩ r.l = true)) : Calls Try.prog 20 #[r.v, .int .i64 q] w (Gives (⟨⟨q, 0⟩, ⟨q, 0⟩, -1⟩ : Rt).v w) := by
  have hst : startV true q = ⟨⟨q, 0⟩, ⟨q, 0⟩, -1⟩ := by simp [startV, h0, h1]
  have HST := Lib.hid hst; clear hst
  go_enter Try.func20, Try.ntmps20
  go_wp2_with fail
  have Tt := CAt.new (w) [.int .i64 r.o.s, .int .i64 r.o.r, .int .i64 r.l.s, .int .i64 r.l.r, .int .i64 r.p] 25
  have BB : Below w.heap.size w ((w).alloc (.cells #[.int .i64 r.o.s, .int .i64 r.o.r, .int .i64 r.l.s, .int .i64 r.l.r, .int .i64 r.p] 25)) := ball (Below.refl _ _) _
  have Tres := CAt.new (w.alloc (.cells #[.int .i64 r.o.s, .int .i64 r.o.r, .int .i64 r.l.s, .int .i64 r.l.r, .int .i64 r.p] 25)) [.int .i64 0, .int .i64 0, .int .i64 0, .int .i64 0, .int .i64 0] 25
  have Fres := Fz.new (w.alloc (.cells #[.int .i64 r.o.s, .int .i64 r.o.r, .int .i64 r.l.s, .int .i64 r.l.r, .int .i64 r.p] 25)) #[.int .i64 0, .int .i64 0, .int .i64 0, .int .i64 0, .int .i64 0] 25
  replace Tt := Tt.alloc (.cells #[.int .i64 0, .int .i64 0, .int .i64 0, .int .i64 0, .int .i64 0] 25)
  replace BB := ball BB (.cells #[.int .i64 0, .int .i64 0, .int .i64 0, .int .i64 0, .int .i64 0] 25)
  simp only [World.size_alloc, Nat.add_assoc, Nat.reduceAdd] at Tres Fres
  obtain ⟨V1, hV1⟩ : ∃ V1, (w.alloc (.cells #[.int .i64 r.o.s, .int .i64 r.o.r, .int .i64 r.l.s, .int .i64 r.l.r, .int .i64 r.p] 25)).alloc (.cells #[.int .i64 0, .int .i64 0, .int .i64 0, .int .i64 0, .int .i64 0] 25) = V1 := ⟨_, rfl⟩
  rw [hV1] at BB Tt Tres Fres ⊢
  clear hV1
  refine (isroute_at r _ _ hv.out).mono ?_
  rintro e w2 ⟨rfl, b2⟩
  replace Tt := Tt.keep b2
  replace Tres := Tres.keep b2
  replace Fres := Fres.keep b2
  replace BB := bstep BB b2
  clear b2
  have t0 := Tt 0 _ rfl
  have t1 := Tt 1 _ rfl
  have t2 := Tt 2 _ rfl
  have t3 := Tt 3 _ rfl
  have t4 := Tt 4 _ rfl
  have res0 := Tres 0 _ rfl
  have fres0 := Fres.1 0
  have res1 := Tres 1 _ rfl
  have fres1 := Fres.1 1
  have res2 := Tres 2 _ rfl
  have fres2 := Fres.1 2
  have res3 := Tres 3 _ rfl
  have fres3 := Fres.1 3
  have res4 := Tres 4 _ rfl
  have fres4 := Fres.1 4
  go_wp2_with fail
  refine (better_at ⟨q, 0⟩ r.l _ _ hb.out).mono ?_
  clear t0 t1 t2 t3 t4 res0 fres0 res1 fres1 res2 fres2 res3 fres3 res4 fres4
  rintro e w3 ⟨rfl, b3⟩
  replace Tt := Tt.keep b3
  replace Tres := Tres.keep b3
  replace Fres := Fres.keep b3
  replace BB := bstep BB b3
  clear b3
  have t0 := Tt 0 _ rfl
  have t1 := Tt 1 _ rfl
  have t2 := Tt 2 _ rfl
  have t3 := Tt 3 _ rfl
  have t4 := Tt 4 _ rfl
  have res0 := Tres 0 _ rfl
  have fres0 := Fres.1 0
  have res1 := Tres 1 _ rfl
  have fres1 := Fres.1 1
  have res2 := Tres 2 _ rfl
  have fres2 := Fres.1 2
  have res3 := Tres 3 _ rfl
  have fres3 := Fres.1 3
  have res4 := Tres 4 _ rfl
  have fres4 := Fres.1 4
  go_wp2_with fail
  refine (start_at true q _ _ HST.out).mono ?_
  clear t0 t1 t2 t3 t4 res0 fres0 res1 fres1 res2 fres2 res3 fres3 res4 fres4
  rintro e w4 ⟨rfl, b4⟩
  replace Tt := Tt.keep b4
  replace Tres := Tres.keep b4
  replace Fres := Fres.keep b4
  replace BB := bstep BB b4
  clear b4
  have t0 := Tt 0 _ rfl
  have t1 := Tt 1 _ rfl
  have t2 := Tt 2 _ rfl
  have t3 := Tt 3 _ rfl
  have t4 := Tt 4 _ rfl
  have res0 := Tres 0 _ rfl
  have fres0 := Fres.1 0
  have res1 := Tres 1 _ rfl
  have fres1 := Fres.1 1
  have res2 := Tres 2 _ rfl
  have fres2 := Fres.1 2
  have res3 := Tres 3 _ rfl
  have fres3 := Fres.1 3
  have res4 := Tres 4 _ rfl
  have fres4 := Fres.1 4
  go_wp2_with fail
  clear t0 t1 t2 t3 t4 res0 fres0 res1 fres1 res2 fres2 res3 fres3 res4 fres4
  replace Tres := Tres.set 0 (.int .i64 q) (by simp)
  replace Tt := Tt.other (k' := w.heap.size + 1) (by omega) 0 (.int .i64 q)
  replace Fres := Fres.set ⟨w.heap.size + 1, 0, none⟩ (.int .i64 q)
  replace BB := BB.setCell (p := ⟨w.heap.size + 1, 0, none⟩) (by first | exact Nat.le_refl _ | (simp only; omega)) (.int .i64 q)
  replace Tres := Tres.set 1 (.int .i64 0) (by simp)
  replace Tt := Tt.other (k' := w.heap.size + 1) (by omega) 1 (.int .i64 0)
  replace Fres := Fres.set ⟨w.heap.size + 1, 1, none⟩ (.int .i64 0)
  replace BB := BB.setCell (p := ⟨w.heap.size + 1, 1, none⟩) (by first | exact Nat.le_refl _ | (simp only; omega)) (.int .i64 0)
  replace Tres := Tres.set 2 (.int .i64 q) (by simp)
  replace Tt := Tt.other (k' := w.heap.size + 1) (by omega) 2 (.int .i64 q)
  replace Fres := Fres.set ⟨w.heap.size + 1, 2, none⟩ (.int .i64 q)
  replace BB := BB.setCell (p := ⟨w.heap.size + 1, 2, none⟩) (by first | exact Nat.le_refl _ | (simp only; omega)) (.int .i64 q)
  replace Tres := Tres.set 3 (.int .i64 0) (by simp)
  replace Tt := Tt.other (k' := w.heap.size + 1) (by omega) 3 (.int .i64 0)
  replace Fres := Fres.set ⟨w.heap.size + 1, 3, none⟩ (.int .i64 0)
  replace BB := BB.setCell (p := ⟨w.heap.size + 1, 3, none⟩) (by first | exact Nat.le_refl _ | (simp only; omega)) (.int .i64 0)
  replace Tres := Tres.set 4 (.int .i64 (-1)) (by simp)
  replace Tt := Tt.other (k' := w.heap.size + 1) (by omega) 4 (.int .i64 (-1))
  replace Fres := Fres.set ⟨w.heap.size + 1, 4, none⟩ (.int .i64 (-1))
  replace BB := BB.setCell (p := ⟨w.heap.size + 1, 4, none⟩) (by first | exact Nat.le_refl _ | (simp only; omega)) (.int .i64 (-1))
  obtain ⟨V5, hV5⟩ : ∃ V5, ((((w4.setCell ⟨w.heap.size + 1, 0, none⟩ (.int .i64 q)).setCell ⟨w.heap.size + 1, 1, none⟩ (.int .i64 0)).setCell ⟨w.heap.size + 1, 2, none⟩ (.int .i64 q)).setCell ⟨w.heap.size + 1, 3, none⟩ (.int .i64 0)).setCell ⟨w.heap.size + 1, 4, none⟩ (.int .i64 (-1)) = V5 := ⟨_, rfl⟩
  rw [hV5] at BB Tt Tres Fres ⊢
  clear hV5
  have res0 := Tres 0 _ rfl
  have fres0 := Fres.1 0
  have res1 := Tres 1 _ rfl
  have fres1 := Fres.1 1
  have res2 := Tres 2 _ rfl
  have fres2 := Fres.1 2
  have res3 := Tres 3 _ rfl
  have fres3 := Fres.1 3
  have res4 := Tres 4 _ rfl
  have fres4 := Fres.1 4
  refine bodyPost_ret (v := (⟨⟨q, 0⟩, ⟨q, 0⟩, -1⟩ : Rt).v) (by simp [results, Try.results20, go_sem, loseV, res0, res1, res2, res3, res4]) rfl ⟨rfl, BB⟩
theorem renew_any (r : Rt) (q : Int) (w : World) : Calls Try.prog 20 #[r.v, .int .i64 q] w (Gives (renewV r q).v w) := by
  cases hv : validR r
  · rw [show renewV r q = r by unfold renewV; rw [if_neg (by rw [hv]; simp)]]; exact renew_0 r q w (Lib.hid hv)
  by_cases h1 : q ≤ 1000000000
  · cases hb : betterB ⟨q, 0⟩ r.l
    · rw [show renewV r q = r by unfold renewV; rw [if_neg (by rw [hb]; simp)]]; exact renew_2 r q w (Lib.hid hv) h1 (Lib.hid hb)
    · rw [show renewV r q = ⟨⟨q, 0⟩, ⟨q, 0⟩, -1⟩ by unfold renewV; rw [if_pos ⟨hv, h1, hb⟩]]
      have h0 : 0 ≤ q := by
        have := (valid_iff.1 hv).2.1
        rw [dist_iff] at this
        rw [better_iff] at hb
        simp only at hb; omega
      exact renew_3 r q w (Lib.hid hv) h1 h0 (Lib.hid hb)
  · rw [show renewV r q = r by unfold renewV; rw [if_neg (by omega)]]; exact renew_1 r q w (Lib.hid hv) (by omega)
theorem renew_at (r u : Rt) (q : Int) (w : World) (hu : renewV r q = u) : Calls Try.prog 20 #[r.v, .int .i64 q] w (Gives u.v w) := by rw [← hu]; exact renew_any r q w
set_option maxRecDepth 100000 in
set_option maxHeartbeats 1000000 in
theorem rrenew_0 (r : Rt) (q : Int) (w : World) (hv : Hid (validR r = false)) : Calls Try.prog 21 #[r.v, .int .i64 q] w (Gives r.v w) := by
  go_enter Try.func21, Try.ntmps21
  go_wp2_with fail
  have Tt := CAt.new (w) [.int .i64 r.o.s, .int .i64 r.o.r, .int .i64 r.l.s, .int .i64 r.l.r, .int .i64 r.p] 25
  have BB : Below w.heap.size w ((w).alloc (.cells #[.int .i64 r.o.s, .int .i64 r.o.r, .int .i64 r.l.s, .int .i64 r.l.r, .int .i64 r.p] 25)) := ball (Below.refl _ _) _
  have Tres := CAt.new (w.alloc (.cells #[.int .i64 r.o.s, .int .i64 r.o.r, .int .i64 r.l.s, .int .i64 r.l.r, .int .i64 r.p] 25)) [.int .i64 0, .int .i64 0, .int .i64 0, .int .i64 0, .int .i64 0] 25
  have Fres := Fz.new (w.alloc (.cells #[.int .i64 r.o.s, .int .i64 r.o.r, .int .i64 r.l.s, .int .i64 r.l.r, .int .i64 r.p] 25)) #[.int .i64 0, .int .i64 0, .int .i64 0, .int .i64 0, .int .i64 0] 25
  replace Tt := Tt.alloc (.cells #[.int .i64 0, .int .i64 0, .int .i64 0, .int .i64 0, .int .i64 0] 25)
  replace BB := ball BB (.cells #[.int .i64 0, .int .i64 0, .int .i64 0, .int .i64 0, .int .i64 0] 25)
  have Td := CAt.new ((w.alloc (.cells #[.int .i64 r.o.s, .int .i64 r.o.r, .int .i64 r.l.s, .int .i64 r.l.r, .int .i64 r.p] 25)).alloc (.cells #[.int .i64 0, .int .i64 0, .int .i64 0, .int .i64 0, .int .i64 0] 25)) [.int .i64 q, .int .i64 0] 23
  replace Tt := Tt.alloc (.cells #[.int .i64 q, .int .i64 0] 23)
  replace Tres := Tres.alloc (.cells #[.int .i64 q, .int .i64 0] 23)
  replace Fres := Fres.alloc (.cells #[.int .i64 q, .int .i64 0] 23)
  replace BB := ball BB (.cells #[.int .i64 q, .int .i64 0] 23)
  simp only [World.size_alloc, Nat.add_assoc, Nat.reduceAdd] at Tres Fres Td
  obtain ⟨V1, hV1⟩ : ∃ V1, ((w.alloc (.cells #[.int .i64 r.o.s, .int .i64 r.o.r, .int .i64 r.l.s, .int .i64 r.l.r, .int .i64 r.p] 25)).alloc (.cells #[.int .i64 0, .int .i64 0, .int .i64 0, .int .i64 0, .int .i64 0] 25)).alloc (.cells #[.int .i64 q, .int .i64 0] 23) = V1 := ⟨_, rfl⟩
  rw [hV1] at BB Tt Tres Td Fres ⊢
  clear hV1
  refine (rvalid_at r _ _ hv.out).mono ?_
  rintro e w2 ⟨rfl, b2⟩
  replace Tt := Tt.keep b2
  replace Tres := Tres.keep b2
  replace Td := Td.keep b2
  replace Fres := Fres.keep b2
  replace BB := bstep BB b2
  clear b2
  have t0 := Tt 0 _ rfl
  have t1 := Tt 1 _ rfl
  have t2 := Tt 2 _ rfl
  have t3 := Tt 3 _ rfl
  have t4 := Tt 4 _ rfl
  have res0 := Tres 0 _ rfl
  have fres0 := Fres.1 0
  have res1 := Tres 1 _ rfl
  have fres1 := Fres.1 1
  have res2 := Tres 2 _ rfl
  have fres2 := Fres.1 2
  have res3 := Tres 3 _ rfl
  have fres3 := Fres.1 3
  have res4 := Tres 4 _ rfl
  have fres4 := Fres.1 4
  have d0 := Td 0 _ rfl
  have d1 := Td 1 _ rfl
  go_wp2_with fail
  clear t0 t1 t2 t3 t4 res0 fres0 res1 fres1 res2 fres2 res3 fres3 res4 fres4 d0 d1
  replace Tres := Tres.set 0 (.int .i64 r.o.s) (by simp)
  replace Tt := Tt.other (k' := w.heap.size + 1) (by omega) 0 (.int .i64 r.o.s)
  replace Td := Td.other (k' := w.heap.size + 1) (by omega) 0 (.int .i64 r.o.s)
  replace Fres := Fres.set ⟨w.heap.size + 1, 0, none⟩ (.int .i64 r.o.s)
  replace BB := BB.setCell (p := ⟨w.heap.size + 1, 0, none⟩) (by first | exact Nat.le_refl _ | (simp only; omega)) (.int .i64 r.o.s)
  replace Tres := Tres.set 1 (.int .i64 r.o.r) (by simp)
  replace Tt := Tt.other (k' := w.heap.size + 1) (by omega) 1 (.int .i64 r.o.r)
  replace Td := Td.other (k' := w.heap.size + 1) (by omega) 1 (.int .i64 r.o.r)
  replace Fres := Fres.set ⟨w.heap.size + 1, 1, none⟩ (.int .i64 r.o.r)
  replace BB := BB.setCell (p := ⟨w.heap.size + 1, 1, none⟩) (by first | exact Nat.le_refl _ | (simp only; omega)) (.int .i64 r.o.r)
  replace Tres := Tres.set 2 (.int .i64 r.l.s) (by simp)
  replace Tt := Tt.other (k' := w.heap.size + 1) (by omega) 2 (.int .i64 r.l.s)
  replace Td := Td.other (k' := w.heap.size + 1) (by omega) 2 (.int .i64 r.l.s)
  replace Fres := Fres.set ⟨w.heap.size + 1, 2, none⟩ (.int .i64 r.l.s)
  replace BB := BB.setCell (p := ⟨w.heap.size + 1, 2, none⟩) (by first | exact Nat.le_refl _ | (simp only; omega)) (.int .i64 r.l.s)
  replace Tres := Tres.set 3 (.int .i64 r.l.r) (by simp)
  replace Tt := Tt.other (k' := w.heap.size + 1) (by omega) 3 (.int .i64 r.l.r)
  replace Td := Td.other (k' := w.heap.size + 1) (by omega) 3 (.int .i64 r.l.r)
  replace Fres := Fres.set ⟨w.heap.size + 1, 3, none⟩ (.int .i64 r.l.r)
  replace BB := BB.setCell (p := ⟨w.heap.size + 1, 3, none⟩) (by first | exact Nat.le_refl _ | (simp only; omega)) (.int .i64 r.l.r)
  replace Tres := Tres.set 4 (.int .i64 r.p) (by simp)
  replace Tt := Tt.other (k' := w.heap.size + 1) (by omega) 4 (.int .i64 r.p)
  replace Td := Td.other (k' := w.heap.size + 1) (by omega) 4 (.int .i64 r.p)
  replace Fres := Fres.set ⟨w.heap.size + 1, 4, none⟩ (.int .i64 r.p)
  replace BB := BB.setCell (p := ⟨w.heap.size + 1, 4, none⟩) (by first | exact Nat.le_refl _ | (simp only; omega)) (.int .i64 r.p)
  obtain ⟨V3, hV3⟩ : ∃ V3, ((((w2.setCell ⟨w.heap.size + 1, 0, none⟩ (.int .i64 r.o.s)).setCell ⟨w.heap.size + 1, 1, none⟩ (.int .i64 r.o.r)).setCell ⟨w.heap.size + 1, 2, none⟩ (.int .i64 r.l.s)).setCell ⟨w.heap.size + 1, 3, none⟩ (.int .i64 r.l.r)).setCell ⟨w.heap.size + 1, 4, none⟩ (.int .i64 r.p) = V3 := ⟨_, rfl⟩
  rw [hV3] at BB Tt Tres Td Fres ⊢
  clear hV3
  have res0 := Tres 0 _ rfl
  have fres0 := Fres.1 0
  have res1 := Tres 1 _ rfl
  have fres1 := Fres.1 1
  have res2 := Tres 2 _ rfl
  have fres2 := Fres.1 2
  have res3 := Tres 3 _ rfl
  have fres3 := Fres.1 3
  have res4 := Tres 4 _ rfl
  have fres4 := Fres.1 4
  refine bodyPost_ret (v := r.v) (by simp [results, Try.results21, go_sem, loseV, res0, res1, res2, res3, res4]) rfl ⟨rfl, BB⟩
set_option maxRecDepth 100000 in
set_option maxHeartbeats 1000000 in
theorem rrenew_1 (r : Rt) (q : Int) (w : World) (hv : Hid (validR r = true)) (h1 : 1000000000 < q) : Calls Try.prog 21 #[r.v, .int .i64 q] w (Gives r.v w) := by
  go_enter Try.func21, Try.ntmps21
  go_wp2_with fail
  have Tt := CAt.new (w) [.int .i64 r.o.s, .int .i64 r.o.r, .int .i64 r.l.s, .int .i64 r.l.r, .int .i64 r.p] 25
  have BB : Below w.heap.size w ((w).alloc (.cells #[.int .i64 r.o.s, .int .i64 r.o.r, .int .i64 r.l.s, .int .i64 r.l.r, .int .i64 r.p] 25)) := ball (Below.refl _ _) _
  have Tres := CAt.new (w.alloc (.cells #[.int .i64 r.o.s, .int .i64 r.o.r, .int .i64 r.l.s, .int .i64 r.l.r, .int .i64 r.p] 25)) [.int .i64 0, .int .i64 0, .int .i64 0, .int .i64 0, .int .i64 0] 25
  have Fres := Fz.new (w.alloc (.cells #[.int .i64 r.o.s, .int .i64 r.o.r, .int .i64 r.l.s, .int .i64 r.l.r, .int .i64 r.p] 25)) #[.int .i64 0, .int .i64 0, .int .i64 0, .int .i64 0, .int .i64 0] 25
  replace Tt := Tt.alloc (.cells #[.int .i64 0, .int .i64 0, .int .i64 0, .int .i64 0, .int .i64 0] 25)
  replace BB := ball BB (.cells #[.int .i64 0, .int .i64 0, .int .i64 0, .int .i64 0, .int .i64 0] 25)
  have Td := CAt.new ((w.alloc (.cells #[.int .i64 r.o.s, .int .i64 r.o.r, .int .i64 r.l.s, .int .i64 r.l.r, .int .i64 r.p] 25)).alloc (.cells #[.int .i64 0, .int .i64 0, .int .i64 0, .int .i64 0, .int .i64 0] 25)) [.int .i64 q, .int .i64 0] 23
  replace Tt := Tt.alloc (.cells #[.int .i64 q, .int .i64 0] 23)
  replace Tres := Tres.alloc (.cells #[.int .i64 q, .int .i64 0] 23)
  replace Fres := Fres.alloc (.cells #[.int .i64 q, .int .i64 0] 23)
  replace BB := ball BB (.cells #[.int .i64 q, .int .i64 0] 23)
  simp only [World.size_alloc, Nat.add_assoc, Nat.reduceAdd] at Tres Fres Td
  obtain ⟨V1, hV1⟩ : ∃ V1, ((w.alloc (.cells #[.int .i64 r.o.s, .int .i64 r.o.r, .int .i64 r.l.s, .int .i64 r.l.r, .int .i64 r.p] 25)).alloc (.cells #[.int .i64 0, .int .i64 0, .int .i64 0, .int .i64 0, .int .i64 0] 25)).alloc (.cells #[.int .i64 q, .int .i64 0] 23) = V1 := ⟨_, rfl⟩
  rw [hV1] at BB Tt Tres Td Fres ⊢
  clear hV1
  refine (rvalid_at r _ _ hv.out).mono ?_
  rintro e w2 ⟨rfl, b2⟩
  replace Tt := Tt.keep b2
  replace Tres := Tres.keep b2
  replace Td := Td.keep b2
  replace Fres := Fres.keep b2
  replace BB := bstep BB b2
  clear b2
  have t0 := Tt 0 _ rfl
  have t1 := Tt 1 _ rfl
  have t2 := Tt 2 _ rfl
  have t3 := Tt 3 _ rfl
  have t4 := Tt 4 _ rfl
  have res0 := Tres 0 _ rfl
  have fres0 := Fres.1 0
  have res1 := Tres 1 _ rfl
  have fres1 := Fres.1 1
  have res2 := Tres 2 _ rfl
  have fres2 := Fres.1 2
  have res3 := Tres 3 _ rfl
  have fres3 := Fres.1 3
  have res4 := Tres 4 _ rfl
  have fres4 := Fres.1 4
  have d0 := Td 0 _ rfl
  have d1 := Td 1 _ rfl
  go_wp2_with fail
  clear t0 t1 t2 t3 t4 res0 fres0 res1 fres1 res2 fres2 res3 fres3 res4 fres4 d0 d1
  replace Tres := Tres.set 0 (.int .i64 r.o.s) (by simp)
  replace Tt := Tt.other (k' := w.heap.size + 1) (by omega) 0 (.int .i64 r.o.s)
  replace Td := Td.other (k' := w.heap.size + 1) (by omega) 0 (.int .i64 r.o.s)
  replace Fres := Fres.set ⟨w.heap.size + 1, 0, none⟩ (.int .i64 r.o.s)
  replace BB := BB.setCell (p := ⟨w.heap.size + 1, 0, none⟩) (by first | exact Nat.le_refl _ | (simp only; omega)) (.int .i64 r.o.s)
  replace Tres := Tres.set 1 (.int .i64 r.o.r) (by simp)
  replace Tt := Tt.other (k' := w.heap.size + 1) (by omega) 1 (.int .i64 r.o.r)
  replace Td := Td.other (k' := w.heap.size + 1) (by omega) 1 (.int .i64 r.o.r)
  replace Fres := Fres.set ⟨w.heap.size + 1, 1, none⟩ (.int .i64 r.o.r)
  replace BB := BB.setCell (p := ⟨w.heap.size + 1, 1, none⟩) (by first | exact Nat.le_refl _ | (simp only; omega)) (.int .i64 r.o.r)
  replace Tres := Tres.set 2 (.int .i64 r.l.s) (by simp)
  replace Tt := Tt.other (k' := w.heap.size + 1) (by omega) 2 (.int .i64 r.l.s)
  replace Td := Td.other (k' := w.heap.size + 1) (by omega) 2 (.int .i64 r.l.s)
  replace Fres := Fres.set ⟨w.heap.size + 1, 2, none⟩ (.int .i64 r.l.s)
  replace BB := BB.setCell (p := ⟨w.heap.size + 1, 2, none⟩) (by first | exact Nat.le_refl _ | (simp only; omega)) (.int .i64 r.l.s)
  replace Tres := Tres.set 3 (.int .i64 r.l.r) (by simp)
  replace Tt := Tt.other (k' := w.heap.size + 1) (by omega) 3 (.int .i64 r.l.r)
  replace Td := Td.other (k' := w.heap.size + 1) (by omega) 3 (.int .i64 r.l.r)
  replace Fres := Fres.set ⟨w.heap.size + 1, 3, none⟩ (.int .i64 r.l.r)
  replace BB := BB.setCell (p := ⟨w.heap.size + 1, 3, none⟩) (by first | exact Nat.le_refl _ | (simp only; omega)) (.int .i64 r.l.r)
  replace Tres := Tres.set 4 (.int .i64 r.p) (by simp)
  replace Tt := Tt.other (k' := w.heap.size + 1) (by omega) 4 (.int .i64 r.p)
  replace Td := Td.other (k' := w.heap.size + 1) (by omega) 4 (.int .i64 r.p)
  replace Fres := Fres.set ⟨w.heap.size + 1, 4, none⟩ (.int .i64 r.p)
  replace BB := BB.setCell (p := ⟨w.heap.size + 1, 4, none⟩) (by first | exact Nat.le_refl _ | (simp only; omega)) (.int .i64 r.p)
  obtain ⟨V3, hV3⟩ : ∃ V3, ((((w2.setCell ⟨w.heap.size + 1, 0, none⟩ (.int .i64 r.o.s)).setCell ⟨w.heap.size + 1, 1, none⟩ (.int .i64 r.o.r)).setCell ⟨w.heap.size + 1, 2, none⟩ (.int .i64 r.l.s)).setCell ⟨w.heap.size + 1, 3, none⟩ (.int .i64 r.l.r)).setCell ⟨w.heap.size + 1, 4, none⟩ (.int .i64 r.p) = V3 := ⟨_, rfl⟩
  rw [hV3] at BB Tt Tres Td Fres ⊢
  clear hV3
  have res0 := Tres 0 _ rfl
  have fres0 := Fres.1 0
  have res1 := Tres 1 _ rfl
  have fres1 := Fres.1 1
  have res2 := Tres 2 _ rfl
  have fres2 := Fres.1 2
  have res3 := Tres 3 _ rfl
  have fres3 := Fres.1 3
  have res4 := Tres 4 _ rfl
  have fres4 := Fres.1 4
  refine bodyPost_ret (v := r.v) (by simp [results, Try.results21, go_sem, loseV, res0, res1, res2, res3, res4]) rfl ⟨rfl, BB⟩
set_option maxRecDepth 100000 in
set_option maxHeartbeats 1000000 in
theorem rrenew_2 (r : Rt) (q : Int) (w : World) (hv : Hid (validR r = true)) (h1 : q ≤ 1000000000) (hb : Hid (betterB ⟨q, 0⟩ r.l = false)) : Calls Try.prog 21 #[r.v, .int .i64 q] w (Gives r.v w) := by
  go_enter Try.func21, Try.ntmps21
  go_wp2_with fail
  have Tt := CAt.new (w) [.int .i64 r.o.s, .int .i64 r.o.r, .int .i64 r.l.s, .int .i64 r.l.r, .int .i64 r.p] 25
  have BB : Below w.heap.size w ((w).alloc (.cells #[.int .i64 r.o.s, .int .i64 r.o.r, .int .i64 r.l.s, .int .i64 r.l.r, .int .i64 r.p] 25)) := ball (Below.refl _ _) _
  have Tres := CAt.new (w.alloc (.cells #[.int .i64 r.o.s, .int .i64 r.o.r, .int .i64 r.l.s, .int .i64 r.l.r, .int .i64 r.p] 25)) [.int .i64 0, .int .i64 0, .int .i64 0, .int .i64 0, .int .i64 0] 25
  have Fres := Fz.new (w.alloc (.cells #[.int .i64 r.o.s, .int .i64 r.o.r, .int .i64 r.l.s, .int .i64 r.l.r, .int .i64 r.p] 25)) #[.int .i64 0, .int .i64 0, .int .i64 0, .int .i64 0, .int .i64 0] 25
  replace Tt := Tt.alloc (.cells #[.int .i64 0, .int .i64 0, .int .i64 0, .int .i64 0, .int .i64 0] 25)
  replace BB := ball BB (.cells #[.int .i64 0, .int .i64 0, .int .i64 0, .int .i64 0, .int .i64 0] 25)
  have Td := CAt.new ((w.alloc (.cells #[.int .i64 r.o.s, .int .i64 r.o.r, .int .i64 r.l.s, .int .i64 r.l.r, .int .i64 r.p] 25)).alloc (.cells #[.int .i64 0, .int .i64 0, .int .i64 0, .int .i64 0, .int .i64 0] 25)) [.int .i64 q, .int .i64 0] 23
  replace Tt := Tt.alloc (.cells #[.int .i64 q, .int .i64 0] 23)
  replace Tres := Tres.alloc (.cells #[.int .i64 q, .int .i64 0] 23)
  replace Fres := Fres.alloc (.cells #[.int .i64 q, .int .i64 0] 23)
  replace BB := ball BB (.cells #[.int .i64 q, .int .i64 0] 23)
  simp only [World.size_alloc, Nat.add_assoc, Nat.reduceAdd] at Tres Fres Td
  obtain ⟨V1, hV1⟩ : ∃ V1, ((w.alloc (.cells #[.int .i64 r.o.s, .int .i64 r.o.r, .int .i64 r.l.s, .int .i64 r.l.r, .int .i64 r.p] 25)).alloc (.cells #[.int .i64 0, .int .i64 0, .int .i64 0, .int .i64 0, .int .i64 0] 25)).alloc (.cells #[.int .i64 q, .int .i64 0] 23) = V1 := ⟨_, rfl⟩
  rw [hV1] at BB Tt Tres Td Fres ⊢
  clear hV1
  refine (rvalid_at r _ _ hv.out).mono ?_
  rintro e w2 ⟨rfl, b2⟩
  replace Tt := Tt.keep b2
  replace Tres := Tres.keep b2
  replace Td := Td.keep b2
  replace Fres := Fres.keep b2
  replace BB := bstep BB b2
  clear b2
  have t0 := Tt 0 _ rfl
  have t1 := Tt 1 _ rfl
  have t2 := Tt 2 _ rfl
  have t3 := Tt 3 _ rfl
  have t4 := Tt 4 _ rfl
  have res0 := Tres 0 _ rfl
  have fres0 := Fres.1 0
  have res1 := Tres 1 _ rfl
  have fres1 := Fres.1 1
  have res2 := Tres 2 _ rfl
  have fres2 := Fres.1 2
  have res3 := Tres 3 _ rfl
  have fres3 := Fres.1 3
  have res4 := Tres 4 _ rfl
  have fres4 := Fres.1 4
  have d0 := Td 0 _ rfl
  have d1 := Td 1 _ rfl
  go_wp2_with fail
  refine (rbetter_at ⟨q, 0⟩ r.l _ _ hb.out).mono ?_
  clear t0 t1 t2 t3 t4 res0 fres0 res1 fres1 res2 fres2 res3 fres3 res4 fres4 d0 d1
  rintro e w3 ⟨rfl, b3⟩
  replace Tt := Tt.keep b3
  replace Tres := Tres.keep b3
  replace Td := Td.keep b3
  replace Fres := Fres.keep b3
  replace BB := bstep BB b3
  clear b3
  have t0 := Tt 0 _ rfl
  have t1 := Tt 1 _ rfl
  have t2 := Tt 2 _ rfl
  have t3 := Tt 3 _ rfl
  have t4 := Tt 4 _ rfl
  have res0 := Tres 0 _ rfl
  have fres0 := Fres.1 0
  have res1 := Tres 1 _ rfl
  have fres1 := Fres.1 1
  have res2 := Tres 2 _ rfl
  have fres2 := Fres.1 2
  have res3 := Tres 3 _ rfl
  have fres3 := Fres.1 3
  have res4 := Tres 4 _ rfl
  have fres4 := Fres.1 4
  have d0 := Td 0 _ rfl
  have d1 := Td 1 _ rfl
  go_wp2_with fail
  clear t0 t1 t2 t3 t4 res0 fres0 res1 fres1 res2 fres2 res3 fres3 res4 fres4 d0 d1
  replace Tres := Tres.set 0 (.int .i64 r.o.s) (by simp)
  replace Tt := Tt.other (k' := w.heap.size + 1) (by omega) 0 (.int .i64 r.o.s)
  replace Td := Td.other (k' := w.heap.size + 1) (by omega) 0 (.int .i64 r.o.s)
  replace Fres := Fres.set ⟨w.heap.size + 1, 0, none⟩ (.int .i64 r.o.s)
  replace BB := BB.setCell (p := ⟨w.heap.size + 1, 0, none⟩) (by first | exact Nat.le_refl _ | (simp only; omega)) (.int .i64 r.o.s)
  replace Tres := Tres.set 1 (.int .i64 r.o.r) (by simp)
  replace Tt := Tt.other (k' := w.heap.size + 1) (by omega) 1 (.int .i64 r.o.r)
  replace Td := Td.other (k' := w.heap.size + 1) (by omega) 1 (.int .i64 r.o.r)
  replace Fres := Fres.set ⟨w.heap.size + 1, 1, none⟩ (.int .i64 r.o.r)
  replace BB := BB.setCell (p := ⟨w.heap.size + 1, 1, none⟩) (by first | exact Nat.le_refl _ | (simp only; omega)) (.int .i64 r.o.r)
  replace Tres := Tres.set 2 (.int .i64 r.l.s) (by simp)
  replace Tt := Tt.other (k' := w.heap.size + 1) (by omega) 2 (.int .i64 r.l.s)
  replace Td := Td.other (k' := w.heap.size + 1) (by omega) 2 (.int .i64 r.l.s)
  replace Fres := Fres.set ⟨w.heap.size + 1, 2, none⟩ (.int .i64 r.l.s)
  replace BB := BB.setCell (p := ⟨w.heap.size + 1, 2, none⟩) (by first | exact Nat.le_refl _ | (simp only; omega)) (.int .i64 r.l.s)
  replace Tres := Tres.set 3 (.int .i64 r.l.r) (by simp)
  replace Tt := Tt.other (k' := w.heap.size + 1) (by omega) 3 (.int .i64 r.l.r)
  replace Td := Td.other (k' := w.heap.size + 1) (by omega) 3 (.int .i64 r.l.r)
  replace Fres := Fres.set ⟨w.heap.size + 1, 3, none⟩ (.int .i64 r.l.r)
  replace BB := BB.setCell (p := ⟨w.heap.size + 1, 3, none⟩) (by first | exact Nat.le_refl _ | (simp only; omega)) (.int .i64 r.l.r)
  replace Tres := Tres.set 4 (.int .i64 r.p) (by simp)
  replace Tt := Tt.other (k' := w.heap.size + 1) (by omega) 4 (.int .i64 r.p)
  replace Td := Td.other (k' := w.heap.size + 1) (by omega) 4 (.int .i64 r.p)
  replace Fres := Fres.set ⟨w.heap.size + 1, 4, none⟩ (.int .i64 r.p)
  replace BB := BB.setCell (p := ⟨w.heap.size + 1, 4, none⟩) (by first | exact Nat.le_refl _ | (simp only; omega)) (.int .i64 r.p)
  obtain ⟨V4, hV4⟩ : ∃ V4, ((((w3.setCell ⟨w.heap.size + 1, 0, none⟩ (.int .i64 r.o.s)).setCell ⟨w.heap.size + 1, 1, none⟩ (.int .i64 r.o.r)).setCell ⟨w.heap.size + 1, 2, none⟩ (.int .i64 r.l.s)).setCell ⟨w.heap.size + 1, 3, none⟩ (.int .i64 r.l.r)).setCell ⟨w.heap.size + 1, 4, none⟩ (.int .i64 r.p) = V4 := ⟨_, rfl⟩
  rw [hV4] at BB Tt Tres Td Fres ⊢
  clear hV4
  have res0 := Tres 0 _ rfl
  have fres0 := Fres.1 0
  have res1 := Tres 1 _ rfl
  have fres1 := Fres.1 1
  have res2 := Tres 2 _ rfl
  have fres2 := Fres.1 2
  have res3 := Tres 3 _ rfl
  have fres3 := Fres.1 3
  have res4 := Tres 4 _ rfl
  have fres4 := Fres.1 4
  refine bodyPost_ret (v := r.v) (by simp [results, Try.results21, go_sem, loseV, res0, res1, res2, res3, res4]) rfl ⟨rfl, BB⟩
set_option maxRecDepth 100000 in
set_option maxHeartbeats 1000000 in
theorem rrenew_3 (r : Rt) (q : Int) (w : World) (hv : Hid (validR r = true)) (h1 : q ≤ 1000000000) (h0 : 0 ≤ q) (hb : Hid (betterB ⟨q, 0⟩ r.l = true)) : Calls Try.prog 21 #[r.v, .int .i64 q] w (Gives (⟨⟨q, 0⟩, ⟨q, 0⟩, -1⟩ : Rt).v w) := by
  go_enter Try.func21, Try.ntmps21
  go_wp2_with fail
  have Tt := CAt.new (w) [.int .i64 r.o.s, .int .i64 r.o.r, .int .i64 r.l.s, .int .i64 r.l.r, .int .i64 r.p] 25
  have BB : Below w.heap.size w ((w).alloc (.cells #[.int .i64 r.o.s, .int .i64 r.o.r, .int .i64 r.l.s, .int .i64 r.l.r, .int .i64 r.p] 25)) := ball (Below.refl _ _) _
  have Tres := CAt.new (w.alloc (.cells #[.int .i64 r.o.s, .int .i64 r.o.r, .int .i64 r.l.s, .int .i64 r.l.r, .int .i64 r.p] 25)) [.int .i64 0, .int .i64 0, .int .i64 0, .int .i64 0, .int .i64 0] 25
  have Fres := Fz.new (w.alloc (.cells #[.int .i64 r.o.s, .int .i64 r.o.r, .int .i64 r.l.s, .int .i64 r.l.r, .int .i64 r.p] 25)) #[.int .i64 0, .int .i64 0, .int .i64 0, .int .i64 0, .int .i64 0] 25
  replace Tt := Tt.alloc (.cells #[.int .i64 0, .int .i64 0, .int .i64 0, .int .i64 0, .int .i64 0] 25)
  replace BB := ball BB (.cells #[.int .i64 0, .int .i64 0, .int .i64 0, .int .i64 0, .int .i64 0] 25)
  have Td := CAt.new ((w.alloc (.cells #[.int .i64 r.o.s, .int .i64 r.o.r, .int .i64 r.l.s, .int .i64 r.l.r, .int .i64 r.p] 25)).alloc (.cells #[.int .i64 0, .int .i64 0, .int .i64 0, .int .i64 0, .int .i64 0] 25)) [.int .i64 q, .int .i64 0] 23
  replace Tt := Tt.alloc (.cells #[.int .i64 q, .int .i64 0] 23)
  replace Tres := Tres.alloc (.cells #[.int .i64 q, .int .i64 0] 23)
  replace Fres := Fres.alloc (.cells #[.int .i64 q, .int .i64 0] 23)
  replace BB := ball BB (.cells #[.int .i64 q, .int .i64 0] 23)
  simp only [World.size_alloc, Nat.add_assoc, Nat.reduceAdd] at Tres Fres Td
  obtain ⟨V1, hV1⟩ : ∃ V1, ((w.alloc (.cells #[.int .i64 r.o.s, .int .i64 r.o.r, .int .i64 r.l.s, .int .i64 r.l.r, .int .i64 r.p] 25)).alloc (.cells #[.int .i64 0, .int .i64 0, .int .i64 0, .int .i64 0, .int .i64 0] 25)).alloc (.cells #[.int .i64 q, .int .i64 0] 23) = V1 := ⟨_, rfl⟩
  rw [hV1] at BB Tt Tres Td Fres ⊢
  clear hV1
  refine (rvalid_at r _ _ hv.out).mono ?_
  rintro e w2 ⟨rfl, b2⟩
  replace Tt := Tt.keep b2
  replace Tres := Tres.keep b2
  replace Td := Td.keep b2
  replace Fres := Fres.keep b2
  replace BB := bstep BB b2
  clear b2
  have t0 := Tt 0 _ rfl
  have t1 := Tt 1 _ rfl
  have t2 := Tt 2 _ rfl
  have t3 := Tt 3 _ rfl
  have t4 := Tt 4 _ rfl
  have res0 := Tres 0 _ rfl
  have fres0 := Fres.1 0
  have res1 := Tres 1 _ rfl
  have fres1 := Fres.1 1
  have res2 := Tres 2 _ rfl
  have fres2 := Fres.1 2
  have res3 := Tres 3 _ rfl
  have fres3 := Fres.1 3
  have res4 := Tres 4 _ rfl
  have fres4 := Fres.1 4
  have d0 := Td 0 _ rfl
  have d1 := Td 1 _ rfl
  go_wp2_with fail
  refine (rbetter_at ⟨q, 0⟩ r.l _ _ hb.out).mono ?_
  clear t0 t1 t2 t3 t4 res0 fres0 res1 fres1 res2 fres2 res3 fres3 res4 fres4 d0 d1
  rintro e w3 ⟨rfl, b3⟩
  replace Tt := Tt.keep b3
  replace Tres := Tres.keep b3
  replace Td := Td.keep b3
  replace Fres := Fres.keep b3
  replace BB := bstep BB b3
  clear b3
  have t0 := Tt 0 _ rfl
  have t1 := Tt 1 _ rfl
  have t2 := Tt 2 _ rfl
  have t3 := Tt 3 _ rfl
  have t4 := Tt 4 _ rfl
  have res0 := Tres 0 _ rfl
  have fres0 := Fres.1 0
  have res1 := Tres 1 _ rfl
  have fres1 := Fres.1 1
  have res2 := Tres 2 _ rfl
  have fres2 := Fres.1 2
  have res3 := Tres 3 _ rfl
  have fres3 := Fres.1 3
  have res4 := Tres 4 _ rfl
  have fres4 := Fres.1 4
  have d0 := Td 0 _ rfl
  have d1 := Td 1 _ rfl
  go_wp2_with fail
  clear t0 t1 t2 t3 t4 res0 fres0 res1 fres1 res2 fres2 res3 fres3 res4 fres4 d0 d1
  replace Tres := Tres.set 0 (.int .i64 q) (by simp)
  replace Tt := Tt.other (k' := w.heap.size + 1) (by omega) 0 (.int .i64 q)
  replace Td := Td.other (k' := w.heap.size + 1) (by omega) 0 (.int .i64 q)
  replace Fres := Fres.set ⟨w.heap.size + 1, 0, none⟩ (.int .i64 q)
  replace BB := BB.setCell (p := ⟨w.heap.size + 1, 0, none⟩) (by first | exact Nat.le_refl _ | (simp only; omega)) (.int .i64 q)
  replace Tres := Tres.set 1 (.int .i64 0) (by simp)
  replace Tt := Tt.other (k' := w.heap.size + 1) (by omega) 1 (.int .i64 0)
  replace Td := Td.other (k' := w.heap.size + 1) (by omega) 1 (.int .i64 0)
  replace Fres := Fres.set ⟨w.heap.size + 1, 1, none⟩ (.int .i64 0)
  replace BB := BB.setCell (p := ⟨w.heap.size + 1, 1, none⟩) (by first | exact Nat.le_refl _ | (simp only; omega)) (.int .i64 0)
  replace Tres := Tres.set 2 (.int .i64 q) (by simp)
  replace Tt := Tt.other (k' := w.heap.size + 1) (by omega) 2 (.int .i64 q)
  replace Td := Td.other (k' := w.heap.size + 1) (by omega) 2 (.int .i64 q)
  replace Fres := Fres.set ⟨w.heap.size + 1, 2, none⟩ (.int .i64 q)
  replace BB := BB.setCell (p := ⟨w.heap.size + 1, 2, none⟩) (by first | exact Nat.le_refl _ | (simp only; omega)) (.int .i64 q)
  replace Tres := Tres.set 3 (.int .i64 0) (by simp)
  replace Tt := Tt.other (k' := w.heap.size + 1) (by omega) 3 (.int .i64 0)
  replace Td := Td.other (k' := w.heap.size + 1) (by omega) 3 (.int .i64 0)
  replace Fres := Fres.set ⟨w.heap.size + 1, 3, none⟩ (.int .i64 0)
  replace BB := BB.setCell (p := ⟨w.heap.size + 1, 3, none⟩) (by first | exact Nat.le_refl _ | (simp only; omega)) (.int .i64 0)
  replace Tres := Tres.set 4 (.int .i64 (-1)) (by simp)
  replace Tt := Tt.other (k' := w.heap.size + 1) (by omega) 4 (.int .i64 (-1))
  replace Td := Td.other (k' := w.heap.size + 1) (by omega) 4 (.int .i64 (-1))
  replace Fres := Fres.set ⟨w.heap.size + 1, 4, none⟩ (.int .i64 (-1))
  replace BB := BB.setCell (p := ⟨w.heap.size + 1, 4, none⟩) (by first | exact Nat.le_refl _ | (simp only; omega)) (.int .i64 (-1))
  obtain ⟨V4, hV4⟩ : ∃ V4, ((((w3.setCell ⟨w.heap.size + 1, 0, none⟩ (.int .i64 q)).setCell ⟨w.heap.size + 1, 1, none⟩ (.int .i64 0)).setCell ⟨w.heap.size + 1, 2, none⟩ (.int .i64 q)).setCell ⟨w.heap.size + 1, 3, none⟩ (.int .i64 0)).setCell ⟨w.heap.size + 1, 4, none⟩ (.int .i64 (-1)) = V4 := ⟨_, rfl⟩
  rw [hV4] at BB Tt Tres Td Fres ⊢
  clear hV4
  have res0 := Tres 0 _ rfl
  have fres0 := Fres.1 0
  have res1 := Tres 1 _ rfl
  have fres1 := Fres.1 1
  have res2 := Tres 2 _ rfl
  have fres2 := Fres.1 2
  have res3 := Tres 3 _ rfl
  have fres3 := Fres.1 3
  have res4 := Tres 4 _ rfl
  have fres4 := Fres.1 4
  refine bodyPost_ret (v := (⟨⟨q, 0⟩, ⟨q, 0⟩, -1⟩ : Rt).v) (by simp [results, Try.results21, go_sem, loseV, res0, res1, res2, res3, res4]) rfl ⟨rfl, BB⟩
theorem rrenew_any (r : Rt) (q : Int) (w : World) : Calls Try.prog 21 #[r.v, .int .i64 q] w (Gives (renewV r q).v w) := by
  cases hv : validR r
  · rw [show renewV r q = r by unfold renewV; rw [if_neg (by rw [hv]; simp)]]; exact rrenew_0 r q w (Lib.hid hv)
  by_cases h1 : q ≤ 1000000000
  · cases hb : betterB ⟨q, 0⟩ r.l
    · rw [show renewV r q = r by unfold renewV; rw [if_neg (by rw [hb]; simp)]]; exact rrenew_2 r q w (Lib.hid hv) h1 (Lib.hid hb)
    · rw [show renewV r q = ⟨⟨q, 0⟩, ⟨q, 0⟩, -1⟩ by unfold renewV; rw [if_pos ⟨hv, h1, hb⟩]]
      have h0 : 0 ≤ q := by
        have := (valid_iff.1 hv).2.1
        rw [dist_iff] at this
        rw [better_iff] at hb
        simp only at hb; omega
      exact rrenew_3 r q w (Lib.hid hv) h1 h0 (Lib.hid hb)
  · rw [show renewV r q = r by unfold renewV; rw [if_neg (by omega)]]; exact rrenew_1 r q w (Lib.hid hv) (by omega)
theorem rrenew_at (r u : Rt) (q : Int) (w : World) (hu : renewV r q = u) : Calls Try.prog 21 #[r.v, .int .i64 q] w (Gives u.v w) := by rw [← hu]; exact rrenew_any r q w
end Go.Proofs.Ytbonchnhngaicaa
