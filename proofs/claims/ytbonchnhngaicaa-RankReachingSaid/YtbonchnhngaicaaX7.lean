/- Proved: what rank.Choose returns. Conditions: the list lies in memory. -/
import Derived.Test.YtbonchnhngaicaaX6
import Derived.Deep.RegionHeld3
import Derived.Deep.DrawnRows
namespace Go.Proofs.Ytbonchnhngaicaa
open Go.RowKit Go.Sort Go.BigFrame
set_option linter.unusedVariables false
set_option linter.unusedSimpArgs false
attribute [local go_sem] cell_alloc_old
attribute [local go_sem ↓] Go.wp_at_zero Go.wp_at_succ

set_option maxRecDepth 100000 in
set_option maxHeartbeats 1000000 in
theorem choose_0 (r : Rt) (n : Nat) (a : Option Addr) (cap : Nat) (l : List Ofr) (w : World) (hn : Hid (n = l.length)) (hl : OfAt w a l) (hm : Hid (l.length ≤ maxLen)) (hv : Hid (validR r = false)) : Calls Try.prog 18 #[r.v, .slice a n cap] w (Gives r.v w) := by
  go_enter Try.func18, Try.ntmps18
  go_wp2_with fail
  have Tt := CAt.new (w) [.int .i64 r.o.s, .int .i64 r.o.r, .int .i64 r.l.s, .int .i64 r.l.r, .int .i64 r.p] 25
  have Ft := Fz.new (w) #[.int .i64 r.o.s, .int .i64 r.o.r, .int .i64 r.l.s, .int .i64 r.l.r, .int .i64 r.p] 25
  have BB : Below w.heap.size w ((w).alloc (.cells #[.int .i64 r.o.s, .int .i64 r.o.r, .int .i64 r.l.s, .int .i64 r.l.r, .int .i64 r.p] 25)) := ball (Below.refl _ _) _
  have Tres := CAt.new (w.alloc (.cells #[.int .i64 r.o.s, .int .i64 r.o.r, .int .i64 r.l.s, .int .i64 r.l.r, .int .i64 r.p] 25)) [.int .i64 0, .int .i64 0, .int .i64 0, .int .i64 0, .int .i64 0] 25
  have Fres := Fz.new (w.alloc (.cells #[.int .i64 r.o.s, .int .i64 r.o.r, .int .i64 r.l.s, .int .i64 r.l.r, .int .i64 r.p] 25)) #[.int .i64 0, .int .i64 0, .int .i64 0, .int .i64 0, .int .i64 0] 25
  replace Tt := Tt.alloc (.cells #[.int .i64 0, .int .i64 0, .int .i64 0, .int .i64 0, .int .i64 0] 25)
  replace Ft := Ft.alloc (.cells #[.int .i64 0, .int .i64 0, .int .i64 0, .int .i64 0, .int .i64 0] 25)
  replace BB := ball BB (.cells #[.int .i64 0, .int .i64 0, .int .i64 0, .int .i64 0, .int .i64 0] 25)
  simp only [World.size_alloc, Nat.add_assoc, Nat.reduceAdd] at Tres Fres
  obtain ⟨V1, hV1⟩ : ∃ V1, (w.alloc (.cells #[.int .i64 r.o.s, .int .i64 r.o.r, .int .i64 r.l.s, .int .i64 r.l.r, .int .i64 r.p] 25)).alloc (.cells #[.int .i64 0, .int .i64 0, .int .i64 0, .int .i64 0, .int .i64 0] 25) = V1 := ⟨_, rfl⟩
  rw [hV1] at BB Tt Tres Ft Fres ⊢
  clear hV1
  refine (isroute_at r _ _ hv.out).mono ?_
  rintro e w2 ⟨rfl, b2⟩
  replace Tt := Tt.keep b2
  replace Tres := Tres.keep b2
  replace Ft := Ft.keep b2
  replace Fres := Fres.keep b2
  replace BB := bstep BB b2
  clear b2
  have t0 := Tt 0 _ rfl
  have ft0 := Ft.1 0
  have t1 := Tt 1 _ rfl
  have ft1 := Ft.1 1
  have t2 := Tt 2 _ rfl
  have ft2 := Ft.1 2
  have t3 := Tt 3 _ rfl
  have ft3 := Ft.1 3
  have t4 := Tt 4 _ rfl
  have ft4 := Ft.1 4
  have res0 := Tres 0 _ rfl
  have fres0 := Fres.1 0
  have res1 := Tres 1 _ rfl
  have fres1 := Fres.1 1
  have res2 := Tres 2 _ rfl
  have fres2 := Fres.1 2
  have res3 := Tres 3 _ rfl
  have fres3 := Fres.1 3
  have res4 := Tres 4 _ rfl
  have fres4 := Fres.1 4
  go_wp2_with fail
  clear t0 ft0 t1 ft1 t2 ft2 t3 ft3 t4 ft4 res0 fres0 res1 fres1 res2 fres2 res3 fres3 res4 fres4
  replace Tres := Tres.set 0 (.int .i64 r.o.s) (by simp)
  replace Tt := Tt.other (k' := w.heap.size + 1) (by omega) 0 (.int .i64 r.o.s)
  replace Ft := Ft.set ⟨w.heap.size + 1, 0, none⟩ (.int .i64 r.o.s)
  replace Fres := Fres.set ⟨w.heap.size + 1, 0, none⟩ (.int .i64 r.o.s)
  replace BB := BB.setCell (p := ⟨w.heap.size + 1, 0, none⟩) (by first | exact Nat.le_refl _ | (simp only; omega)) (.int .i64 r.o.s)
  replace Tres := Tres.set 1 (.int .i64 r.o.r) (by simp)
  replace Tt := Tt.other (k' := w.heap.size + 1) (by omega) 1 (.int .i64 r.o.r)
  replace Ft := Ft.set ⟨w.heap.size + 1, 1, none⟩ (.int .i64 r.o.r)
  replace Fres := Fres.set ⟨w.heap.size + 1, 1, none⟩ (.int .i64 r.o.r)
  replace BB := BB.setCell (p := ⟨w.heap.size + 1, 1, none⟩) (by first | exact Nat.le_refl _ | (simp only; omega)) (.int .i64 r.o.r)
  replace Tres := Tres.set 2 (.int .i64 r.l.s) (by simp)
  replace Tt := Tt.other (k' := w.heap.size + 1) (by omega) 2 (.int .i64 r.l.s)
  replace Ft := Ft.set ⟨w.heap.size + 1, 2, none⟩ (.int .i64 r.l.s)
  replace Fres := Fres.set ⟨w.heap.size + 1, 2, none⟩ (.int .i64 r.l.s)
  replace BB := BB.setCell (p := ⟨w.heap.size + 1, 2, none⟩) (by first | exact Nat.le_refl _ | (simp only; omega)) (.int .i64 r.l.s)
  replace Tres := Tres.set 3 (.int .i64 r.l.r) (by simp)
  replace Tt := Tt.other (k' := w.heap.size + 1) (by omega) 3 (.int .i64 r.l.r)
  replace Ft := Ft.set ⟨w.heap.size + 1, 3, none⟩ (.int .i64 r.l.r)
  replace Fres := Fres.set ⟨w.heap.size + 1, 3, none⟩ (.int .i64 r.l.r)
  replace BB := BB.setCell (p := ⟨w.heap.size + 1, 3, none⟩) (by first | exact Nat.le_refl _ | (simp only; omega)) (.int .i64 r.l.r)
  replace Tres := Tres.set 4 (.int .i64 r.p) (by simp)
  replace Tt := Tt.other (k' := w.heap.size + 1) (by omega) 4 (.int .i64 r.p)
  replace Ft := Ft.set ⟨w.heap.size + 1, 4, none⟩ (.int .i64 r.p)
  replace Fres := Fres.set ⟨w.heap.size + 1, 4, none⟩ (.int .i64 r.p)
  replace BB := BB.setCell (p := ⟨w.heap.size + 1, 4, none⟩) (by first | exact Nat.le_refl _ | (simp only; omega)) (.int .i64 r.p)
  obtain ⟨V3, hV3⟩ : ∃ V3, ((((w2.setCell ⟨w.heap.size + 1, 0, none⟩ (.int .i64 r.o.s)).setCell ⟨w.heap.size + 1, 1, none⟩ (.int .i64 r.o.r)).setCell ⟨w.heap.size + 1, 2, none⟩ (.int .i64 r.l.s)).setCell ⟨w.heap.size + 1, 3, none⟩ (.int .i64 r.l.r)).setCell ⟨w.heap.size + 1, 4, none⟩ (.int .i64 r.p) = V3 := ⟨_, rfl⟩
  rw [hV3] at BB Tt Tres Ft Fres ⊢
  clear hV3
  have res0 := Tres 0 _ rfl
  have fres0 := Fres.1 0
  have res1 := Tres 1 _ rfl
  have fres1 := Fres.1 1
  have res2 := Tres 2 _ rfl
  have fres2 := Fres.1 2
  have res3 := Tres 3 _ rfl
  have fres3 := Fres.1 3
  have res4 := Tres 4 _ rfl
  have fres4 := Fres.1 4
  refine bodyPost_ret (v := r.v) (by simp [results, Try.results18, go_sem, loseV, res0, res1, res2, res3, res4]) rfl ⟨rfl, BB⟩
set_option maxRecDepth 100000 in
set_option maxHeartbeats 1000000 in
theorem choose_1 (r : Rt) (n : Nat) (a : Option Addr) (cap : Nat) (l : List Ofr) (w : World) (hn : Hid (n = l.length)) (hl : OfAt w a l) (hm : Hid (l.length ≤ maxLen)) (hv : Hid (validR r = true)) (ho : Hid (offsB l = false)) : Calls Try.prog 18 #[r.v, .slice a n cap] w (Gives r.v w) := by
  go_enter Try.func18, Try.ntmps18
  go_wp2_with fail
  have Tt := CAt.new (w) [.int .i64 r.o.s, .int .i64 r.o.r, .int .i64 r.l.s, .int .i64 r.l.r, .int .i64 r.p] 25
  have Ft := Fz.new (w) #[.int .i64 r.o.s, .int .i64 r.o.r, .int .i64 r.l.s, .int .i64 r.l.r, .int .i64 r.p] 25
  have BB : Below w.heap.size w ((w).alloc (.cells #[.int .i64 r.o.s, .int .i64 r.o.r, .int .i64 r.l.s, .int .i64 r.l.r, .int .i64 r.p] 25)) := ball (Below.refl _ _) _
  have Tres := CAt.new (w.alloc (.cells #[.int .i64 r.o.s, .int .i64 r.o.r, .int .i64 r.l.s, .int .i64 r.l.r, .int .i64 r.p] 25)) [.int .i64 0, .int .i64 0, .int .i64 0, .int .i64 0, .int .i64 0] 25
  have Fres := Fz.new (w.alloc (.cells #[.int .i64 r.o.s, .int .i64 r.o.r, .int .i64 r.l.s, .int .i64 r.l.r, .int .i64 r.p] 25)) #[.int .i64 0, .int .i64 0, .int .i64 0, .int .i64 0, .int .i64 0] 25
  replace Tt := Tt.alloc (.cells #[.int .i64 0, .int .i64 0, .int .i64 0, .int .i64 0, .int .i64 0] 25)
  replace Ft := Ft.alloc (.cells #[.int .i64 0, .int .i64 0, .int .i64 0, .int .i64 0, .int .i64 0] 25)
  replace BB := ball BB (.cells #[.int .i64 0, .int .i64 0, .int .i64 0, .int .i64 0, .int .i64 0] 25)
  simp only [World.size_alloc, Nat.add_assoc, Nat.reduceAdd] at Tres Fres
  obtain ⟨V1, hV1⟩ : ∃ V1, (w.alloc (.cells #[.int .i64 r.o.s, .int .i64 r.o.r, .int .i64 r.l.s, .int .i64 r.l.r, .int .i64 r.p] 25)).alloc (.cells #[.int .i64 0, .int .i64 0, .int .i64 0, .int .i64 0, .int .i64 0] 25) = V1 := ⟨_, rfl⟩
  rw [hV1] at BB Tt Tres Ft Fres ⊢
  clear hV1
  refine (isroute_at r _ _ hv.out).mono ?_
  rintro e w2 ⟨rfl, b2⟩
  replace Tt := Tt.keep b2
  replace Tres := Tres.keep b2
  replace Ft := Ft.keep b2
  replace Fres := Fres.keep b2
  replace BB := bstep BB b2
  clear b2
  have t0 := Tt 0 _ rfl
  have ft0 := Ft.1 0
  have t1 := Tt 1 _ rfl
  have ft1 := Ft.1 1
  have t2 := Tt 2 _ rfl
  have ft2 := Ft.1 2
  have t3 := Tt 3 _ rfl
  have ft3 := Ft.1 3
  have t4 := Tt 4 _ rfl
  have ft4 := Ft.1 4
  have res0 := Tres 0 _ rfl
  have fres0 := Fres.1 0
  have res1 := Tres 1 _ rfl
  have fres1 := Fres.1 1
  have res2 := Tres 2 _ rfl
  have fres2 := Fres.1 2
  have res3 := Tres 3 _ rfl
  have fres3 := Fres.1 3
  have res4 := Tres 4 _ rfl
  have fres4 := Fres.1 4
  go_wp2_with fail
  refine (areoffers_at n a cap l false _ hn.out (hl.keep BB) hm.out ho.out).mono ?_
  clear t0 ft0 t1 ft1 t2 ft2 t3 ft3 t4 ft4 res0 fres0 res1 fres1 res2 fres2 res3 fres3 res4 fres4
  rintro e w3 ⟨rfl, b3⟩
  replace Tt := Tt.keep b3
  replace Tres := Tres.keep b3
  replace Ft := Ft.keep b3
  replace Fres := Fres.keep b3
  replace BB := bstep BB b3
  clear b3
  have t0 := Tt 0 _ rfl
  have ft0 := Ft.1 0
  have t1 := Tt 1 _ rfl
  have ft1 := Ft.1 1
  have t2 := Tt 2 _ rfl
  have ft2 := Ft.1 2
  have t3 := Tt 3 _ rfl
  have ft3 := Ft.1 3
  have t4 := Tt 4 _ rfl
  have ft4 := Ft.1 4
  have res0 := Tres 0 _ rfl
  have fres0 := Fres.1 0
  have res1 := Tres 1 _ rfl
  have fres1 := Fres.1 1
  have res2 := Tres 2 _ rfl
  have fres2 := Fres.1 2
  have res3 := Tres 3 _ rfl
  have fres3 := Fres.1 3
  have res4 := Tres 4 _ rfl
  have fres4 := Fres.1 4
  go_wp2_with fail
  clear t0 ft0 t1 ft1 t2 ft2 t3 ft3 t4 ft4 res0 fres0 res1 fres1 res2 fres2 res3 fres3 res4 fres4
  replace Tres := Tres.set 0 (.int .i64 r.o.s) (by simp)
  replace Tt := Tt.other (k' := w.heap.size + 1) (by omega) 0 (.int .i64 r.o.s)
  replace Ft := Ft.set ⟨w.heap.size + 1, 0, none⟩ (.int .i64 r.o.s)
  replace Fres := Fres.set ⟨w.heap.size + 1, 0, none⟩ (.int .i64 r.o.s)
  replace BB := BB.setCell (p := ⟨w.heap.size + 1, 0, none⟩) (by first | exact Nat.le_refl _ | (simp only; omega)) (.int .i64 r.o.s)
  replace Tres := Tres.set 1 (.int .i64 r.o.r) (by simp)
  replace Tt := Tt.other (k' := w.heap.size + 1) (by omega) 1 (.int .i64 r.o.r)
  replace Ft := Ft.set ⟨w.heap.size + 1, 1, none⟩ (.int .i64 r.o.r)
  replace Fres := Fres.set ⟨w.heap.size + 1, 1, none⟩ (.int .i64 r.o.r)
  replace BB := BB.setCell (p := ⟨w.heap.size + 1, 1, none⟩) (by first | exact Nat.le_refl _ | (simp only; omega)) (.int .i64 r.o.r)
  replace Tres := Tres.set 2 (.int .i64 r.l.s) (by simp)
  replace Tt := Tt.other (k' := w.heap.size + 1) (by omega) 2 (.int .i64 r.l.s)
  replace Ft := Ft.set ⟨w.heap.size + 1, 2, none⟩ (.int .i64 r.l.s)
  replace Fres := Fres.set ⟨w.heap.size + 1, 2, none⟩ (.int .i64 r.l.s)
  replace BB := BB.setCell (p := ⟨w.heap.size + 1, 2, none⟩) (by first | exact Nat.le_refl _ | (simp only; omega)) (.int .i64 r.l.s)
  replace Tres := Tres.set 3 (.int .i64 r.l.r) (by simp)
  replace Tt := Tt.other (k' := w.heap.size + 1) (by omega) 3 (.int .i64 r.l.r)
  replace Ft := Ft.set ⟨w.heap.size + 1, 3, none⟩ (.int .i64 r.l.r)
  replace Fres := Fres.set ⟨w.heap.size + 1, 3, none⟩ (.int .i64 r.l.r)
  replace BB := BB.setCell (p := ⟨w.heap.size + 1, 3, none⟩) (by first | exact Nat.le_refl _ | (simp only; omega)) (.int .i64 r.l.r)
  replace Tres := Tres.set 4 (.int .i64 r.p) (by simp)
  replace Tt := Tt.other (k' := w.heap.size + 1) (by omega) 4 (.int .i64 r.p)
  replace Ft := Ft.set ⟨w.heap.size + 1, 4, none⟩ (.int .i64 r.p)
  replace Fres := Fres.set ⟨w.heap.size + 1, 4, none⟩ (.int .i64 r.p)
  replace BB := BB.setCell (p := ⟨w.heap.size + 1, 4, none⟩) (by first | exact Nat.le_refl _ | (simp only; omega)) (.int .i64 r.p)
  obtain ⟨V4, hV4⟩ : ∃ V4, ((((w3.setCell ⟨w.heap.size + 1, 0, none⟩ (.int .i64 r.o.s)).setCell ⟨w.heap.size + 1, 1, none⟩ (.int .i64 r.o.r)).setCell ⟨w.heap.size + 1, 2, none⟩ (.int .i64 r.l.s)).setCell ⟨w.heap.size + 1, 3, none⟩ (.int .i64 r.l.r)).setCell ⟨w.heap.size + 1, 4, none⟩ (.int .i64 r.p) = V4 := ⟨_, rfl⟩
  rw [hV4] at BB Tt Tres Ft Fres ⊢
  clear hV4
  have res0 := Tres 0 _ rfl
  have fres0 := Fres.1 0
  have res1 := Tres 1 _ rfl
  have fres1 := Fres.1 1
  have res2 := Tres 2 _ rfl
  have fres2 := Fres.1 2
  have res3 := Tres 3 _ rfl
  have fres3 := Fres.1 3
  have res4 := Tres 4 _ rfl
  have fres4 := Fres.1 4
  refine bodyPost_ret (v := r.v) (by simp [results, Try.results18, go_sem, loseV, res0, res1, res2, res3, res4]) rfl ⟨rfl, BB⟩
set_option maxRecDepth 100000 in
set_option maxHeartbeats 1000000 in
theorem choose_2 (r : Rt) (o : Ofr) (n : Nat) (a : Option Addr) (cap : Nat) (l : List Ofr) (w : World) (hn : Hid (n = l.length)) (hl : OfAt w a l) (hm : Hid (l.length ≤ maxLen)) (hv : Hid (validR r = true)) (ho : Hid (offsB l = true)) (hb : Hid (bestV r l l.length = o)) (hf : Hid (decide (0 ≤ bestTo r l l.length) = false)) : Calls Try.prog 18 #[r.v, .slice a n cap] w (Gives (loseV r).v w) := by
  go_enter Try.func18, Try.ntmps18
  go_wp2_with fail
  have Tt := CAt.new (w) [.int .i64 r.o.s, .int .i64 r.o.r, .int .i64 r.l.s, .int .i64 r.l.r, .int .i64 r.p] 25
  have Ft := Fz.new (w) #[.int .i64 r.o.s, .int .i64 r.o.r, .int .i64 r.l.s, .int .i64 r.l.r, .int .i64 r.p] 25
  have BB : Below w.heap.size w ((w).alloc (.cells #[.int .i64 r.o.s, .int .i64 r.o.r, .int .i64 r.l.s, .int .i64 r.l.r, .int .i64 r.p] 25)) := ball (Below.refl _ _) _
  have Tres := CAt.new (w.alloc (.cells #[.int .i64 r.o.s, .int .i64 r.o.r, .int .i64 r.l.s, .int .i64 r.l.r, .int .i64 r.p] 25)) [.int .i64 0, .int .i64 0, .int .i64 0, .int .i64 0, .int .i64 0] 25
  have Fres := Fz.new (w.alloc (.cells #[.int .i64 r.o.s, .int .i64 r.o.r, .int .i64 r.l.s, .int .i64 r.l.r, .int .i64 r.p] 25)) #[.int .i64 0, .int .i64 0, .int .i64 0, .int .i64 0, .int .i64 0] 25
  replace Tt := Tt.alloc (.cells #[.int .i64 0, .int .i64 0, .int .i64 0, .int .i64 0, .int .i64 0] 25)
  replace Ft := Ft.alloc (.cells #[.int .i64 0, .int .i64 0, .int .i64 0, .int .i64 0, .int .i64 0] 25)
  replace BB := ball BB (.cells #[.int .i64 0, .int .i64 0, .int .i64 0, .int .i64 0, .int .i64 0] 25)
  simp only [World.size_alloc, Nat.add_assoc, Nat.reduceAdd] at Tres Fres
  obtain ⟨V1, hV1⟩ : ∃ V1, (w.alloc (.cells #[.int .i64 r.o.s, .int .i64 r.o.r, .int .i64 r.l.s, .int .i64 r.l.r, .int .i64 r.p] 25)).alloc (.cells #[.int .i64 0, .int .i64 0, .int .i64 0, .int .i64 0, .int .i64 0] 25) = V1 := ⟨_, rfl⟩
  rw [hV1] at BB Tt Tres Ft Fres ⊢
  clear hV1
  refine (isroute_at r _ _ hv.out).mono ?_
  rintro e w2 ⟨rfl, b2⟩
  replace Tt := Tt.keep b2
  replace Tres := Tres.keep b2
  replace Ft := Ft.keep b2
  replace Fres := Fres.keep b2
  replace BB := bstep BB b2
  clear b2
  have t0 := Tt 0 _ rfl
  have ft0 := Ft.1 0
  have t1 := Tt 1 _ rfl
  have ft1 := Ft.1 1
  have t2 := Tt 2 _ rfl
  have ft2 := Ft.1 2
  have t3 := Tt 3 _ rfl
  have ft3 := Ft.1 3
  have t4 := Tt 4 _ rfl
  have ft4 := Ft.1 4
  have res0 := Tres 0 _ rfl
  have fres0 := Fres.1 0
  have res1 := Tres 1 _ rfl
  have fres1 := Fres.1 1
  have res2 := Tres 2 _ rfl
  have fres2 := Fres.1 2
  have res3 := Tres 3 _ rfl
  have fres3 := Fres.1 3
  have res4 := Tres 4 _ rfl
  have fres4 := Fres.1 4
  go_wp2_with fail
  refine (areoffers_at n a cap l true _ hn.out (hl.keep BB) hm.out ho.out).mono ?_
  clear t0 ft0 t1 ft1 t2 ft2 t3 ft3 t4 ft4 res0 fres0 res1 fres1 res2 fres2 res3 fres3 res4 fres4
  rintro e w3 ⟨rfl, b3⟩
  replace Tt := Tt.keep b3
  replace Tres := Tres.keep b3
  replace Ft := Ft.keep b3
  replace Fres := Fres.keep b3
  replace BB := bstep BB b3
  clear b3
  have t0 := Tt 0 _ rfl
  have ft0 := Ft.1 0
  have t1 := Tt 1 _ rfl
  have ft1 := Ft.1 1
  have t2 := Tt 2 _ rfl
  have ft2 := Ft.1 2
  have t3 := Tt 3 _ rfl
  have ft3 := Ft.1 3
  have t4 := Tt 4 _ rfl
  have ft4 := Ft.1 4
  have res0 := Tres 0 _ rfl
  have fres0 := Fres.1 0
  have res1 := Tres 1 _ rfl
  have fres1 := Fres.1 1
  have res2 := Tres 2 _ rfl
  have fres2 := Fres.1 2
  have res3 := Tres 3 _ rfl
  have fres3 := Fres.1 3
  have res4 := Tres 4 _ rfl
  have fres4 := Fres.1 4
  go_wp2_with fail
  refine (first_at n r w.heap.size a cap l o false _ hn.out Tt (hl.keep BB) ho.out hm.out hb.out hf.out).mono ?_
  clear t0 ft0 t1 ft1 t2 ft2 t3 ft3 t4 ft4 res0 fres0 res1 fres1 res2 fres2 res3 fres3 res4 fres4
  rintro e w4 ⟨rfl, b4⟩
  replace Tt := Tt.keep b4
  replace Tres := Tres.keep b4
  replace Ft := Ft.keep b4
  replace Fres := Fres.keep b4
  replace BB := bstep BB b4
  clear b4
  have t0 := Tt 0 _ rfl
  have ft0 := Ft.1 0
  have t1 := Tt 1 _ rfl
  have ft1 := Ft.1 1
  have t2 := Tt 2 _ rfl
  have ft2 := Ft.1 2
  have t3 := Tt 3 _ rfl
  have ft3 := Ft.1 3
  have t4 := Tt 4 _ rfl
  have ft4 := Ft.1 4
  have res0 := Tres 0 _ rfl
  have fres0 := Fres.1 0
  have res1 := Tres 1 _ rfl
  have fres1 := Fres.1 1
  have res2 := Tres 2 _ rfl
  have fres2 := Fres.1 2
  have res3 := Tres 3 _ rfl
  have fres3 := Fres.1 3
  have res4 := Tres 4 _ rfl
  have fres4 := Fres.1 4
  go_upto_region 5 with (fail)
  clear t0 ft0 t1 ft1 t2 ft2 t3 ft3 t4 ft4 res0 fres0 res1 fres1 res2 fres2 res3 fres3 res4 fres4
  have bs5 : w.heap.size ≤ w4.heap.size := BB.size
  have lt5t : w.heap.size < w4.heap.size := World.block_lt_of_cell? w4 ⟨w.heap.size, 0, none⟩ (Tt 0 _ rfl)
  have lt5res : w.heap.size + 1 < w4.heap.size := World.block_lt_of_cell? w4 ⟨w.heap.size + 1, 0, none⟩ (Tres 0 _ rfl)
  have To := CAt.new (w4) [.int .i64 o.p, .int .i64 o.t.s, .int .i64 o.t.r, .int .i64 o.c] 40
  replace Tt := Tt.alloc (.cells #[.int .i64 o.p, .int .i64 o.t.s, .int .i64 o.t.r, .int .i64 o.c] 40)
  replace Tres := Tres.alloc (.cells #[.int .i64 o.p, .int .i64 o.t.s, .int .i64 o.t.r, .int .i64 o.c] 40)
  replace Ft := Ft.alloc (.cells #[.int .i64 o.p, .int .i64 o.t.s, .int .i64 o.t.r, .int .i64 o.c] 40)
  replace Fres := Fres.alloc (.cells #[.int .i64 o.p, .int .i64 o.t.s, .int .i64 o.t.r, .int .i64 o.c] 40)
  replace BB := ball BB (.cells #[.int .i64 o.p, .int .i64 o.t.s, .int .i64 o.t.r, .int .i64 o.c] 40)
  obtain ⟨V5, hV5⟩ : ∃ V5, w4.alloc (.cells #[.int .i64 o.p, .int .i64 o.t.s, .int .i64 o.t.r, .int .i64 o.c] 40) = V5 := ⟨_, rfl⟩
  rw [hV5] at BB Tt Tres To Ft Fres ⊢
  clear hV5
  obtain ⟨k5, hk5⟩ : ∃ k5, w4.heap.size = k5 := ⟨_, rfl⟩
  rw [hk5] at To bs5 lt5t lt5res ⊢
  clear hk5
  have t0 := Tt 0 _ rfl
  have ft0 := Ft.1 0
  have t1 := Tt 1 _ rfl
  have ft1 := Ft.1 1
  have t2 := Tt 2 _ rfl
  have ft2 := Ft.1 2
  have t3 := Tt 3 _ rfl
  have ft3 := Ft.1 3
  have t4 := Tt 4 _ rfl
  have ft4 := Ft.1 4
  have res0 := Tres 0 _ rfl
  have fres0 := Fres.1 0
  have res1 := Tres 1 _ rfl
  have fres1 := Fres.1 1
  have res2 := Tres 2 _ rfl
  have fres2 := Fres.1 2
  have res3 := Tres 3 _ rfl
  have fres3 := Fres.1 3
  have res4 := Tres 4 _ rfl
  have fres4 := Fres.1 4
  have o0 := To 0 _ rfl
  have o1 := To 1 _ rfl
  have o2 := To 2 _ rfl
  have o3 := To 3 _ rfl
  go_upto_region 7 with (fail)
  clear t0 ft0 t1 ft1 t2 ft2 t3 ft3 t4 ft4 res0 fres0 res1 fres1 res2 fres2 res3 fres3 res4 fres4 o0 o1 o2 o3
  replace Tt := Tt.set 1 (.int .i64 1000000) (by simp)
  replace Tres := Tres.other (k' := w.heap.size) (by omega) 1 (.int .i64 1000000)
  replace To := To.other (k' := w.heap.size) (by omega) 1 (.int .i64 1000000)
  replace Ft := Ft.set ⟨w.heap.size, 1, none⟩ (.int .i64 1000000)
  replace Fres := Fres.set ⟨w.heap.size, 1, none⟩ (.int .i64 1000000)
  replace BB := BB.setCell (p := ⟨w.heap.size, 1, none⟩) (by first | exact Nat.le_refl _ | (simp only; omega)) (.int .i64 1000000)
  obtain ⟨V6, hV6⟩ : ∃ V6, V5.setCell ⟨w.heap.size, 1, none⟩ (.int .i64 1000000) = V6 := ⟨_, rfl⟩
  rw [hV6] at BB Tt Tres To Ft Fres ⊢
  clear hV6
  replace Tt := Tt.set 4 (.int .i64 (-1)) (by simp)
  replace Tres := Tres.other (k' := w.heap.size) (by omega) 4 (.int .i64 (-1))
  replace To := To.other (k' := w.heap.size) (by omega) 4 (.int .i64 (-1))
  replace Ft := Ft.set ⟨w.heap.size, 4, none⟩ (.int .i64 (-1))
  replace Fres := Fres.set ⟨w.heap.size, 4, none⟩ (.int .i64 (-1))
  replace BB := BB.setCell (p := ⟨w.heap.size, 4, none⟩) (by first | exact Nat.le_refl _ | (simp only; omega)) (.int .i64 (-1))
  obtain ⟨V7, hV7⟩ : ∃ V7, V6.setCell ⟨w.heap.size, 4, none⟩ (.int .i64 (-1)) = V7 := ⟨_, rfl⟩
  rw [hV7] at BB Tt Tres To Ft Fres ⊢
  clear hV7
  have t0 := Tt 0 _ rfl
  have ft0 := Ft.1 0
  have t1 := Tt 1 _ rfl
  have ft1 := Ft.1 1
  have t2 := Tt 2 _ rfl
  have ft2 := Ft.1 2
  have t3 := Tt 3 _ rfl
  have ft3 := Ft.1 3
  have t4 := Tt 4 _ rfl
  have ft4 := Ft.1 4
  have res0 := Tres 0 _ rfl
  have fres0 := Fres.1 0
  have res1 := Tres 1 _ rfl
  have fres1 := Fres.1 1
  have res2 := Tres 2 _ rfl
  have fres2 := Fres.1 2
  have res3 := Tres 3 _ rfl
  have fres3 := Fres.1 3
  have res4 := Tres 4 _ rfl
  have fres4 := Fres.1 4
  have o0 := To 0 _ rfl
  have o1 := To 1 _ rfl
  have o2 := To 2 _ rfl
  have o3 := To 3 _ rfl
  go_wp2_with fail
  clear t0 ft0 t1 ft1 t2 ft2 t3 ft3 t4 ft4 res0 fres0 res1 fres1 res2 fres2 res3 fres3 res4 fres4 o0 o1 o2 o3
  replace Tres := Tres.set 0 (.int .i64 r.o.s) (by simp)
  replace Tt := Tt.other (k' := w.heap.size + 1) (by omega) 0 (.int .i64 r.o.s)
  replace To := To.other (k' := w.heap.size + 1) (by omega) 0 (.int .i64 r.o.s)
  replace Ft := Ft.set ⟨w.heap.size + 1, 0, none⟩ (.int .i64 r.o.s)
  replace Fres := Fres.set ⟨w.heap.size + 1, 0, none⟩ (.int .i64 r.o.s)
  replace BB := BB.setCell (p := ⟨w.heap.size + 1, 0, none⟩) (by first | exact Nat.le_refl _ | (simp only; omega)) (.int .i64 r.o.s)
  replace Tres := Tres.set 1 (.int .i64 1000000) (by simp)
  replace Tt := Tt.other (k' := w.heap.size + 1) (by omega) 1 (.int .i64 1000000)
  replace To := To.other (k' := w.heap.size + 1) (by omega) 1 (.int .i64 1000000)
  replace Ft := Ft.set ⟨w.heap.size + 1, 1, none⟩ (.int .i64 1000000)
  replace Fres := Fres.set ⟨w.heap.size + 1, 1, none⟩ (.int .i64 1000000)
  replace BB := BB.setCell (p := ⟨w.heap.size + 1, 1, none⟩) (by first | exact Nat.le_refl _ | (simp only; omega)) (.int .i64 1000000)
  replace Tres := Tres.set 2 (.int .i64 r.l.s) (by simp)
  replace Tt := Tt.other (k' := w.heap.size + 1) (by omega) 2 (.int .i64 r.l.s)
  replace To := To.other (k' := w.heap.size + 1) (by omega) 2 (.int .i64 r.l.s)
  replace Ft := Ft.set ⟨w.heap.size + 1, 2, none⟩ (.int .i64 r.l.s)
  replace Fres := Fres.set ⟨w.heap.size + 1, 2, none⟩ (.int .i64 r.l.s)
  replace BB := BB.setCell (p := ⟨w.heap.size + 1, 2, none⟩) (by first | exact Nat.le_refl _ | (simp only; omega)) (.int .i64 r.l.s)
  replace Tres := Tres.set 3 (.int .i64 r.l.r) (by simp)
  replace Tt := Tt.other (k' := w.heap.size + 1) (by omega) 3 (.int .i64 r.l.r)
  replace To := To.other (k' := w.heap.size + 1) (by omega) 3 (.int .i64 r.l.r)
  replace Ft := Ft.set ⟨w.heap.size + 1, 3, none⟩ (.int .i64 r.l.r)
  replace Fres := Fres.set ⟨w.heap.size + 1, 3, none⟩ (.int .i64 r.l.r)
  replace BB := BB.setCell (p := ⟨w.heap.size + 1, 3, none⟩) (by first | exact Nat.le_refl _ | (simp only; omega)) (.int .i64 r.l.r)
  replace Tres := Tres.set 4 (.int .i64 (-1)) (by simp)
  replace Tt := Tt.other (k' := w.heap.size + 1) (by omega) 4 (.int .i64 (-1))
  replace To := To.other (k' := w.heap.size + 1) (by omega) 4 (.int .i64 (-1))
  replace Ft := Ft.set ⟨w.heap.size + 1, 4, none⟩ (.int .i64 (-1))
  replace Fres := Fres.set ⟨w.heap.size + 1, 4, none⟩ (.int .i64 (-1))
  replace BB := BB.setCell (p := ⟨w.heap.size + 1, 4, none⟩) (by first | exact Nat.le_refl _ | (simp only; omega)) (.int .i64 (-1))
  obtain ⟨V8, hV8⟩ : ∃ V8, ((((V7.setCell ⟨w.heap.size + 1, 0, none⟩ (.int .i64 r.o.s)).setCell ⟨w.heap.size + 1, 1, none⟩ (.int .i64 1000000)).setCell ⟨w.heap.size + 1, 2, none⟩ (.int .i64 r.l.s)).setCell ⟨w.heap.size + 1, 3, none⟩ (.int .i64 r.l.r)).setCell ⟨w.heap.size + 1, 4, none⟩ (.int .i64 (-1)) = V8 := ⟨_, rfl⟩
  rw [hV8] at BB Tt Tres To Ft Fres ⊢
  clear hV8
  have res0 := Tres 0 _ rfl
  have fres0 := Fres.1 0
  have res1 := Tres 1 _ rfl
  have fres1 := Fres.1 1
  have res2 := Tres 2 _ rfl
  have fres2 := Fres.1 2
  have res3 := Tres 3 _ rfl
  have fres3 := Fres.1 3
  have res4 := Tres 4 _ rfl
  have fres4 := Fres.1 4
  refine bodyPost_ret (v := (loseV r).v) (by simp [results, Try.results18, go_sem, loseV, res0, res1, res2, res3, res4]) rfl ⟨rfl, BB⟩
set_option maxRecDepth 100000 in
set_option maxHeartbeats 4000000 in
theorem choose_3 (r : Rt) (o : Ofr) (n : Nat) (a : Option Addr) (cap : Nat) (l : List Ofr) (w : World) (hn : Hid (n = l.length)) (hl : OfAt w a l) (hm : Hid (l.length ≤ maxLen)) (hv : Hid (validR r = true)) (ho : Hid (offsB l = true)) (hb : Hid (bestV r l l.length = o)) (hf : Hid (decide (0 ≤ bestTo r l l.length) = true)) (x0 : 0 ≤ o.t.r) (x1 : o.t.r ≤ 1000000) (x2 : 1 ≤ o.c) (x3 : o.c ≤ 4096) (hbt : Hid (betterB (thr o) r.l = true)) : Calls Try.prog 18 #[r.v, .slice a n cap] w (Gives ((⟨thr o, thr o, o.p⟩ : Rt).v) w) := by
  go_enter Try.func18, Try.ntmps18
  go_wp2_with fail
  have Tt := CAt.new (w) [.int .i64 r.o.s, .int .i64 r.o.r, .int .i64 r.l.s, .int .i64 r.l.r, .int .i64 r.p] 25
  have Ft := Fz.new (w) #[.int .i64 r.o.s, .int .i64 r.o.r, .int .i64 r.l.s, .int .i64 r.l.r, .int .i64 r.p] 25
  have BB : Below w.heap.size w ((w).alloc (.cells #[.int .i64 r.o.s, .int .i64 r.o.r, .int .i64 r.l.s, .int .i64 r.l.r, .int .i64 r.p] 25)) := ball (Below.refl _ _) _
  have Tres := CAt.new (w.alloc (.cells #[.int .i64 r.o.s, .int .i64 r.o.r, .int .i64 r.l.s, .int .i64 r.l.r, .int .i64 r.p] 25)) [.int .i64 0, .int .i64 0, .int .i64 0, .int .i64 0, .int .i64 0] 25
  have Fres := Fz.new (w.alloc (.cells #[.int .i64 r.o.s, .int .i64 r.o.r, .int .i64 r.l.s, .int .i64 r.l.r, .int .i64 r.p] 25)) #[.int .i64 0, .int .i64 0, .int .i64 0, .int .i64 0, .int .i64 0] 25
  replace Tt := Tt.alloc (.cells #[.int .i64 0, .int .i64 0, .int .i64 0, .int .i64 0, .int .i64 0] 25)
  replace Ft := Ft.alloc (.cells #[.int .i64 0, .int .i64 0, .int .i64 0, .int .i64 0, .int .i64 0] 25)
  replace BB := ball BB (.cells #[.int .i64 0, .int .i64 0, .int .i64 0, .int .i64 0, .int .i64 0] 25)
  simp only [World.size_alloc, Nat.add_assoc, Nat.reduceAdd] at Tres Fres
  obtain ⟨V1, hV1⟩ : ∃ V1, (w.alloc (.cells #[.int .i64 r.o.s, .int .i64 r.o.r, .int .i64 r.l.s, .int .i64 r.l.r, .int .i64 r.p] 25)).alloc (.cells #[.int .i64 0, .int .i64 0, .int .i64 0, .int .i64 0, .int .i64 0] 25) = V1 := ⟨_, rfl⟩
  rw [hV1] at BB Tt Tres Ft Fres ⊢
  clear hV1
  refine (isroute_at r _ _ hv.out).mono ?_
  rintro e w2 ⟨rfl, b2⟩
  replace Tt := Tt.keep b2
  replace Tres := Tres.keep b2
  replace Ft := Ft.keep b2
  replace Fres := Fres.keep b2
  replace BB := bstep BB b2
  clear b2
  have t0 := Tt 0 _ rfl
  have ft0 := Ft.1 0
  have t1 := Tt 1 _ rfl
  have ft1 := Ft.1 1
  have t2 := Tt 2 _ rfl
  have ft2 := Ft.1 2
  have t3 := Tt 3 _ rfl
  have ft3 := Ft.1 3
  have t4 := Tt 4 _ rfl
  have ft4 := Ft.1 4
  have res0 := Tres 0 _ rfl
  have fres0 := Fres.1 0
  have res1 := Tres 1 _ rfl
  have fres1 := Fres.1 1
  have res2 := Tres 2 _ rfl
  have fres2 := Fres.1 2
  have res3 := Tres 3 _ rfl
  have fres3 := Fres.1 3
  have res4 := Tres 4 _ rfl
  have fres4 := Fres.1 4
  go_wp2_with fail
  refine (areoffers_at n a cap l true _ hn.out (hl.keep BB) hm.out ho.out).mono ?_
  clear t0 ft0 t1 ft1 t2 ft2 t3 ft3 t4 ft4 res0 fres0 res1 fres1 res2 fres2 res3 fres3 res4 fres4
  rintro e w3 ⟨rfl, b3⟩
  replace Tt := Tt.keep b3
  replace Tres := Tres.keep b3
  replace Ft := Ft.keep b3
  replace Fres := Fres.keep b3
  replace BB := bstep BB b3
  clear b3
  have t0 := Tt 0 _ rfl
  have ft0 := Ft.1 0
  have t1 := Tt 1 _ rfl
  have ft1 := Ft.1 1
  have t2 := Tt 2 _ rfl
  have ft2 := Ft.1 2
  have t3 := Tt 3 _ rfl
  have ft3 := Ft.1 3
  have t4 := Tt 4 _ rfl
  have ft4 := Ft.1 4
  have res0 := Tres 0 _ rfl
  have fres0 := Fres.1 0
  have res1 := Tres 1 _ rfl
  have fres1 := Fres.1 1
  have res2 := Tres 2 _ rfl
  have fres2 := Fres.1 2
  have res3 := Tres 3 _ rfl
  have fres3 := Fres.1 3
  have res4 := Tres 4 _ rfl
  have fres4 := Fres.1 4
  go_wp2_with fail
  refine (first_at n r w.heap.size a cap l o true _ hn.out Tt (hl.keep BB) ho.out hm.out hb.out hf.out).mono ?_
  clear t0 ft0 t1 ft1 t2 ft2 t3 ft3 t4 ft4 res0 fres0 res1 fres1 res2 fres2 res3 fres3 res4 fres4
  rintro e w4 ⟨rfl, b4⟩
  replace Tt := Tt.keep b4
  replace Tres := Tres.keep b4
  replace Ft := Ft.keep b4
  replace Fres := Fres.keep b4
  replace BB := bstep BB b4
  clear b4
  have t0 := Tt 0 _ rfl
  have ft0 := Ft.1 0
  have t1 := Tt 1 _ rfl
  have ft1 := Ft.1 1
  have t2 := Tt 2 _ rfl
  have ft2 := Ft.1 2
  have t3 := Tt 3 _ rfl
  have ft3 := Ft.1 3
  have t4 := Tt 4 _ rfl
  have ft4 := Ft.1 4
  have res0 := Tres 0 _ rfl
  have fres0 := Fres.1 0
  have res1 := Tres 1 _ rfl
  have fres1 := Fres.1 1
  have res2 := Tres 2 _ rfl
  have fres2 := Fres.1 2
  have res3 := Tres 3 _ rfl
  have fres3 := Fres.1 3
  have res4 := Tres 4 _ rfl
  have fres4 := Fres.1 4
  go_upto_region 5 with (fail)
  clear t0 ft0 t1 ft1 t2 ft2 t3 ft3 t4 ft4 res0 fres0 res1 fres1 res2 fres2 res3 fres3 res4 fres4
  have bs5 : w.heap.size ≤ w4.heap.size := BB.size
  have lt5t : w.heap.size < w4.heap.size := World.block_lt_of_cell? w4 ⟨w.heap.size, 0, none⟩ (Tt 0 _ rfl)
  have lt5res : w.heap.size + 1 < w4.heap.size := World.block_lt_of_cell? w4 ⟨w.heap.size + 1, 0, none⟩ (Tres 0 _ rfl)
  have To := CAt.new (w4) [.int .i64 o.p, .int .i64 o.t.s, .int .i64 o.t.r, .int .i64 o.c] 40
  replace Tt := Tt.alloc (.cells #[.int .i64 o.p, .int .i64 o.t.s, .int .i64 o.t.r, .int .i64 o.c] 40)
  replace Tres := Tres.alloc (.cells #[.int .i64 o.p, .int .i64 o.t.s, .int .i64 o.t.r, .int .i64 o.c] 40)
  replace Ft := Ft.alloc (.cells #[.int .i64 o.p, .int .i64 o.t.s, .int .i64 o.t.r, .int .i64 o.c] 40)
  replace Fres := Fres.alloc (.cells #[.int .i64 o.p, .int .i64 o.t.s, .int .i64 o.t.r, .int .i64 o.c] 40)
  replace BB := ball BB (.cells #[.int .i64 o.p, .int .i64 o.t.s, .int .i64 o.t.r, .int .i64 o.c] 40)
  obtain ⟨V5, hV5⟩ : ∃ V5, w4.alloc (.cells #[.int .i64 o.p, .int .i64 o.t.s, .int .i64 o.t.r, .int .i64 o.c] 40) = V5 := ⟨_, rfl⟩
  rw [hV5] at BB Tt Tres To Ft Fres ⊢
  clear hV5
  obtain ⟨k5, hk5⟩ : ∃ k5, w4.heap.size = k5 := ⟨_, rfl⟩
  rw [hk5] at To bs5 lt5t lt5res ⊢
  clear hk5
  have t0 := Tt 0 _ rfl
  have ft0 := Ft.1 0
  have t1 := Tt 1 _ rfl
  have ft1 := Ft.1 1
  have t2 := Tt 2 _ rfl
  have ft2 := Ft.1 2
  have t3 := Tt 3 _ rfl
  have ft3 := Ft.1 3
  have t4 := Tt 4 _ rfl
  have ft4 := Ft.1 4
  have res0 := Tres 0 _ rfl
  have fres0 := Fres.1 0
  have res1 := Tres 1 _ rfl
  have fres1 := Fres.1 1
  have res2 := Tres 2 _ rfl
  have fres2 := Fres.1 2
  have res3 := Tres 3 _ rfl
  have fres3 := Fres.1 3
  have res4 := Tres 4 _ rfl
  have fres4 := Fres.1 4
  have o0 := To 0 _ rfl
  have o1 := To 1 _ rfl
  have o2 := To 2 _ rfl
  have o3 := To 3 _ rfl
  have nb1 : ¬ w.heap.size = k5 := by omega
  have nb2 : ¬ k5 = w.heap.size := by omega
  have nb3 : ¬ w.heap.size + 1 = w.heap.size := by omega
  unfold thr
  go_upto_region 8 with (fail)
  go_region_held3 (fun w' => w'.cell? ⟨k5, 0, none⟩ = some (.int .i64 o.p) ∧ w'.cell? ⟨k5, 1, none⟩ = some (.int .i64 o.t.s) ∧ w'.cell? ⟨k5, 2, none⟩ = some (.int .i64 o.t.r) ∧ w'.cell? ⟨k5, 3, none⟩ = some (.int .i64 o.c))
    (first | go_keep)
    (first
      | (go_at_call 39
         refine (through_any o _ x0 x1 x2 x3).mono ?_
         rintro e w9 ⟨rfl, bb⟩
         have B9 := bstep (Below.drew BB) bb
         have Tt9 := (CAt.drew Tt).keep bb
         have Tr9 := (CAt.drew Tres).keep bb
         have To9 := (CAt.drew To).keep bb
         have Ft9 := (Fz.drew Ft).keep bb
         have Fr9 := (Fz.drew Fres).keep bb
         have d0 := Tt9 0 _ rfl; have d1 := Tt9 1 _ rfl; have d2 := Tt9 2 _ rfl; have d3 := Tt9 3 _ rfl; have d4 := Tt9 4 _ rfl
         have e0 := To9 0 _ rfl; have e1 := To9 1 _ rfl; have e2 := To9 2 _ rfl; have e3 := To9 3 _ rfl
         have g0 := Ft9.1 0; have g1 := Ft9.1 1; have g4 := Ft9.1 4
         unfold thr))
  clear d0 d1 d2 d3 d4 e0 e1 e2 e3 g0 g1 g4
  replace Tt := Tt9; replace Tres := Tr9; replace To := To9; replace Ft := Ft9; replace Fres := Fr9; replace BB := B9
  clear bb
  replace Tt := Tt.set 0 (.int .i64 o.t.s) (by simp)
  replace Tres := Tres.other (k' := w.heap.size) (by omega) 0 (.int .i64 o.t.s)
  replace To := To.other (k' := w.heap.size) (by omega) 0 (.int .i64 o.t.s)
  replace Ft := Ft.set ⟨w.heap.size, 0, none⟩ (.int .i64 o.t.s)
  replace Fres := Fres.set ⟨w.heap.size, 0, none⟩ (.int .i64 o.t.s)
  replace BB := BB.setCell (p := ⟨w.heap.size, 0, none⟩) (by first | exact Nat.le_refl _ | (simp only; omega)) (.int .i64 o.t.s)
  replace Tt := Tt.set 1 (.int .i64 (o.t.r + o.c)) (by simp)
  replace Tres := Tres.other (k' := w.heap.size) (by omega) 1 (.int .i64 (o.t.r + o.c))
  replace To := To.other (k' := w.heap.size) (by omega) 1 (.int .i64 (o.t.r + o.c))
  replace Ft := Ft.set ⟨w.heap.size, 1, none⟩ (.int .i64 (o.t.r + o.c))
  replace Fres := Fres.set ⟨w.heap.size, 1, none⟩ (.int .i64 (o.t.r + o.c))
  replace BB := BB.setCell (p := ⟨w.heap.size, 1, none⟩) (by first | exact Nat.le_refl _ | (simp only; omega)) (.int .i64 (o.t.r + o.c))
  obtain ⟨V6, hV6⟩ : ∃ V6, (w9.setCell ⟨w.heap.size, 0, none⟩ (.int .i64 o.t.s)).setCell ⟨w.heap.size, 1, none⟩ (.int .i64 (o.t.r + o.c)) = V6 := ⟨_, rfl⟩
  rw [hV6] at BB Tt Tres To Ft Fres ⊢
  clear hV6
  replace Tt := Tt.set 4 (.int .i64 o.p) (by simp)
  replace Tres := Tres.other (k' := w.heap.size) (by omega) 4 (.int .i64 o.p)
  replace To := To.other (k' := w.heap.size) (by omega) 4 (.int .i64 o.p)
  replace Ft := Ft.set ⟨w.heap.size, 4, none⟩ (.int .i64 o.p)
  replace Fres := Fres.set ⟨w.heap.size, 4, none⟩ (.int .i64 o.p)
  replace BB := BB.setCell (p := ⟨w.heap.size, 4, none⟩) (by first | exact Nat.le_refl _ | (simp only; omega)) (.int .i64 o.p)
  obtain ⟨V7, hV7⟩ : ∃ V7, V6.setCell ⟨w.heap.size, 4, none⟩ (.int .i64 o.p) = V7 := ⟨_, rfl⟩
  rw [hV7] at BB Tt Tres To Ft Fres ⊢
  clear hV7
  have t0 := Tt 0 _ rfl
  have ft0 := Ft.1 0
  have t1 := Tt 1 _ rfl
  have ft1 := Ft.1 1
  have t2 := Tt 2 _ rfl
  have ft2 := Ft.1 2
  have t3 := Tt 3 _ rfl
  have ft3 := Ft.1 3
  have t4 := Tt 4 _ rfl
  have ft4 := Ft.1 4
  have res0 := Tres 0 _ rfl
  have fres0 := Fres.1 0
  have res1 := Tres 1 _ rfl
  have fres1 := Fres.1 1
  have res2 := Tres 2 _ rfl
  have fres2 := Fres.1 2
  have res3 := Tres 3 _ rfl
  have fres3 := Fres.1 3
  have res4 := Tres 4 _ rfl
  have fres4 := Fres.1 4
  have o0 := To 0 _ rfl
  have o1 := To 1 _ rfl
  have o2 := To 2 _ rfl
  have o3 := To 3 _ rfl
  go_wp2_with fail
  refine (better_at ⟨o.t.s, o.t.r + o.c⟩ r.l _ _ hbt.out).mono ?_
  clear t0 ft0 t1 ft1 t2 ft2 t3 ft3 t4 ft4 res0 fres0 res1 fres1 res2 fres2 res3 fres3 res4 fres4 o0 o1 o2 o3
  rintro e w8 ⟨rfl, b8⟩
  replace Tt := Tt.keep b8
  replace Tres := Tres.keep b8
  replace To := To.keep b8
  replace Ft := Ft.keep b8
  replace Fres := Fres.keep b8
  replace BB := bstep BB b8
  clear b8
  have t0 := Tt 0 _ rfl
  have ft0 := Ft.1 0
  have t1 := Tt 1 _ rfl
  have ft1 := Ft.1 1
  have t2 := Tt 2 _ rfl
  have ft2 := Ft.1 2
  have t3 := Tt 3 _ rfl
  have ft3 := Ft.1 3
  have t4 := Tt 4 _ rfl
  have ft4 := Ft.1 4
  have res0 := Tres 0 _ rfl
  have fres0 := Fres.1 0
  have res1 := Tres 1 _ rfl
  have fres1 := Fres.1 1
  have res2 := Tres 2 _ rfl
  have fres2 := Fres.1 2
  have res3 := Tres 3 _ rfl
  have fres3 := Fres.1 3
  have res4 := Tres 4 _ rfl
  have fres4 := Fres.1 4
  have o0 := To 0 _ rfl
  have o1 := To 1 _ rfl
  have o2 := To 2 _ rfl
  have o3 := To 3 _ rfl
  go_upto_region 11 with (fail)
  clear t0 ft0 t1 ft1 t2 ft2 t3 ft3 t4 ft4 res0 fres0 res1 fres1 res2 fres2 res3 fres3 res4 fres4 o0 o1 o2 o3
  replace Tt := Tt.set 2 (.int .i64 o.t.s) (by simp)
  replace Tres := Tres.other (k' := w.heap.size) (by omega) 2 (.int .i64 o.t.s)
  replace To := To.other (k' := w.heap.size) (by omega) 2 (.int .i64 o.t.s)
  replace Ft := Ft.set ⟨w.heap.size, 2, none⟩ (.int .i64 o.t.s)
  replace Fres := Fres.set ⟨w.heap.size, 2, none⟩ (.int .i64 o.t.s)
  replace BB := BB.setCell (p := ⟨w.heap.size, 2, none⟩) (by first | exact Nat.le_refl _ | (simp only; omega)) (.int .i64 o.t.s)
  replace Tt := Tt.set 3 (.int .i64 (o.t.r + o.c)) (by simp)
  replace Tres := Tres.other (k' := w.heap.size) (by omega) 3 (.int .i64 (o.t.r + o.c))
  replace To := To.other (k' := w.heap.size) (by omega) 3 (.int .i64 (o.t.r + o.c))
  replace Ft := Ft.set ⟨w.heap.size, 3, none⟩ (.int .i64 (o.t.r + o.c))
  replace Fres := Fres.set ⟨w.heap.size, 3, none⟩ (.int .i64 (o.t.r + o.c))
  replace BB := BB.setCell (p := ⟨w.heap.size, 3, none⟩) (by first | exact Nat.le_refl _ | (simp only; omega)) (.int .i64 (o.t.r + o.c))
  obtain ⟨V9, hV9⟩ : ∃ V9, (w8.setCell ⟨w.heap.size, 2, none⟩ (.int .i64 o.t.s)).setCell ⟨w.heap.size, 3, none⟩ (.int .i64 (o.t.r + o.c)) = V9 := ⟨_, rfl⟩
  rw [hV9] at BB Tt Tres To Ft Fres ⊢
  clear hV9
  have t0 := Tt 0 _ rfl
  have ft0 := Ft.1 0
  have t1 := Tt 1 _ rfl
  have ft1 := Ft.1 1
  have t2 := Tt 2 _ rfl
  have ft2 := Ft.1 2
  have t3 := Tt 3 _ rfl
  have ft3 := Ft.1 3
  have t4 := Tt 4 _ rfl
  have ft4 := Ft.1 4
  have res0 := Tres 0 _ rfl
  have fres0 := Fres.1 0
  have res1 := Tres 1 _ rfl
  have fres1 := Fres.1 1
  have res2 := Tres 2 _ rfl
  have fres2 := Fres.1 2
  have res3 := Tres 3 _ rfl
  have fres3 := Fres.1 3
  have res4 := Tres 4 _ rfl
  have fres4 := Fres.1 4
  have o0 := To 0 _ rfl
  have o1 := To 1 _ rfl
  have o2 := To 2 _ rfl
  have o3 := To 3 _ rfl
  go_wp2_with fail
  clear t0 ft0 t1 ft1 t2 ft2 t3 ft3 t4 ft4 res0 fres0 res1 fres1 res2 fres2 res3 fres3 res4 fres4 o0 o1 o2 o3
  replace Tres := Tres.set 0 (.int .i64 o.t.s) (by simp)
  replace Tt := Tt.other (k' := w.heap.size + 1) (by omega) 0 (.int .i64 o.t.s)
  replace To := To.other (k' := w.heap.size + 1) (by omega) 0 (.int .i64 o.t.s)
  replace Ft := Ft.set ⟨w.heap.size + 1, 0, none⟩ (.int .i64 o.t.s)
  replace Fres := Fres.set ⟨w.heap.size + 1, 0, none⟩ (.int .i64 o.t.s)
  replace BB := BB.setCell (p := ⟨w.heap.size + 1, 0, none⟩) (by first | exact Nat.le_refl _ | (simp only; omega)) (.int .i64 o.t.s)
  replace Tres := Tres.set 1 (.int .i64 (o.t.r + o.c)) (by simp)
  replace Tt := Tt.other (k' := w.heap.size + 1) (by omega) 1 (.int .i64 (o.t.r + o.c))
  replace To := To.other (k' := w.heap.size + 1) (by omega) 1 (.int .i64 (o.t.r + o.c))
  replace Ft := Ft.set ⟨w.heap.size + 1, 1, none⟩ (.int .i64 (o.t.r + o.c))
  replace Fres := Fres.set ⟨w.heap.size + 1, 1, none⟩ (.int .i64 (o.t.r + o.c))
  replace BB := BB.setCell (p := ⟨w.heap.size + 1, 1, none⟩) (by first | exact Nat.le_refl _ | (simp only; omega)) (.int .i64 (o.t.r + o.c))
  replace Tres := Tres.set 2 (.int .i64 o.t.s) (by simp)
  replace Tt := Tt.other (k' := w.heap.size + 1) (by omega) 2 (.int .i64 o.t.s)
  replace To := To.other (k' := w.heap.size + 1) (by omega) 2 (.int .i64 o.t.s)
  replace Ft := Ft.set ⟨w.heap.size + 1, 2, none⟩ (.int .i64 o.t.s)
  replace Fres := Fres.set ⟨w.heap.size + 1, 2, none⟩ (.int .i64 o.t.s)
  replace BB := BB.setCell (p := ⟨w.heap.size + 1, 2, none⟩) (by first | exact Nat.le_refl _ | (simp only; omega)) (.int .i64 o.t.s)
  replace Tres := Tres.set 3 (.int .i64 (o.t.r + o.c)) (by simp)
  replace Tt := Tt.other (k' := w.heap.size + 1) (by omega) 3 (.int .i64 (o.t.r + o.c))
  replace To := To.other (k' := w.heap.size + 1) (by omega) 3 (.int .i64 (o.t.r + o.c))
  replace Ft := Ft.set ⟨w.heap.size + 1, 3, none⟩ (.int .i64 (o.t.r + o.c))
  replace Fres := Fres.set ⟨w.heap.size + 1, 3, none⟩ (.int .i64 (o.t.r + o.c))
  replace BB := BB.setCell (p := ⟨w.heap.size + 1, 3, none⟩) (by first | exact Nat.le_refl _ | (simp only; omega)) (.int .i64 (o.t.r + o.c))
  replace Tres := Tres.set 4 (.int .i64 o.p) (by simp)
  replace Tt := Tt.other (k' := w.heap.size + 1) (by omega) 4 (.int .i64 o.p)
  replace To := To.other (k' := w.heap.size + 1) (by omega) 4 (.int .i64 o.p)
  replace Ft := Ft.set ⟨w.heap.size + 1, 4, none⟩ (.int .i64 o.p)
  replace Fres := Fres.set ⟨w.heap.size + 1, 4, none⟩ (.int .i64 o.p)
  replace BB := BB.setCell (p := ⟨w.heap.size + 1, 4, none⟩) (by first | exact Nat.le_refl _ | (simp only; omega)) (.int .i64 o.p)
  obtain ⟨V10, hV10⟩ : ∃ V10, ((((V9.setCell ⟨w.heap.size + 1, 0, none⟩ (.int .i64 o.t.s)).setCell ⟨w.heap.size + 1, 1, none⟩ (.int .i64 (o.t.r + o.c))).setCell ⟨w.heap.size + 1, 2, none⟩ (.int .i64 o.t.s)).setCell ⟨w.heap.size + 1, 3, none⟩ (.int .i64 (o.t.r + o.c))).setCell ⟨w.heap.size + 1, 4, none⟩ (.int .i64 o.p) = V10 := ⟨_, rfl⟩
  rw [hV10] at BB Tt Tres To Ft Fres ⊢
  clear hV10
  have res0 := Tres 0 _ rfl
  have fres0 := Fres.1 0
  have res1 := Tres 1 _ rfl
  have fres1 := Fres.1 1
  have res2 := Tres 2 _ rfl
  have fres2 := Fres.1 2
  have res3 := Tres 3 _ rfl
  have fres3 := Fres.1 3
  have res4 := Tres 4 _ rfl
  have fres4 := Fres.1 4
  refine bodyPost_ret (v := (⟨thr o, thr o, o.p⟩ : Rt).v) (by simp [results, Try.results18, go_sem, thr, res0, res1, res2, res3, res4]) rfl ⟨rfl, BB⟩
set_option maxRecDepth 100000 in
set_option maxHeartbeats 4000000 in
theorem choose_4 (r : Rt) (o : Ofr) (n : Nat) (a : Option Addr) (cap : Nat) (l : List Ofr) (w : World) (hn : Hid (n = l.length)) (hl : OfAt w a l) (hm : Hid (l.length ≤ maxLen)) (hv : Hid (validR r = true)) (ho : Hid (offsB l = true)) (hb : Hid (bestV r l l.length = o)) (hf : Hid (decide (0 ≤ bestTo r l l.length) = true)) (x0 : 0 ≤ o.t.r) (x1 : o.t.r ≤ 1000000) (x2 : 1 ≤ o.c) (x3 : o.c ≤ 4096) (hbt : Hid (betterB (thr o) r.l = false)) : Calls Try.prog 18 #[r.v, .slice a n cap] w (Gives ((⟨thr o, r.l, o.p⟩ : Rt).v) w) := by
  go_enter Try.func18, Try.ntmps18
  go_wp2_with fail
  have Tt := CAt.new (w) [.int .i64 r.o.s, .int .i64 r.o.r, .int .i64 r.l.s, .int .i64 r.l.r, .int .i64 r.p] 25
  have Ft := Fz.new (w) #[.int .i64 r.o.s, .int .i64 r.o.r, .int .i64 r.l.s, .int .i64 r.l.r, .int .i64 r.p] 25
  have BB : Below w.heap.size w ((w).alloc (.cells #[.int .i64 r.o.s, .int .i64 r.o.r, .int .i64 r.l.s, .int .i64 r.l.r, .int .i64 r.p] 25)) := ball (Below.refl _ _) _
  have Tres := CAt.new (w.alloc (.cells #[.int .i64 r.o.s, .int .i64 r.o.r, .int .i64 r.l.s, .int .i64 r.l.r, .int .i64 r.p] 25)) [.int .i64 0, .int .i64 0, .int .i64 0, .int .i64 0, .int .i64 0] 25
  have Fres := Fz.new (w.alloc (.cells #[.int .i64 r.o.s, .int .i64 r.o.r, .int .i64 r.l.s, .int .i64 r.l.r, .int .i64 r.p] 25)) #[.int .i64 0, .int .i64 0, .int .i64 0, .int .i64 0, .int .i64 0] 25
  replace Tt := Tt.alloc (.cells #[.int .i64 0, .int .i64 0, .int .i64 0, .int .i64 0, .int .i64 0] 25)
  replace Ft := Ft.alloc (.cells #[.int .i64 0, .int .i64 0, .int .i64 0, .int .i64 0, .int .i64 0] 25)
  replace BB := ball BB (.cells #[.int .i64 0, .int .i64 0, .int .i64 0, .int .i64 0, .int .i64 0] 25)
  simp only [World.size_alloc, Nat.add_assoc, Nat.reduceAdd] at Tres Fres
  obtain ⟨V1, hV1⟩ : ∃ V1, (w.alloc (.cells #[.int .i64 r.o.s, .int .i64 r.o.r, .int .i64 r.l.s, .int .i64 r.l.r, .int .i64 r.p] 25)).alloc (.cells #[.int .i64 0, .int .i64 0, .int .i64 0, .int .i64 0, .int .i64 0] 25) = V1 := ⟨_, rfl⟩
  rw [hV1] at BB Tt Tres Ft Fres ⊢
  clear hV1
  refine (isroute_at r _ _ hv.out).mono ?_
  rintro e w2 ⟨rfl, b2⟩
  replace Tt := Tt.keep b2
  replace Tres := Tres.keep b2
  replace Ft := Ft.keep b2
  replace Fres := Fres.keep b2
  replace BB := bstep BB b2
  clear b2
  have t0 := Tt 0 _ rfl
  have ft0 := Ft.1 0
  have t1 := Tt 1 _ rfl
  have ft1 := Ft.1 1
  have t2 := Tt 2 _ rfl
  have ft2 := Ft.1 2
  have t3 := Tt 3 _ rfl
  have ft3 := Ft.1 3
  have t4 := Tt 4 _ rfl
  have ft4 := Ft.1 4
  have res0 := Tres 0 _ rfl
  have fres0 := Fres.1 0
  have res1 := Tres 1 _ rfl
  have fres1 := Fres.1 1
  have res2 := Tres 2 _ rfl
  have fres2 := Fres.1 2
  have res3 := Tres 3 _ rfl
  have fres3 := Fres.1 3
  have res4 := Tres 4 _ rfl
  have fres4 := Fres.1 4
  go_wp2_with fail
  refine (areoffers_at n a cap l true _ hn.out (hl.keep BB) hm.out ho.out).mono ?_
  clear t0 ft0 t1 ft1 t2 ft2 t3 ft3 t4 ft4 res0 fres0 res1 fres1 res2 fres2 res3 fres3 res4 fres4
  rintro e w3 ⟨rfl, b3⟩
  replace Tt := Tt.keep b3
  replace Tres := Tres.keep b3
  replace Ft := Ft.keep b3
  replace Fres := Fres.keep b3
  replace BB := bstep BB b3
  clear b3
  have t0 := Tt 0 _ rfl
  have ft0 := Ft.1 0
  have t1 := Tt 1 _ rfl
  have ft1 := Ft.1 1
  have t2 := Tt 2 _ rfl
  have ft2 := Ft.1 2
  have t3 := Tt 3 _ rfl
  have ft3 := Ft.1 3
  have t4 := Tt 4 _ rfl
  have ft4 := Ft.1 4
  have res0 := Tres 0 _ rfl
  have fres0 := Fres.1 0
  have res1 := Tres 1 _ rfl
  have fres1 := Fres.1 1
  have res2 := Tres 2 _ rfl
  have fres2 := Fres.1 2
  have res3 := Tres 3 _ rfl
  have fres3 := Fres.1 3
  have res4 := Tres 4 _ rfl
  have fres4 := Fres.1 4
  go_wp2_with fail
  refine (first_at n r w.heap.size a cap l o true _ hn.out Tt (hl.keep BB) ho.out hm.out hb.out hf.out).mono ?_
  clear t0 ft0 t1 ft1 t2 ft2 t3 ft3 t4 ft4 res0 fres0 res1 fres1 res2 fres2 res3 fres3 res4 fres4
  rintro e w4 ⟨rfl, b4⟩
  replace Tt := Tt.keep b4
  replace Tres := Tres.keep b4
  replace Ft := Ft.keep b4
  replace Fres := Fres.keep b4
  replace BB := bstep BB b4
  clear b4
  have t0 := Tt 0 _ rfl
  have ft0 := Ft.1 0
  have t1 := Tt 1 _ rfl
  have ft1 := Ft.1 1
  have t2 := Tt 2 _ rfl
  have ft2 := Ft.1 2
  have t3 := Tt 3 _ rfl
  have ft3 := Ft.1 3
  have t4 := Tt 4 _ rfl
  have ft4 := Ft.1 4
  have res0 := Tres 0 _ rfl
  have fres0 := Fres.1 0
  have res1 := Tres 1 _ rfl
  have fres1 := Fres.1 1
  have res2 := Tres 2 _ rfl
  have fres2 := Fres.1 2
  have res3 := Tres 3 _ rfl
  have fres3 := Fres.1 3
  have res4 := Tres 4 _ rfl
  have fres4 := Fres.1 4
  go_upto_region 5 with (fail)
  clear t0 ft0 t1 ft1 t2 ft2 t3 ft3 t4 ft4 res0 fres0 res1 fres1 res2 fres2 res3 fres3 res4 fres4
  have bs5 : w.heap.size ≤ w4.heap.size := BB.size
  have lt5t : w.heap.size < w4.heap.size := World.block_lt_of_cell? w4 ⟨w.heap.size, 0, none⟩ (Tt 0 _ rfl)
  have lt5res : w.heap.size + 1 < w4.heap.size := World.block_lt_of_cell? w4 ⟨w.heap.size + 1, 0, none⟩ (Tres 0 _ rfl)
  have To := CAt.new (w4) [.int .i64 o.p, .int .i64 o.t.s, .int .i64 o.t.r, .int .i64 o.c] 40
  replace Tt := Tt.alloc (.cells #[.int .i64 o.p, .int .i64 o.t.s, .int .i64 o.t.r, .int .i64 o.c] 40)
  replace Tres := Tres.alloc (.cells #[.int .i64 o.p, .int .i64 o.t.s, .int .i64 o.t.r, .int .i64 o.c] 40)
  replace Ft := Ft.alloc (.cells #[.int .i64 o.p, .int .i64 o.t.s, .int .i64 o.t.r, .int .i64 o.c] 40)
  replace Fres := Fres.alloc (.cells #[.int .i64 o.p, .int .i64 o.t.s, .int .i64 o.t.r, .int .i64 o.c] 40)
  replace BB := ball BB (.cells #[.int .i64 o.p, .int .i64 o.t.s, .int .i64 o.t.r, .int .i64 o.c] 40)
  obtain ⟨V5, hV5⟩ : ∃ V5, w4.alloc (.cells #[.int .i64 o.p, .int .i64 o.t.s, .int .i64 o.t.r, .int .i64 o.c] 40) = V5 := ⟨_, rfl⟩
  rw [hV5] at BB Tt Tres To Ft Fres ⊢
  clear hV5
  obtain ⟨k5, hk5⟩ : ∃ k5, w4.heap.size = k5 := ⟨_, rfl⟩
  rw [hk5] at To bs5 lt5t lt5res ⊢
  clear hk5
  have t0 := Tt 0 _ rfl
  have ft0 := Ft.1 0
  have t1 := Tt 1 _ rfl
  have ft1 := Ft.1 1
  have t2 := Tt 2 _ rfl
  have ft2 := Ft.1 2
  have t3 := Tt 3 _ rfl
  have ft3 := Ft.1 3
  have t4 := Tt 4 _ rfl
  have ft4 := Ft.1 4
  have res0 := Tres 0 _ rfl
  have fres0 := Fres.1 0
  have res1 := Tres 1 _ rfl
  have fres1 := Fres.1 1
  have res2 := Tres 2 _ rfl
  have fres2 := Fres.1 2
  have res3 := Tres 3 _ rfl
  have fres3 := Fres.1 3
  have res4 := Tres 4 _ rfl
  have fres4 := Fres.1 4
  have o0 := To 0 _ rfl
  have o1 := To 1 _ rfl
  have o2 := To 2 _ rfl
  have o3 := To 3 _ rfl
  have nb1 : ¬ w.heap.size = k5 := by omega
  have nb2 : ¬ k5 = w.heap.size := by omega
  have nb3 : ¬ w.heap.size + 1 = w.heap.size := by omega
  unfold thr
  go_upto_region 8 with (fail)
  go_region_held3 (fun w' => w'.cell? ⟨k5, 0, none⟩ = some (.int .i64 o.p) ∧ w'.cell? ⟨k5, 1, none⟩ = some (.int .i64 o.t.s) ∧ w'.cell? ⟨k5, 2, none⟩ = some (.int .i64 o.t.r) ∧ w'.cell? ⟨k5, 3, none⟩ = some (.int .i64 o.c))
    (first | go_keep)
    (first
      | (go_at_call 39
         refine (through_any o _ x0 x1 x2 x3).mono ?_
         rintro e w9 ⟨rfl, bb⟩
         have B9 := bstep (Below.drew BB) bb
         have Tt9 := (CAt.drew Tt).keep bb
         have Tr9 := (CAt.drew Tres).keep bb
         have To9 := (CAt.drew To).keep bb
         have Ft9 := (Fz.drew Ft).keep bb
         have Fr9 := (Fz.drew Fres).keep bb
         have d0 := Tt9 0 _ rfl; have d1 := Tt9 1 _ rfl; have d2 := Tt9 2 _ rfl; have d3 := Tt9 3 _ rfl; have d4 := Tt9 4 _ rfl
         have e0 := To9 0 _ rfl; have e1 := To9 1 _ rfl; have e2 := To9 2 _ rfl; have e3 := To9 3 _ rfl
         have g0 := Ft9.1 0; have g1 := Ft9.1 1; have g4 := Ft9.1 4
         unfold thr))
  clear d0 d1 d2 d3 d4 e0 e1 e2 e3 g0 g1 g4
  replace Tt := Tt9; replace Tres := Tr9; replace To := To9; replace Ft := Ft9; replace Fres := Fr9; replace BB := B9
  clear bb
  replace Tt := Tt.set 0 (.int .i64 o.t.s) (by simp)
  replace Tres := Tres.other (k' := w.heap.size) (by omega) 0 (.int .i64 o.t.s)
  replace To := To.other (k' := w.heap.size) (by omega) 0 (.int .i64 o.t.s)
  replace Ft := Ft.set ⟨w.heap.size, 0, none⟩ (.int .i64 o.t.s)
  replace Fres := Fres.set ⟨w.heap.size, 0, none⟩ (.int .i64 o.t.s)
  replace BB := BB.setCell (p := ⟨w.heap.size, 0, none⟩) (by first | exact Nat.le_refl _ | (simp only; omega)) (.int .i64 o.t.s)
  replace Tt := Tt.set 1 (.int .i64 (o.t.r + o.c)) (by simp)
  replace Tres := Tres.other (k' := w.heap.size) (by omega) 1 (.int .i64 (o.t.r + o.c))
  replace To := To.other (k' := w.heap.size) (by omega) 1 (.int .i64 (o.t.r + o.c))
  replace Ft := Ft.set ⟨w.heap.size, 1, none⟩ (.int .i64 (o.t.r + o.c))
  replace Fres := Fres.set ⟨w.heap.size, 1, none⟩ (.int .i64 (o.t.r + o.c))
  replace BB := BB.setCell (p := ⟨w.heap.size, 1, none⟩) (by first | exact Nat.le_refl _ | (simp only; omega)) (.int .i64 (o.t.r + o.c))
  obtain ⟨V6, hV6⟩ : ∃ V6, (w9.setCell ⟨w.heap.size, 0, none⟩ (.int .i64 o.t.s)).setCell ⟨w.heap.size, 1, none⟩ (.int .i64 (o.t.r + o.c)) = V6 := ⟨_, rfl⟩
  rw [hV6] at BB Tt Tres To Ft Fres ⊢
  clear hV6
  replace Tt := Tt.set 4 (.int .i64 o.p) (by simp)
  replace Tres := Tres.other (k' := w.heap.size) (by omega) 4 (.int .i64 o.p)
  replace To := To.other (k' := w.heap.size) (by omega) 4 (.int .i64 o.p)
  replace Ft := Ft.set ⟨w.heap.size, 4, none⟩ (.int .i64 o.p)
  replace Fres := Fres.set ⟨w.heap.size, 4, none⟩ (.int .i64 o.p)
  replace BB := BB.setCell (p := ⟨w.heap.size, 4, none⟩) (by first | exact Nat.le_refl _ | (simp only; omega)) (.int .i64 o.p)
  obtain ⟨V7, hV7⟩ : ∃ V7, V6.setCell ⟨w.heap.size, 4, none⟩ (.int .i64 o.p) = V7 := ⟨_, rfl⟩
  rw [hV7] at BB Tt Tres To Ft Fres ⊢
  clear hV7
  have t0 := Tt 0 _ rfl
  have ft0 := Ft.1 0
  have t1 := Tt 1 _ rfl
  have ft1 := Ft.1 1
  have t2 := Tt 2 _ rfl
  have ft2 := Ft.1 2
  have t3 := Tt 3 _ rfl
  have ft3 := Ft.1 3
  have t4 := Tt 4 _ rfl
  have ft4 := Ft.1 4
  have res0 := Tres 0 _ rfl
  have fres0 := Fres.1 0
  have res1 := Tres 1 _ rfl
  have fres1 := Fres.1 1
  have res2 := Tres 2 _ rfl
  have fres2 := Fres.1 2
  have res3 := Tres 3 _ rfl
  have fres3 := Fres.1 3
  have res4 := Tres 4 _ rfl
  have fres4 := Fres.1 4
  have o0 := To 0 _ rfl
  have o1 := To 1 _ rfl
  have o2 := To 2 _ rfl
  have o3 := To 3 _ rfl
  go_wp2_with fail
  refine (better_at ⟨o.t.s, o.t.r + o.c⟩ r.l _ _ hbt.out).mono ?_
  clear t0 ft0 t1 ft1 t2 ft2 t3 ft3 t4 ft4 res0 fres0 res1 fres1 res2 fres2 res3 fres3 res4 fres4 o0 o1 o2 o3
  rintro e w8 ⟨rfl, b8⟩
  replace Tt := Tt.keep b8
  replace Tres := Tres.keep b8
  replace To := To.keep b8
  replace Ft := Ft.keep b8
  replace Fres := Fres.keep b8
  replace BB := bstep BB b8
  clear b8
  have t0 := Tt 0 _ rfl
  have ft0 := Ft.1 0
  have t1 := Tt 1 _ rfl
  have ft1 := Ft.1 1
  have t2 := Tt 2 _ rfl
  have ft2 := Ft.1 2
  have t3 := Tt 3 _ rfl
  have ft3 := Ft.1 3
  have t4 := Tt 4 _ rfl
  have ft4 := Ft.1 4
  have res0 := Tres 0 _ rfl
  have fres0 := Fres.1 0
  have res1 := Tres 1 _ rfl
  have fres1 := Fres.1 1
  have res2 := Tres 2 _ rfl
  have fres2 := Fres.1 2
  have res3 := Tres 3 _ rfl
  have fres3 := Fres.1 3
  have res4 := Tres 4 _ rfl
  have fres4 := Fres.1 4
  have o0 := To 0 _ rfl
  have o1 := To 1 _ rfl
  have o2 := To 2 _ rfl
  have o3 := To 3 _ rfl
  go_wp2_with fail
  clear t0 ft0 t1 ft1 t2 ft2 t3 ft3 t4 ft4 res0 fres0 res1 fres1 res2 fres2 res3 fres3 res4 fres4 o0 o1 o2 o3
  replace Tres := Tres.set 0 (.int .i64 o.t.s) (by simp)
  replace Tt := Tt.other (k' := w.heap.size + 1) (by omega) 0 (.int .i64 o.t.s)
  replace To := To.other (k' := w.heap.size + 1) (by omega) 0 (.int .i64 o.t.s)
  replace Ft := Ft.set ⟨w.heap.size + 1, 0, none⟩ (.int .i64 o.t.s)
  replace Fres := Fres.set ⟨w.heap.size + 1, 0, none⟩ (.int .i64 o.t.s)
  replace BB := BB.setCell (p := ⟨w.heap.size + 1, 0, none⟩) (by first | exact Nat.le_refl _ | (simp only; omega)) (.int .i64 o.t.s)
  replace Tres := Tres.set 1 (.int .i64 (o.t.r + o.c)) (by simp)
  replace Tt := Tt.other (k' := w.heap.size + 1) (by omega) 1 (.int .i64 (o.t.r + o.c))
  replace To := To.other (k' := w.heap.size + 1) (by omega) 1 (.int .i64 (o.t.r + o.c))
  replace Ft := Ft.set ⟨w.heap.size + 1, 1, none⟩ (.int .i64 (o.t.r + o.c))
  replace Fres := Fres.set ⟨w.heap.size + 1, 1, none⟩ (.int .i64 (o.t.r + o.c))
  replace BB := BB.setCell (p := ⟨w.heap.size + 1, 1, none⟩) (by first | exact Nat.le_refl _ | (simp only; omega)) (.int .i64 (o.t.r + o.c))
  replace Tres := Tres.set 2 (.int .i64 r.l.s) (by simp)
  replace Tt := Tt.other (k' := w.heap.size + 1) (by omega) 2 (.int .i64 r.l.s)
  replace To := To.other (k' := w.heap.size + 1) (by omega) 2 (.int .i64 r.l.s)
  replace Ft := Ft.set ⟨w.heap.size + 1, 2, none⟩ (.int .i64 r.l.s)
  replace Fres := Fres.set ⟨w.heap.size + 1, 2, none⟩ (.int .i64 r.l.s)
  replace BB := BB.setCell (p := ⟨w.heap.size + 1, 2, none⟩) (by first | exact Nat.le_refl _ | (simp only; omega)) (.int .i64 r.l.s)
  replace Tres := Tres.set 3 (.int .i64 r.l.r) (by simp)
  replace Tt := Tt.other (k' := w.heap.size + 1) (by omega) 3 (.int .i64 r.l.r)
  replace To := To.other (k' := w.heap.size + 1) (by omega) 3 (.int .i64 r.l.r)
  replace Ft := Ft.set ⟨w.heap.size + 1, 3, none⟩ (.int .i64 r.l.r)
  replace Fres := Fres.set ⟨w.heap.size + 1, 3, none⟩ (.int .i64 r.l.r)
  replace BB := BB.setCell (p := ⟨w.heap.size + 1, 3, none⟩) (by first | exact Nat.le_refl _ | (simp only; omega)) (.int .i64 r.l.r)
  replace Tres := Tres.set 4 (.int .i64 o.p) (by simp)
  replace Tt := Tt.other (k' := w.heap.size + 1) (by omega) 4 (.int .i64 o.p)
  replace To := To.other (k' := w.heap.size + 1) (by omega) 4 (.int .i64 o.p)
  replace Ft := Ft.set ⟨w.heap.size + 1, 4, none⟩ (.int .i64 o.p)
  replace Fres := Fres.set ⟨w.heap.size + 1, 4, none⟩ (.int .i64 o.p)
  replace BB := BB.setCell (p := ⟨w.heap.size + 1, 4, none⟩) (by first | exact Nat.le_refl _ | (simp only; omega)) (.int .i64 o.p)
  obtain ⟨V9, hV9⟩ : ∃ V9, ((((w8.setCell ⟨w.heap.size + 1, 0, none⟩ (.int .i64 o.t.s)).setCell ⟨w.heap.size + 1, 1, none⟩ (.int .i64 (o.t.r + o.c))).setCell ⟨w.heap.size + 1, 2, none⟩ (.int .i64 r.l.s)).setCell ⟨w.heap.size + 1, 3, none⟩ (.int .i64 r.l.r)).setCell ⟨w.heap.size + 1, 4, none⟩ (.int .i64 o.p) = V9 := ⟨_, rfl⟩
  rw [hV9] at BB Tt Tres To Ft Fres ⊢
  clear hV9
  have res0 := Tres 0 _ rfl
  have fres0 := Fres.1 0
  have res1 := Tres 1 _ rfl
  have fres1 := Fres.1 1
  have res2 := Tres 2 _ rfl
  have fres2 := Fres.1 2
  have res3 := Tres 3 _ rfl
  have fres3 := Fres.1 3
  have res4 := Tres 4 _ rfl
  have fres4 := Fres.1 4
  refine bodyPost_ret (v := (⟨thr o, r.l, o.p⟩ : Rt).v) (by simp [results, Try.results18, go_sem, thr, res0, res1, res2, res3, res4]) rfl ⟨rfl, BB⟩
theorem choose_any (r : Rt) (n : Nat) (a : Option Addr) (cap : Nat) (l : List Ofr) (w : World) (hn : n = l.length) (hl : OfAt w a l) (hm : l.length ≤ maxLen) : Calls Try.prog 18 #[r.v, .slice a n cap] w (Gives (chooseV r l).v w) := by
  cases hv : validR r
  · rw [show chooseV r l = r by unfold chooseV; rw [if_neg (by rw [hv]; simp)]]
    exact choose_0 r n a cap l w (Lib.hid hn) hl (Lib.hid hm) (Lib.hid hv)
  cases ho : offsB l
  · rw [show chooseV r l = r by unfold chooseV; rw [if_neg (by rw [ho]; simp)]]
    exact choose_1 r n a cap l w (Lib.hid hn) hl (Lib.hid hm) (Lib.hid hv) (Lib.hid ho)
  cases hf : decide (0 ≤ bestTo r l l.length)
  · have hf' := of_decide_eq_false hf
    rw [show chooseV r l = loseV r by unfold chooseV; rw [if_pos ⟨hv, ho⟩, if_pos (by omega)]]
    exact choose_2 r _ n a cap l w (Lib.hid hn) hl (Lib.hid hm) (Lib.hid hv) (Lib.hid ho) (Lib.hid rfl) (Lib.hid hf)
  · have hf' := of_decide_eq_true hf
    have hbm := off_bd (offs_mem ho _ (bestV_mem (r := r) (Nat.le_refl _) hf'))
    have e : chooseV r l = takeV r (bestV r l l.length) := by unfold chooseV bestV; rw [if_pos ⟨hv, ho⟩, if_neg (by omega), if_neg (by omega)]
    rw [e]
    cases hbt : betterB (thr (bestV r l l.length)) r.l
    · rw [show takeV r (bestV r l l.length) = ⟨thr (bestV r l l.length), r.l, (bestV r l l.length).p⟩ by unfold takeV; rw [hbt]; rfl]
      exact choose_4 r _ n a cap l w (Lib.hid hn) hl (Lib.hid hm) (Lib.hid hv) (Lib.hid ho) (Lib.hid rfl) (Lib.hid hf) hbm.2.2.2.2.1 hbm.2.2.2.2.2.1 hbm.2.2.2.2.2.2.1 hbm.2.2.2.2.2.2.2 (Lib.hid hbt)
    · rw [show takeV r (bestV r l l.length) = ⟨thr (bestV r l l.length), thr (bestV r l l.length), (bestV r l l.length).p⟩ by unfold takeV; rw [hbt]; rfl]
      exact choose_3 r _ n a cap l w (Lib.hid hn) hl (Lib.hid hm) (Lib.hid hv) (Lib.hid ho) (Lib.hid rfl) (Lib.hid hf) hbm.2.2.2.2.1 hbm.2.2.2.2.2.1 hbm.2.2.2.2.2.2.1 hbm.2.2.2.2.2.2.2 (Lib.hid hbt)
theorem choose_at (r q : Rt) (n : Nat) (a : Option Addr) (cap : Nat) (l : List Ofr) (w : World) (hn : n = l.length) (hl : OfAt w a l) (hm : l.length ≤ maxLen) (hq : chooseV r l = q) : Calls Try.prog 18 #[r.v, .slice a n cap] w (Gives q.v w) := by
  rw [← hq]; exact choose_any r n a cap l w hn hl hm
end Go.Proofs.Ytbonchnhngaicaa
