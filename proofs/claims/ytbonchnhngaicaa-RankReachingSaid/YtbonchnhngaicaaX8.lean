/- Proved: what the reference Choose returns. Conditions: the list lies in memory. -/
import Derived.Test.YtbonchnhngaicaaX7
namespace Go.Proofs.Ytbonchnhngaicaa
open Go.RowKit Go.Sort Go.BigFrame
set_option linter.unusedVariables false
set_option linter.unusedSimpArgs false
attribute [local go_sem] cell_alloc_old

set_option maxRecDepth 100000 in
set_option maxHeartbeats 1000000 in
theorem rchoose_0 (r : Rt) (n : Nat) (a : Option Addr) (cap : Nat) (l : List Ofr) (w : World) (hn : Hid (n = l.length)) (hl : OfAt w a l) (hm : Hid (l.length ≤ maxLen)) (hv : Hid (validR r = false)) : Calls Try.prog 19 #[r.v, .slice a n cap] w (Gives r.v w) := by
  go_enter Try.func19, Try.ntmps19
  go_wp2_with fail
  have Tt := CAt.new (w) [.int .i64 r.o.s, .int .i64 r.o.r, .int .i64 r.l.s, .int .i64 r.l.r, .int .i64 r.p] 25
  have Ft := Fz.new (w) #[.int .i64 r.o.s, .int .i64 r.o.r, .int .i64 r.l.s, .int .i64 r.l.r, .int .i64 r.p] 25
  have BB : Below w.heap.size w ((w).alloc (.cells #[.int .i64 r.o.s, .int .i64 r.o.r, .int .i64 r.l.s, .int .i64 r.l.r, .int .i64 r.p] 25)) := ball (Below.refl _ _) _
  have Tres := CAt.new (w.alloc (.cells #[.int .i64 r.o.s, .int .i64 r.o.r, .int .i64 r.l.s, .int .i64 r.l.r, .int .i64 r.p] 25)) [.int .i64 0, .int .i64 0, .int .i64 0, .int .i64 0, .int .i64 0] 25
  have Fres := Fz.new (w.alloc (.cells #[.int .i64 r.o.s, .int .i64 r.o.r, .int .i64 r.l.s, .int .i64 r.l.r, .int .i64 r.p] 25)) #[.int .i64 0, .int .i64 0, .int .i64 0, .int .i64 0, .int .i64 0] 25
  replace Tt := Tt.alloc (.cells #[.int .i64 0, .int .i64 0, .int .i64 0, .int .i64 0, .int .i64 0] 25)
  replace Ft := Ft.alloc (.cells #[.int .i64 0, .int .i64 0, .int .i64 0, .int .i64 0, .int .i64 0] 25)
  replace BB := ball BB (.cells #[.int .i64 0, .int .i64 0, .int .i64 0, .int .i64 0, .int .i64 0] 25)
  simp only [World.size_alloc, Nat.add_assoc, Nat.reduceAdd] at Tres Fres
  obtain ⟨V1, hV1⟩ : ∃ V1, (w.alloc (.cells #[.int .i64 r.o.s, .int .i64 r.o.r, .int .i64 r.l.s, .int .i64 r.l.r, .int .i64 r.p] 25)).alloc (.cells #[.int .i64 0, .int .i64 0, .int .i64 0, .int .i64 0, .int .i64 0] 25) = V1 := ⟨_, rfl⟩
  rw [hV1] at BB Tt Tres Ft Fres ⊢
  clear hV1
  refine (rvalid_at r _ _ hv.out).mono ?_
  rintro e w2 ⟨rfl, b2⟩
  replace Tt := Tt.keep b2
  replace Tres := Tres.keep b2
  replace Ft := Ft.keep b2
  replace Fres := Fres.keep b2
  replace BB := bstep BB b2
  clear b2
  have t0 := Tt 0 _ rfl
  have ft0 := Ft.1 0
  have t1 := Tt 1 _ rfl
  have ft1 := Ft.1 1
  have t2 := Tt 2 _ rfl
  have ft2 := Ft.1 2
  have t3 := Tt 3 _ rfl
  have ft3 := Ft.1 3
  have t4 := Tt 4 _ rfl
  have ft4 := Ft.1 4
  have res0 := Tres 0 _ rfl
  have fres0 := Fres.1 0
  have res1 := Tres 1 _ rfl
  have fres1 := Fres.1 1
  have res2 := Tres 2 _ rfl
  have fres2 := Fres.1 2
  have res3 := Tres 3 _ rfl
  have fres3 := Fres.1 3
  have res4 := Tres 4 _ rfl
  have fres4 := Fres.1 4
  go_wp2_with fail
  clear t0 ft0 t1 ft1 t2 ft2 t3 ft3 t4 ft4 res0 fres0 res1 fres1 res2 fres2 res3 fres3 res4 fres4
  replace Tres := Tres.set 0 (.int .i64 r.o.s) (by simp)
  replace Tt := Tt.other (k' := w.heap.size + 1) (by omega) 0 (.int .i64 r.o.s)
  replace Ft := Ft.set ⟨w.heap.size + 1, 0, none⟩ (.int .i64 r.o.s)
  replace Fres := Fres.set ⟨w.heap.size + 1, 0, none⟩ (.int .i64 r.o.s)
  replace BB := BB.setCell (p := ⟨w.heap.size + 1, 0, none⟩) (by first | exact Nat.le_refl _ | (simp only; omega)) (.int .i64 r.o.s)
  replace Tres := Tres.set 1 (.int .i64 r.o.r) (by simp)
  replace Tt := Tt.other (k' := w.heap.size + 1) (by omega) 1 (.int .i64 r.o.r)
  replace Ft := Ft.set ⟨w.heap.size + 1, 1, none⟩ (.int .i64 r.o.r)
  replace Fres := Fres.set ⟨w.heap.size + 1, 1, none⟩ (.int .i64 r.o.r)
  replace BB := BB.setCell (p := ⟨w.heap.size + 1, 1, none⟩) (by first | exact Nat.le_refl _ | (simp only; omega)) (.int .i64 r.o.r)
  replace Tres := Tres.set 2 (.int .i64 r.l.s) (by simp)
  replace Tt := Tt.other (k' := w.heap.size + 1) (by omega) 2 (.int .i64 r.l.s)
  replace Ft := Ft.set ⟨w.heap.size + 1, 2, none⟩ (.int .i64 r.l.s)
  replace Fres := Fres.set ⟨w.heap.size + 1, 2, none⟩ (.int .i64 r.l.s)
  replace BB := BB.setCell (p := ⟨w.heap.size + 1, 2, none⟩) (by first | exact Nat.le_refl _ | (simp only; omega)) (.int .i64 r.l.s)
  replace Tres := Tres.set 3 (.int .i64 r.l.r) (by simp)
  replace Tt := Tt.other (k' := w.heap.size + 1) (by omega) 3 (.int .i64 r.l.r)
  replace Ft := Ft.set ⟨w.heap.size + 1, 3, none⟩ (.int .i64 r.l.r)
  replace Fres := Fres.set ⟨w.heap.size + 1, 3, none⟩ (.int .i64 r.l.r)
  replace BB := BB.setCell (p := ⟨w.heap.size + 1, 3, none⟩) (by first | exact Nat.le_refl _ | (simp only; omega)) (.int .i64 r.l.r)
  replace Tres := Tres.set 4 (.int .i64 r.p) (by simp)
  replace Tt := Tt.other (k' := w.heap.size + 1) (by omega) 4 (.int .i64 r.p)
  replace Ft := Ft.set ⟨w.heap.size + 1, 4, none⟩ (.int .i64 r.p)
  replace Fres := Fres.set ⟨w.heap.size + 1, 4, none⟩ (.int .i64 r.p)
  replace BB := BB.setCell (p := ⟨w.heap.size + 1, 4, none⟩) (by first | exact Nat.le_refl _ | (simp only; omega)) (.int .i64 r.p)
  obtain ⟨V3, hV3⟩ : ∃ V3, ((((w2.setCell ⟨w.heap.size + 1, 0, none⟩ (.int .i64 r.o.s)).setCell ⟨w.heap.size + 1, 1, none⟩ (.int .i64 r.o.r)).setCell ⟨w.heap.size + 1, 2, none⟩ (.int .i64 r.l.s)).setCell ⟨w.heap.size + 1, 3, none⟩ (.int .i64 r.l.r)).setCell ⟨w.heap.size + 1, 4, none⟩ (.int .i64 r.p) = V3 := ⟨_, rfl⟩
  rw [hV3] at BB Tt Tres Ft Fres ⊢
  clear hV3
  have res0 := Tres 0 _ rfl
  have fres0 := Fres.1 0
  have res1 := Tres 1 _ rfl
  have fres1 := Fres.1 1
  have res2 := Tres 2 _ rfl
  have fres2 := Fres.1 2
  have res3 := Tres 3 _ rfl
  have fres3 := Fres.1 3
  have res4 := Tres 4 _ rfl
  have fres4 := Fres.1 4
  refine bodyPost_ret (v := r.v) (by simp [results, Try.results19, go_sem, loseV, res0, res1, res2, res3, res4]) rfl ⟨rfl, BB⟩
set_option maxRecDepth 100000 in
set_option maxHeartbeats 1000000 in
theorem rchoose_1 (r : Rt) (n : Nat) (a : Option Addr) (cap : Nat) (l : List Ofr) (w : World) (hn : Hid (n = l.length)) (hl : OfAt w a l) (hm : Hid (l.length ≤ maxLen)) (hv : Hid (validR r = true)) (ho : Hid (offsB l = false)) : Calls Try.prog 19 #[r.v, .slice a n cap] w (Gives r.v w) := by
  go_enter Try.func19, Try.ntmps19
  go_wp2_with fail
  have Tt := CAt.new (w) [.int .i64 r.o.s, .int .i64 r.o.r, .int .i64 r.l.s, .int .i64 r.l.r, .int .i64 r.p] 25
  have Ft := Fz.new (w) #[.int .i64 r.o.s, .int .i64 r.o.r, .int .i64 r.l.s, .int .i64 r.l.r, .int .i64 r.p] 25
  have BB : Below w.heap.size w ((w).alloc (.cells #[.int .i64 r.o.s, .int .i64 r.o.r, .int .i64 r.l.s, .int .i64 r.l.r, .int .i64 r.p] 25)) := ball (Below.refl _ _) _
  have Tres := CAt.new (w.alloc (.cells #[.int .i64 r.o.s, .int .i64 r.o.r, .int .i64 r.l.s, .int .i64 r.l.r, .int .i64 r.p] 25)) [.int .i64 0, .int .i64 0, .int .i64 0, .int .i64 0, .int .i64 0] 25
  have Fres := Fz.new (w.alloc (.cells #[.int .i64 r.o.s, .int .i64 r.o.r, .int .i64 r.l.s, .int .i64 r.l.r, .int .i64 r.p] 25)) #[.int .i64 0, .int .i64 0, .int .i64 0, .int .i64 0, .int .i64 0] 25
  replace Tt := Tt.alloc (.cells #[.int .i64 0, .int .i64 0, .int .i64 0, .int .i64 0, .int .i64 0] 25)
  replace Ft := Ft.alloc (.cells #[.int .i64 0, .int .i64 0, .int .i64 0, .int .i64 0, .int .i64 0] 25)
  replace BB := ball BB (.cells #[.int .i64 0, .int .i64 0, .int .i64 0, .int .i64 0, .int .i64 0] 25)
  simp only [World.size_alloc, Nat.add_assoc, Nat.reduceAdd] at Tres Fres
  obtain ⟨V1, hV1⟩ : ∃ V1, (w.alloc (.cells #[.int .i64 r.o.s, .int .i64 r.o.r, .int .i64 r.l.s, .int .i64 r.l.r, .int .i64 r.p] 25)).alloc (.cells #[.int .i64 0, .int .i64 0, .int .i64 0, .int .i64 0, .int .i64 0] 25) = V1 := ⟨_, rfl⟩
  rw [hV1] at BB Tt Tres Ft Fres ⊢
  clear hV1
  refine (rvalid_at r _ _ hv.out).mono ?_
  rintro e w2 ⟨rfl, b2⟩
  replace Tt := Tt.keep b2
  replace Tres := Tres.keep b2
  replace Ft := Ft.keep b2
  replace Fres := Fres.keep b2
  replace BB := bstep BB b2
  clear b2
  have t0 := Tt 0 _ rfl
  have ft0 := Ft.1 0
  have t1 := Tt 1 _ rfl
  have ft1 := Ft.1 1
  have t2 := Tt 2 _ rfl
  have ft2 := Ft.1 2
  have t3 := Tt 3 _ rfl
  have ft3 := Ft.1 3
  have t4 := Tt 4 _ rfl
  have ft4 := Ft.1 4
  have res0 := Tres 0 _ rfl
  have fres0 := Fres.1 0
  have res1 := Tres 1 _ rfl
  have fres1 := Fres.1 1
  have res2 := Tres 2 _ rfl
  have fres2 := Fres.1 2
  have res3 := Tres 3 _ rfl
  have fres3 := Fres.1 3
  have res4 := Tres 4 _ rfl
  have fres4 := Fres.1 4
  go_wp2_with fail
  refine (roffers_at n a cap l false _ hn.out (hl.keep BB) hm.out ho.out).mono ?_
  clear t0 ft0 t1 ft1 t2 ft2 t3 ft3 t4 ft4 res0 fres0 res1 fres1 res2 fres2 res3 fres3 res4 fres4
  rintro e w3 ⟨rfl, b3⟩
  replace Tt := Tt.keep b3
  replace Tres := Tres.keep b3
  replace Ft := Ft.keep b3
  replace Fres := Fres.keep b3
  replace BB := bstep BB b3
  clear b3
  have t0 := Tt 0 _ rfl
  have ft0 := Ft.1 0
  have t1 := Tt 1 _ rfl
  have ft1 := Ft.1 1
  have t2 := Tt 2 _ rfl
  have ft2 := Ft.1 2
  have t3 := Tt 3 _ rfl
  have ft3 := Ft.1 3
  have t4 := Tt 4 _ rfl
  have ft4 := Ft.1 4
  have res0 := Tres 0 _ rfl
  have fres0 := Fres.1 0
  have res1 := Tres 1 _ rfl
  have fres1 := Fres.1 1
  have res2 := Tres 2 _ rfl
  have fres2 := Fres.1 2
  have res3 := Tres 3 _ rfl
  have fres3 := Fres.1 3
  have res4 := Tres 4 _ rfl
  have fres4 := Fres.1 4
  go_wp2_with fail
  clear t0 ft0 t1 ft1 t2 ft2 t3 ft3 t4 ft4 res0 fres0 res1 fres1 res2 fres2 res3 fres3 res4 fres4
  replace Tres := Tres.set 0 (.int .i64 r.o.s) (by simp)
  replace Tt := Tt.other (k' := w.heap.size + 1) (by omega) 0 (.int .i64 r.o.s)
  replace Ft := Ft.set ⟨w.heap.size + 1, 0, none⟩ (.int .i64 r.o.s)
  replace Fres := Fres.set ⟨w.heap.size + 1, 0, none⟩ (.int .i64 r.o.s)
  replace BB := BB.setCell (p := ⟨w.heap.size + 1, 0, none⟩) (by first | exact Nat.le_refl _ | (simp only; omega)) (.int .i64 r.o.s)
  replace Tres := Tres.set 1 (.int .i64 r.o.r) (by simp)
  replace Tt := Tt.other (k' := w.heap.size + 1) (by omega) 1 (.int .i64 r.o.r)
  replace Ft := Ft.set ⟨w.heap.size + 1, 1, none⟩ (.int .i64 r.o.r)
  replace Fres := Fres.set ⟨w.heap.size + 1, 1, none⟩ (.int .i64 r.o.r)
  replace BB := BB.setCell (p := ⟨w.heap.size + 1, 1, none⟩) (by first | exact Nat.le_refl _ | (simp only; omega)) (.int .i64 r.o.r)
  replace Tres := Tres.set 2 (.int .i64 r.l.s) (by simp)
  replace Tt := Tt.other (k' := w.heap.size + 1) (by omega) 2 (.int .i64 r.l.s)
  replace Ft := Ft.set ⟨w.heap.size + 1, 2, none⟩ (.int .i64 r.l.s)
  replace Fres := Fres.set ⟨w.heap.size + 1, 2, none⟩ (.int .i64 r.l.s)
  replace BB := BB.setCell (p := ⟨w.heap.size + 1, 2, none⟩) (by first | exact Nat.le_refl _ | (simp only; omega)) (.int .i64 r.l.s)
  replace Tres := Tres.set 3 (.int .i64 r.l.r) (by simp)
  replace Tt := Tt.other (k' := w.heap.size + 1) (by omega) 3 (.int .i64 r.l.r)
  replace Ft := Ft.set ⟨w.heap.size + 1, 3, none⟩ (.int .i64 r.l.r)
  replace Fres := Fres.set ⟨w.heap.size + 1, 3, none⟩ (.int .i64 r.l.r)
  replace BB := BB.setCell (p := ⟨w.heap.size + 1, 3, none⟩) (by first | exact Nat.le_refl _ | (simp only; omega)) (.int .i64 r.l.r)
  replace Tres := Tres.set 4 (.int .i64 r.p) (by simp)
  replace Tt := Tt.other (k' := w.heap.size + 1) (by omega) 4 (.int .i64 r.p)
  replace Ft := Ft.set ⟨w.heap.size + 1, 4, none⟩ (.int .i64 r.p)
  replace Fres := Fres.set ⟨w.heap.size + 1, 4, none⟩ (.int .i64 r.p)
  replace BB := BB.setCell (p := ⟨w.heap.size + 1, 4, none⟩) (by first | exact Nat.le_refl _ | (simp only; omega)) (.int .i64 r.p)
  obtain ⟨V4, hV4⟩ : ∃ V4, ((((w3.setCell ⟨w.heap.size + 1, 0, none⟩ (.int .i64 r.o.s)).setCell ⟨w.heap.size + 1, 1, none⟩ (.int .i64 r.o.r)).setCell ⟨w.heap.size + 1, 2, none⟩ (.int .i64 r.l.s)).setCell ⟨w.heap.size + 1, 3, none⟩ (.int .i64 r.l.r)).setCell ⟨w.heap.size + 1, 4, none⟩ (.int .i64 r.p) = V4 := ⟨_, rfl⟩
  rw [hV4] at BB Tt Tres Ft Fres ⊢
  clear hV4
  have res0 := Tres 0 _ rfl
  have fres0 := Fres.1 0
  have res1 := Tres 1 _ rfl
  have fres1 := Fres.1 1
  have res2 := Tres 2 _ rfl
  have fres2 := Fres.1 2
  have res3 := Tres 3 _ rfl
  have fres3 := Fres.1 3
  have res4 := Tres 4 _ rfl
  have fres4 := Fres.1 4
  refine bodyPost_ret (v := r.v) (by simp [results, Try.results19, go_sem, loseV, res0, res1, res2, res3, res4]) rfl ⟨rfl, BB⟩
set_option maxRecDepth 100000 in
set_option maxHeartbeats 4000000 in
theorem rchoose_2 (r : Rt) (n : Nat) (a : Option Addr) (cap : Nat) (l : List Ofr) (w : World) (hn : Hid (n = l.length)) (hl : OfAt w a l) (hm : Hid (l.length ≤ maxLen)) (hv : Hid (validR r = true)) (ho : Hid (offsB l = true)) : Calls Try.prog 19 #[r.v, .slice a n cap] w (Gives (chooseV r l).v w) := by
  go_enter Try.func19, Try.ntmps19
  go_wp2_with fail
  have Tt := CAt.new (w) [.int .i64 r.o.s, .int .i64 r.o.r, .int .i64 r.l.s, .int .i64 r.l.r, .int .i64 r.p] 25
  have Ft := Fz.new (w) #[.int .i64 r.o.s, .int .i64 r.o.r, .int .i64 r.l.s, .int .i64 r.l.r, .int .i64 r.p] 25
  have BB : Below w.heap.size w ((w).alloc (.cells #[.int .i64 r.o.s, .int .i64 r.o.r, .int .i64 r.l.s, .int .i64 r.l.r, .int .i64 r.p] 25)) := ball (Below.refl _ _) _
  have Tres := CAt.new (w.alloc (.cells #[.int .i64 r.o.s, .int .i64 r.o.r, .int .i64 r.l.s, .int .i64 r.l.r, .int .i64 r.p] 25)) [.int .i64 0, .int .i64 0, .int .i64 0, .int .i64 0, .int .i64 0] 25
  have Fres := Fz.new (w.alloc (.cells #[.int .i64 r.o.s, .int .i64 r.o.r, .int .i64 r.l.s, .int .i64 r.l.r, .int .i64 r.p] 25)) #[.int .i64 0, .int .i64 0, .int .i64 0, .int .i64 0, .int .i64 0] 25
  replace Tt := Tt.alloc (.cells #[.int .i64 0, .int .i64 0, .int .i64 0, .int .i64 0, .int .i64 0] 25)
  replace Ft := Ft.alloc (.cells #[.int .i64 0, .int .i64 0, .int .i64 0, .int .i64 0, .int .i64 0] 25)
  replace BB := ball BB (.cells #[.int .i64 0, .int .i64 0, .int .i64 0, .int .i64 0, .int .i64 0] 25)
  simp only [World.size_alloc, Nat.add_assoc, Nat.reduceAdd] at Tres Fres
  obtain ⟨V1, hV1⟩ : ∃ V1, (w.alloc (.cells #[.int .i64 r.o.s, .int .i64 r.o.r, .int .i64 r.l.s, .int .i64 r.l.r, .int .i64 r.p] 25)).alloc (.cells #[.int .i64 0, .int .i64 0, .int .i64 0, .int .i64 0, .int .i64 0] 25) = V1 := ⟨_, rfl⟩
  rw [hV1] at BB Tt Tres Ft Fres ⊢
  clear hV1
  refine (rvalid_at r _ _ hv.out).mono ?_
  rintro e w2 ⟨rfl, b2⟩
  replace Tt := Tt.keep b2
  replace Tres := Tres.keep b2
  replace Ft := Ft.keep b2
  replace Fres := Fres.keep b2
  replace BB := bstep BB b2
  clear b2
  have t0 := Tt 0 _ rfl
  have ft0 := Ft.1 0
  have t1 := Tt 1 _ rfl
  have ft1 := Ft.1 1
  have t2 := Tt 2 _ rfl
  have ft2 := Ft.1 2
  have t3 := Tt 3 _ rfl
  have ft3 := Ft.1 3
  have t4 := Tt 4 _ rfl
  have ft4 := Ft.1 4
  have res0 := Tres 0 _ rfl
  have fres0 := Fres.1 0
  have res1 := Tres 1 _ rfl
  have fres1 := Fres.1 1
  have res2 := Tres 2 _ rfl
  have fres2 := Fres.1 2
  have res3 := Tres 3 _ rfl
  have fres3 := Fres.1 3
  have res4 := Tres 4 _ rfl
  have fres4 := Fres.1 4
  go_wp2_with fail
  refine (roffers_at n a cap l true _ hn.out (hl.keep BB) hm.out ho.out).mono ?_
  clear t0 ft0 t1 ft1 t2 ft2 t3 ft3 t4 ft4 res0 fres0 res1 fres1 res2 fres2 res3 fres3 res4 fres4
  rintro e w3 ⟨rfl, b3⟩
  replace Tt := Tt.keep b3
  replace Tres := Tres.keep b3
  replace Ft := Ft.keep b3
  replace Fres := Fres.keep b3
  replace BB := bstep BB b3
  clear b3
  have t0 := Tt 0 _ rfl
  have ft0 := Ft.1 0
  have t1 := Tt 1 _ rfl
  have ft1 := Ft.1 1
  have t2 := Tt 2 _ rfl
  have ft2 := Ft.1 2
  have t3 := Tt 3 _ rfl
  have ft3 := Ft.1 3
  have t4 := Tt 4 _ rfl
  have ft4 := Ft.1 4
  have res0 := Tres 0 _ rfl
  have fres0 := Fres.1 0
  have res1 := Tres 1 _ rfl
  have fres1 := Fres.1 1
  have res2 := Tres 2 _ rfl
  have fres2 := Fres.1 2
  have res3 := Tres 3 _ rfl
  have fres3 := Fres.1 3
  have res4 := Tres 4 _ rfl
  have fres4 := Fres.1 4
  clear t0 ft0 t1 ft1 t2 ft2 t3 ft3 t4 ft4 res0 fres0 res1 fres1 res2 fres2 res3 fres3 res4 fres4
  have hm9 : n ≤ 9223372036854775807 := by rw [hn.out]; have := hm.out; unfold maxLen at this; omega
  have hsz : w.heap.size + 2 ≤ w3.heap.size := World.block_lt_of_cell? w3 ⟨w.heap.size + 1, 0, none⟩ (Tres 0 _ rfl)
  go_wp2_with fail
  go_loopw [5, 6] (fun b i wr => ∃ k : Nat, k ≤ n ∧ i = .int .i64 k ∧ b = .int .i64 (bestTo r l k) ∧ Below w.heap.size w wr ∧ CAt wr w.heap.size [.int .i64 r.o.s, .int .i64 r.o.r, .int .i64 r.l.s, .int .i64 r.l.r, .int .i64 r.p] ∧ CAt wr (w.heap.size + 1) [.int .i64 0, .int .i64 0, .int .i64 0, .int .i64 0, .int .i64 0] ∧ Fz wr w.heap.size ∧ Fz wr (w.heap.size + 1)) (fun _ i _ => n - (intOf i).toNat)
  case atStart => exact ⟨0, Nat.zero_le _, rfl, rfl, BB, Tt, Tres, Ft, Fres⟩
  case round =>
    clear BB Tt Tres Ft Fres hsz
    obtain ⟨k, hk, rfl, rfl, BB, Tt, Tres, Ft, Fres⟩ := hrel
    have hbs := best_spec r l k
    have hsz : w.heap.size + 2 ≤ wr.heap.size := World.block_lt_of_cell? wr ⟨w.heap.size + 1, 0, none⟩ (Tres 0 _ rfl)
    by_cases hlt : k < n
    · have hlt' : (k : Int) < (n : Int) := by omega
      have hk0 : (0 : Int) ≤ (k : Int) := by omega
      obtain ⟨b, off, rfl, hc⟩ := hl.at (i := k) (by rw [← hn.out]; exact hlt)
      have HC := Lib.hid hc
      obtain ⟨c0, c1, c2, c3⟩ := hc k (by rw [← hn.out]; exact hlt)
      replace c0 := keep1 BB c0; replace c1 := keep1 BB c1; replace c2 := keep1 BB c2; replace c3 := keep1 BB c3
      have hmem : ∀ j, j < l.length → l.getD j default ∈ l := fun j hj => by
        rw [List.getD_eq_getElem?_getD, List.getElem?_eq_getElem hj]; exact List.getElem_mem _
      have hxo := off_bd (offs_mem ho.out _ (hmem k (by rw [← hn.out]; exact hlt)))
      have hnext : bestTo r l (k + 1) = if possB r (l.getD k default) = true ∧ (bestTo r l k < 0 ∨ beforeB (l.getD k default) (l.getD (bestTo r l k).toNat default) = true) then (k : Int) else bestTo r l k := rfl
      have t0 := Tt 0 _ rfl; have t1 := Tt 1 _ rfl; have t2 := Tt 2 _ rfl; have t3 := Tt 3 _ rfl; have t4 := Tt 4 _ rfl
      have kt0 := cell_regrown t0; have kt1 := cell_regrown t1; have kt2 := cell_regrown t2; have kt3 := cell_regrown t3; have kt4 := cell_regrown t4
      have kc0 := cell_regrown c0; have kc1 := cell_regrown c1; have kc2 := cell_regrown c2; have kc3 := cell_regrown c3
      obtain ⟨y, hy⟩ : ∃ y, possB r (l.getD k default) = y := ⟨_, rfl⟩
      rw [hy] at hnext
      rcases hbs with ⟨hb1, _⟩ | ⟨bi, hb1, hbk, _, _⟩
      · rw [hb1] at hnext ⊢
        obtain ⟨x, hx⟩ : ∃ x, l.getD k default = x := ⟨_, rfl⟩
        rw [hx] at c0 c1 c2 c3 kc0 kc1 kc2 kc3 hxo hy hnext
        obtain ⟨p0, p1, _, _, x0, x1, x2, x3⟩ := hxo
        have HY := Lib.hid hy; have HN := Lib.hid hnext
        clear hc hx hmem hy hnext hb1 hl
        cases y
        · go_wp2_with fail
          refine wp_region_quiet_below (by kernel_rfl) (by kernel_rfl) ?_
          repeat (go_big_quiet_step (first
            | (go_at_call 24; exact rg_of fun w' h => rposs_at r _ _ w' (by assumption) (by assumption) (by assumption) (by assumption) HY.out)))

          refine wpQuiet_nil ?_
          intro _ hw'
          obtain ⟨⟨dq, osq⟩, hw''⟩ := hw'
          subst hw''
          have bb := below_regrown wr dq osq
          replace Tt := Tt.keep bb; replace Tres := Tres.keep bb; replace Ft := Ft.keep bb; replace Fres := Fres.keep bb; replace BB := bstep BB bb
          go_wp2_with fail
          go_roundw
          case rel => exact ⟨k + 1, by omega, by go_num, by rw [HN.out]; rfl, BB, Tt, Tres, Ft, Fres⟩
          case measure => simp [intOf]; omega
        · go_wp2_with fail
          refine wp_region_quiet_below (by kernel_rfl) (by kernel_rfl) ?_
          repeat (go_big_quiet_step (first
            | (go_at_call 24; exact rg_of fun w' h => rposs_at r _ _ w' (by assumption) (by assumption) (by assumption) (by assumption) HY.out)))

          refine wpQuiet_nil ?_
          intro _ hw'
          obtain ⟨⟨dq, osq⟩, hw''⟩ := hw'
          subst hw''
          have bb := below_regrown wr dq osq
          replace Tt := Tt.keep bb; replace Tres := Tres.keep bb; replace Ft := Ft.keep bb; replace Fres := Fres.keep bb; replace BB := bstep BB bb
          go_wp2_with fail
          go_roundw
          case rel => exact ⟨k + 1, by omega, by go_num, by rw [HN.out]; rfl, BB, Tt, Tres, Ft, Fres⟩
          case measure => simp [intOf]; omega
      · rw [hb1] at hnext ⊢
        simp only [Int.toNat_natCast] at hnext
        obtain ⟨e0, e1, e2, e3⟩ := hc bi (by rw [← hn.out]; omega)
        replace e0 := keep1 BB e0; replace e1 := keep1 BB e1; replace e2 := keep1 BB e2; replace e3 := keep1 BB e3
        have hzo := off_bd (offs_mem ho.out _ (hmem bi (by rw [← hn.out]; omega)))
        have ke0 := cell_regrown e0; have ke1 := cell_regrown e1; have ke2 := cell_regrown e2; have ke3 := cell_regrown e3
        obtain ⟨z, hz⟩ : ∃ z, beforeB (l.getD k default) (l.getD bi default) = z := ⟨_, rfl⟩
        rw [show (if y = true ∧ ((bi : Int) < 0 ∨ beforeB (l.getD k default) (l.getD bi default) = true) then (k : Int) else (bi : Int)) = if y = true ∧ z = true then (k : Int) else bi by
          have e : ((bi : Int) < 0 ∨ beforeB (l.getD k default) (l.getD bi default) = true) ↔ z = true := by
            rw [hz]
            exact ⟨fun h => h.resolve_left (by omega), .inr⟩
          simp only [e]] at hnext
        obtain ⟨x, hx⟩ : ∃ x, l.getD k default = x := ⟨_, rfl⟩
        obtain ⟨o, ho2⟩ : ∃ o, l.getD bi default = o := ⟨_, rfl⟩
        rw [hx] at c0 c1 c2 c3 kc0 kc1 kc2 kc3 hxo hy hz
        rw [ho2] at e0 e1 e2 e3 ke0 ke1 ke2 ke3 hzo hz
        obtain ⟨p0, p1, _, _, x0, x1, x2, x3⟩ := hxo
        obtain ⟨_, _, _, _, z0, z1, z2, z3⟩ := hzo
        have HY := Lib.hid hy; have HN := Lib.hid hnext; have HZ := Lib.hid hz
        have hbi0 : (0 : Int) ≤ (bi : Int) := by omega
        have hbin : (bi : Int) < (n : Int) := by omega
        have hbneg : ¬ (bi : Int) < 0 := by omega
        have hbneg2 : decide ((bi : Int) < 0) = false := decide_eq_false hbneg
        clear hc hx ho2 hmem hy hnext hz hb1 hl
        cases y
        · go_wp2_with fail
          refine wp_region_quiet_below (by kernel_rfl) (by kernel_rfl) ?_
          repeat (go_big_quiet_step (first
            | (go_at_call 24; exact rg_of fun w' h => rposs_at r _ _ w' (by assumption) (by assumption) (by assumption) (by assumption) HY.out)))

          refine wpQuiet_nil ?_
          intro _ hw'
          obtain ⟨⟨dq, osq⟩, hw''⟩ := hw'
          subst hw''
          have bb := below_regrown wr dq osq
          replace Tt := Tt.keep bb; replace Tres := Tres.keep bb; replace Ft := Ft.keep bb; replace Fres := Fres.keep bb; replace BB := bstep BB bb
          go_wp2_with fail
          go_roundw
          case rel => exact ⟨k + 1, by omega, by go_num, by rw [HN.out]; rfl, BB, Tt, Tres, Ft, Fres⟩
          case measure => simp [intOf]; omega
        · cases z
          · go_wp2_with fail
            refine wp_region_quiet_below (by kernel_rfl) (by kernel_rfl) ?_
            repeat (go_big_quiet_step (first
              | (go_at_call 24; exact rg_of fun w' h => rposs_at r _ _ w' (by assumption) (by assumption) (by assumption) (by assumption) HY.out)
              | (go_at_call 25; exact rg_of fun w' h => rbefore_at _ _ _ w' (by assumption) (by assumption) (by assumption) (by assumption) (by assumption) (by assumption) (by assumption) (by assumption) HZ.out)))
            refine wpQuiet_nil ?_
            intro _ hw'
            obtain ⟨⟨dq, osq⟩, hw''⟩ := hw'
            subst hw''
            have bb := below_regrown wr dq osq
            replace Tt := Tt.keep bb; replace Tres := Tres.keep bb; replace Ft := Ft.keep bb; replace Fres := Fres.keep bb; replace BB := bstep BB bb
            go_wp2_with fail
            go_roundw
            case rel => exact ⟨k + 1, by omega, by go_num, by rw [HN.out]; rfl, BB, Tt, Tres, Ft, Fres⟩
            case measure => simp [intOf]; omega
          · go_wp2_with fail
            refine wp_region_quiet_below (by kernel_rfl) (by kernel_rfl) ?_
            repeat (go_big_quiet_step (first
              | (go_at_call 24; exact rg_of fun w' h => rposs_at r _ _ w' (by assumption) (by assumption) (by assumption) (by assumption) HY.out)
              | (go_at_call 25; exact rg_of fun w' h => rbefore_at _ _ _ w' (by assumption) (by assumption) (by assumption) (by assumption) (by assumption) (by assumption) (by assumption) (by assumption) HZ.out)))
            refine wpQuiet_nil ?_
            intro _ hw'
            obtain ⟨⟨dq, osq⟩, hw''⟩ := hw'
            subst hw''
            have bb := below_regrown wr dq osq
            replace Tt := Tt.keep bb; replace Tres := Tres.keep bb; replace Ft := Ft.keep bb; replace Fres := Fres.keep bb; replace BB := bstep BB bb
            go_wp2_with fail
            go_roundw
            case rel => exact ⟨k + 1, by omega, by go_num, by rw [HN.out]; rfl, BB, Tt, Tres, Ft, Fres⟩
            case measure => simp [intOf]; omega
    · have hkn : n = k := by omega
      subst hkn
      have e : chooseV r l = if bestTo r l n < 0 then loseV r else takeV r (l.getD (bestTo r l n).toNat default) := by unfold chooseV; rw [if_pos ⟨hv.out, ho.out⟩, ← hn.out]
      have HE := Lib.hid e; clear e
      rcases hbs with ⟨hb1, _⟩ | ⟨bi, hb1, hbk, _, _⟩
      · rw [hb1]
        have hch : chooseV r l = loseV r := by rw [HE.out, hb1]; rfl
        have HCH := Lib.hid hch; clear hch hb1
        have t0 := Tt 0 _ rfl
        have ft0 := Ft.1 0
        have t1 := Tt 1 _ rfl
        have ft1 := Ft.1 1
        have t2 := Tt 2 _ rfl
        have ft2 := Ft.1 2
        have t3 := Tt 3 _ rfl
        have ft3 := Ft.1 3
        have t4 := Tt 4 _ rfl
        have ft4 := Ft.1 4
        have res0 := Tres 0 _ rfl
        have fres0 := Fres.1 0
        have res1 := Tres 1 _ rfl
        have fres1 := Fres.1 1
        have res2 := Tres 2 _ rfl
        have fres2 := Fres.1 2
        have res3 := Tres 3 _ rfl
        have fres3 := Fres.1 3
        have res4 := Tres 4 _ rfl
        have fres4 := Fres.1 4
        go_wp2_with fail
        clear t0 ft0 t1 ft1 t2 ft2 t3 ft3 t4 ft4 res0 fres0 res1 fres1 res2 fres2 res3 fres3 res4 fres4
        replace Tres := Tres.set 0 (.int .i64 r.o.s) (by simp)
        replace Tt := Tt.other (k' := w.heap.size + 1) (by omega) 0 (.int .i64 r.o.s)
        replace Ft := Ft.set ⟨w.heap.size + 1, 0, none⟩ (.int .i64 r.o.s)
        replace Fres := Fres.set ⟨w.heap.size + 1, 0, none⟩ (.int .i64 r.o.s)
        replace BB := BB.setCell (p := ⟨w.heap.size + 1, 0, none⟩) (by first | exact Nat.le_refl _ | (simp only; omega)) (.int .i64 r.o.s)
        replace Tres := Tres.set 1 (.int .i64 1000000) (by simp)
        replace Tt := Tt.other (k' := w.heap.size + 1) (by omega) 1 (.int .i64 1000000)
        replace Ft := Ft.set ⟨w.heap.size + 1, 1, none⟩ (.int .i64 1000000)
        replace Fres := Fres.set ⟨w.heap.size + 1, 1, none⟩ (.int .i64 1000000)
        replace BB := BB.setCell (p := ⟨w.heap.size + 1, 1, none⟩) (by first | exact Nat.le_refl _ | (simp only; omega)) (.int .i64 1000000)
        replace Tres := Tres.set 2 (.int .i64 r.l.s) (by simp)
        replace Tt := Tt.other (k' := w.heap.size + 1) (by omega) 2 (.int .i64 r.l.s)
        replace Ft := Ft.set ⟨w.heap.size + 1, 2, none⟩ (.int .i64 r.l.s)
        replace Fres := Fres.set ⟨w.heap.size + 1, 2, none⟩ (.int .i64 r.l.s)
        replace BB := BB.setCell (p := ⟨w.heap.size + 1, 2, none⟩) (by first | exact Nat.le_refl _ | (simp only; omega)) (.int .i64 r.l.s)
        replace Tres := Tres.set 3 (.int .i64 r.l.r) (by simp)
        replace Tt := Tt.other (k' := w.heap.size + 1) (by omega) 3 (.int .i64 r.l.r)
        replace Ft := Ft.set ⟨w.heap.size + 1, 3, none⟩ (.int .i64 r.l.r)
        replace Fres := Fres.set ⟨w.heap.size + 1, 3, none⟩ (.int .i64 r.l.r)
        replace BB := BB.setCell (p := ⟨w.heap.size + 1, 3, none⟩) (by first | exact Nat.le_refl _ | (simp only; omega)) (.int .i64 r.l.r)
        replace Tres := Tres.set 4 (.int .i64 (-1)) (by simp)
        replace Tt := Tt.other (k' := w.heap.size + 1) (by omega) 4 (.int .i64 (-1))
        replace Ft := Ft.set ⟨w.heap.size + 1, 4, none⟩ (.int .i64 (-1))
        replace Fres := Fres.set ⟨w.heap.size + 1, 4, none⟩ (.int .i64 (-1))
        replace BB := BB.setCell (p := ⟨w.heap.size + 1, 4, none⟩) (by first | exact Nat.le_refl _ | (simp only; omega)) (.int .i64 (-1))
        obtain ⟨V21, hV21⟩ : ∃ V21, ((((wr.setCell ⟨w.heap.size + 1, 0, none⟩ (.int .i64 r.o.s)).setCell ⟨w.heap.size + 1, 1, none⟩ (.int .i64 1000000)).setCell ⟨w.heap.size + 1, 2, none⟩ (.int .i64 r.l.s)).setCell ⟨w.heap.size + 1, 3, none⟩ (.int .i64 r.l.r)).setCell ⟨w.heap.size + 1, 4, none⟩ (.int .i64 (-1)) = V21 := ⟨_, rfl⟩
        rw [hV21] at BB Tt Tres Ft Fres ⊢
        clear hV21
        have res0 := Tres 0 _ rfl
        have fres0 := Fres.1 0
        have res1 := Tres 1 _ rfl
        have fres1 := Fres.1 1
        have res2 := Tres 2 _ rfl
        have fres2 := Fres.1 2
        have res3 := Tres 3 _ rfl
        have fres3 := Fres.1 3
        have res4 := Tres 4 _ rfl
        have fres4 := Fres.1 4
        refine bodyPost_ret (v := (loseV r).v) (by simp [results, Try.results19, go_sem, loseV, res0, res1, res2, res3, res4]) rfl ?_
        rw [HCH.out]
        exact ⟨rfl, BB⟩
      · rw [hb1]
        obtain ⟨b, off, rfl, hc⟩ := hl.at (i := bi) (by rw [← hn.out]; exact hbk)
        obtain ⟨c0, c1, c2, c3⟩ := hc bi (by rw [← hn.out]; exact hbk)
        replace c0 := keep1 BB c0; replace c1 := keep1 BB c1; replace c2 := keep1 BB c2; replace c3 := keep1 BB c3
        have hxo := off_bd (offs_mem ho.out (l.getD bi default) (by rw [List.getD_eq_getElem?_getD, List.getElem?_eq_getElem (by rw [← hn.out]; exact hbk)]; exact List.getElem_mem _))
        have hch : chooseV r l = takeV r (l.getD bi default) := by rw [HE.out, hb1, if_neg (by omega)]; rfl
        obtain ⟨o, ho2⟩ : ∃ o, l.getD bi default = o := ⟨_, rfl⟩
        rw [ho2] at c0 c1 c2 c3 hxo hch
        obtain ⟨p0, p1, _, _, x0, x1, x2, x3⟩ := hxo
        have hbi0 : (0 : Int) ≤ (bi : Int) := by omega
        have hbin : (bi : Int) < (n : Int) := by omega
        have hbneg : ¬ (bi : Int) < 0 := by omega
        have HCH := Lib.hid hch
        clear hch hb1 ho2 hc hl
        obtain ⟨y, hy⟩ : ∃ y, betterB (thr o) r.l = y := ⟨_, rfl⟩
        have HY := Lib.hid hy; clear hy
        have t0 := Tt 0 _ rfl
        have ft0 := Ft.1 0
        have t1 := Tt 1 _ rfl
        have ft1 := Ft.1 1
        have t2 := Tt 2 _ rfl
        have ft2 := Ft.1 2
        have t3 := Tt 3 _ rfl
        have ft3 := Ft.1 3
        have t4 := Tt 4 _ rfl
        have ft4 := Ft.1 4
        have res0 := Tres 0 _ rfl
        have fres0 := Fres.1 0
        have res1 := Tres 1 _ rfl
        have fres1 := Fres.1 1
        have res2 := Tres 2 _ rfl
        have fres2 := Fres.1 2
        have res3 := Tres 3 _ rfl
        have fres3 := Fres.1 3
        have res4 := Tres 4 _ rfl
        have fres4 := Fres.1 4
        go_upto_region 12 with (fail)
        clear t0 ft0 t1 ft1 t2 ft2 t3 ft3 t4 ft4 res0 fres0 res1 fres1 res2 fres2 res3 fres3 res4 fres4
        have bs41 : w.heap.size ≤ wr.heap.size := BB.size
        have lt41t : w.heap.size < wr.heap.size := World.block_lt_of_cell? wr ⟨w.heap.size, 0, none⟩ (Tt 0 _ rfl)
        have lt41res : w.heap.size + 1 < wr.heap.size := World.block_lt_of_cell? wr ⟨w.heap.size + 1, 0, none⟩ (Tres 0 _ rfl)
        have To := CAt.new (wr) [.int .i64 o.p, .int .i64 o.t.s, .int .i64 o.t.r, .int .i64 o.c] 40
        replace Tt := Tt.alloc (.cells #[.int .i64 o.p, .int .i64 o.t.s, .int .i64 o.t.r, .int .i64 o.c] 40)
        replace Tres := Tres.alloc (.cells #[.int .i64 o.p, .int .i64 o.t.s, .int .i64 o.t.r, .int .i64 o.c] 40)
        replace Ft := Ft.alloc (.cells #[.int .i64 o.p, .int .i64 o.t.s, .int .i64 o.t.r, .int .i64 o.c] 40)
        replace Fres := Fres.alloc (.cells #[.int .i64 o.p, .int .i64 o.t.s, .int .i64 o.t.r, .int .i64 o.c] 40)
        replace BB := ball BB (.cells #[.int .i64 o.p, .int .i64 o.t.s, .int .i64 o.t.r, .int .i64 o.c] 40)
        obtain ⟨V41, hV41⟩ : ∃ V41, wr.alloc (.cells #[.int .i64 o.p, .int .i64 o.t.s, .int .i64 o.t.r, .int .i64 o.c] 40) = V41 := ⟨_, rfl⟩
        rw [hV41] at BB Tt Tres To Ft Fres ⊢
        clear hV41
        obtain ⟨k41, hk41⟩ : ∃ k41, wr.heap.size = k41 := ⟨_, rfl⟩
        rw [hk41] at To bs41 lt41t lt41res ⊢
        clear hk41
        clear c0 c1 c2 c3
        have t0 := Tt 0 _ rfl
        have ft0 := Ft.1 0
        have t1 := Tt 1 _ rfl
        have ft1 := Ft.1 1
        have t2 := Tt 2 _ rfl
        have ft2 := Ft.1 2
        have t3 := Tt 3 _ rfl
        have ft3 := Ft.1 3
        have t4 := Tt 4 _ rfl
        have ft4 := Ft.1 4
        have res0 := Tres 0 _ rfl
        have fres0 := Fres.1 0
        have res1 := Tres 1 _ rfl
        have fres1 := Fres.1 1
        have res2 := Tres 2 _ rfl
        have fres2 := Fres.1 2
        have res3 := Tres 3 _ rfl
        have fres3 := Fres.1 3
        have res4 := Tres 4 _ rfl
        have fres4 := Fres.1 4
        have o0 := To 0 _ rfl
        have o1 := To 1 _ rfl
        have o2 := To 2 _ rfl
        have o3 := To 3 _ rfl
        go_upto_region 13 with (fail)
        clear t0 ft0 t1 ft1 t2 ft2 t3 ft3 t4 ft4 res0 fres0 res1 fres1 res2 fres2 res3 fres3 res4 fres4 o0 o1 o2 o3
        have bs42 : w.heap.size ≤ V41.heap.size := BB.size
        have lt42t : w.heap.size < V41.heap.size := World.block_lt_of_cell? V41 ⟨w.heap.size, 0, none⟩ (Tt 0 _ rfl)
        have lt42res : w.heap.size + 1 < V41.heap.size := World.block_lt_of_cell? V41 ⟨w.heap.size + 1, 0, none⟩ (Tres 0 _ rfl)
        have lt42o : k41 < V41.heap.size := World.block_lt_of_cell? V41 ⟨k41, 0, none⟩ (To 0 _ rfl)
        have Tv := CAt.new (V41) [.int .i64 o.t.s, .int .i64 (o.t.r + o.c), .int .i64 r.l.s, .int .i64 r.l.r, .int .i64 o.p] 25
        have Fv := Fz.new (V41) #[.int .i64 o.t.s, .int .i64 (o.t.r + o.c), .int .i64 r.l.s, .int .i64 r.l.r, .int .i64 o.p] 25
        replace Tt := Tt.alloc (.cells #[.int .i64 o.t.s, .int .i64 (o.t.r + o.c), .int .i64 r.l.s, .int .i64 r.l.r, .int .i64 o.p] 25)
        replace Tres := Tres.alloc (.cells #[.int .i64 o.t.s, .int .i64 (o.t.r + o.c), .int .i64 r.l.s, .int .i64 r.l.r, .int .i64 o.p] 25)
        replace To := To.alloc (.cells #[.int .i64 o.t.s, .int .i64 (o.t.r + o.c), .int .i64 r.l.s, .int .i64 r.l.r, .int .i64 o.p] 25)
        replace Ft := Ft.alloc (.cells #[.int .i64 o.t.s, .int .i64 (o.t.r + o.c), .int .i64 r.l.s, .int .i64 r.l.r, .int .i64 o.p] 25)
        replace Fres := Fres.alloc (.cells #[.int .i64 o.t.s, .int .i64 (o.t.r + o.c), .int .i64 r.l.s, .int .i64 r.l.r, .int .i64 o.p] 25)
        replace BB := ball BB (.cells #[.int .i64 o.t.s, .int .i64 (o.t.r + o.c), .int .i64 r.l.s, .int .i64 r.l.r, .int .i64 o.p] 25)
        obtain ⟨V42, hV42⟩ : ∃ V42, V41.alloc (.cells #[.int .i64 o.t.s, .int .i64 (o.t.r + o.c), .int .i64 r.l.s, .int .i64 r.l.r, .int .i64 o.p] 25) = V42 := ⟨_, rfl⟩
        rw [hV42] at BB Tt Tres To Tv Ft Fres Fv ⊢
        clear hV42
        obtain ⟨k42, hk42⟩ : ∃ k42, V41.heap.size = k42 := ⟨_, rfl⟩
        rw [hk42] at Tv Fv bs42 lt42t lt42res lt42o ⊢
        clear hk42
        have t0 := Tt 0 _ rfl
        have ft0 := Ft.1 0
        have t1 := Tt 1 _ rfl
        have ft1 := Ft.1 1
        have t2 := Tt 2 _ rfl
        have ft2 := Ft.1 2
        have t3 := Tt 3 _ rfl
        have ft3 := Ft.1 3
        have t4 := Tt 4 _ rfl
        have ft4 := Ft.1 4
        have res0 := Tres 0 _ rfl
        have fres0 := Fres.1 0
        have res1 := Tres 1 _ rfl
        have fres1 := Fres.1 1
        have res2 := Tres 2 _ rfl
        have fres2 := Fres.1 2
        have res3 := Tres 3 _ rfl
        have fres3 := Fres.1 3
        have res4 := Tres 4 _ rfl
        have fres4 := Fres.1 4
        have o0 := To 0 _ rfl
        have o1 := To 1 _ rfl
        have o2 := To 2 _ rfl
        have o3 := To 3 _ rfl
        have v0 := Tv 0 _ rfl
        have fv0 := Fv.1 0
        have v1 := Tv 1 _ rfl
        have fv1 := Fv.1 1
        have v2 := Tv 2 _ rfl
        have fv2 := Fv.1 2
        have v3 := Tv 3 _ rfl
        have fv3 := Fv.1 3
        have v4 := Tv 4 _ rfl
        have fv4 := Fv.1 4
        go_wp2_with fail
        refine (rbetter_at ⟨o.t.s, o.t.r + o.c⟩ r.l y _ HY.out).mono ?_
        clear t0 ft0 t1 ft1 t2 ft2 t3 ft3 t4 ft4 res0 fres0 res1 fres1 res2 fres2 res3 fres3 res4 fres4 o0 o1 o2 o3 v0 fv0 v1 fv1 v2 fv2 v3 fv3 v4 fv4
        rintro e w43 ⟨rfl, b43⟩
        replace Tt := Tt.keep b43
        replace Tres := Tres.keep b43
        replace To := To.keep b43
        replace Tv := Tv.keep b43
        replace Ft := Ft.keep b43
        replace Fres := Fres.keep b43
        replace Fv := Fv.keep b43
        replace BB := bstep BB b43
        clear b43
        have v0 := Tv 0 _ rfl
        have fv0 := Fv.1 0
        have v1 := Tv 1 _ rfl
        have fv1 := Fv.1 1
        have v2 := Tv 2 _ rfl
        have fv2 := Fv.1 2
        have v3 := Tv 3 _ rfl
        have fv3 := Fv.1 3
        have v4 := Tv 4 _ rfl
        have fv4 := Fv.1 4
        have res0 := Tres 0 _ rfl
        have fres0 := Fres.1 0
        have res1 := Tres 1 _ rfl
        have fres1 := Fres.1 1
        have res2 := Tres 2 _ rfl
        have fres2 := Fres.1 2
        have res3 := Tres 3 _ rfl
        have fres3 := Fres.1 3
        have res4 := Tres 4 _ rfl
        have fres4 := Fres.1 4
        cases y
        · have htk : takeV r o = ⟨thr o, r.l, o.p⟩ := by unfold takeV; rw [HY.out]; rfl
          have HTK := Lib.hid htk; clear htk
          go_wp2_with fail
          clear v0 fv0 v1 fv1 v2 fv2 v3 fv3 v4 fv4 res0 fres0 res1 fres1 res2 fres2 res3 fres3 res4 fres4
          replace Tres := Tres.set 0 (.int .i64 o.t.s) (by simp)
          replace Tt := Tt.other (k' := w.heap.size + 1) (by omega) 0 (.int .i64 o.t.s)
          replace To := To.other (k' := w.heap.size + 1) (by omega) 0 (.int .i64 o.t.s)
          replace Tv := Tv.other (k' := w.heap.size + 1) (by omega) 0 (.int .i64 o.t.s)
          replace Ft := Ft.set ⟨w.heap.size + 1, 0, none⟩ (.int .i64 o.t.s)
          replace Fres := Fres.set ⟨w.heap.size + 1, 0, none⟩ (.int .i64 o.t.s)
          replace Fv := Fv.set ⟨w.heap.size + 1, 0, none⟩ (.int .i64 o.t.s)
          replace BB := BB.setCell (p := ⟨w.heap.size + 1, 0, none⟩) (by first | exact Nat.le_refl _ | (simp only; omega)) (.int .i64 o.t.s)
          replace Tres := Tres.set 1 (.int .i64 (o.t.r + o.c)) (by simp)
          replace Tt := Tt.other (k' := w.heap.size + 1) (by omega) 1 (.int .i64 (o.t.r + o.c))
          replace To := To.other (k' := w.heap.size + 1) (by omega) 1 (.int .i64 (o.t.r + o.c))
          replace Tv := Tv.other (k' := w.heap.size + 1) (by omega) 1 (.int .i64 (o.t.r + o.c))
          replace Ft := Ft.set ⟨w.heap.size + 1, 1, none⟩ (.int .i64 (o.t.r + o.c))
          replace Fres := Fres.set ⟨w.heap.size + 1, 1, none⟩ (.int .i64 (o.t.r + o.c))
          replace Fv := Fv.set ⟨w.heap.size + 1, 1, none⟩ (.int .i64 (o.t.r + o.c))
          replace BB := BB.setCell (p := ⟨w.heap.size + 1, 1, none⟩) (by first | exact Nat.le_refl _ | (simp only; omega)) (.int .i64 (o.t.r + o.c))
          replace Tres := Tres.set 2 (.int .i64 r.l.s) (by simp)
          replace Tt := Tt.other (k' := w.heap.size + 1) (by omega) 2 (.int .i64 r.l.s)
          replace To := To.other (k' := w.heap.size + 1) (by omega) 2 (.int .i64 r.l.s)
          replace Tv := Tv.other (k' := w.heap.size + 1) (by omega) 2 (.int .i64 r.l.s)
          replace Ft := Ft.set ⟨w.heap.size + 1, 2, none⟩ (.int .i64 r.l.s)
          replace Fres := Fres.set ⟨w.heap.size + 1, 2, none⟩ (.int .i64 r.l.s)
          replace Fv := Fv.set ⟨w.heap.size + 1, 2, none⟩ (.int .i64 r.l.s)
          replace BB := BB.setCell (p := ⟨w.heap.size + 1, 2, none⟩) (by first | exact Nat.le_refl _ | (simp only; omega)) (.int .i64 r.l.s)
          replace Tres := Tres.set 3 (.int .i64 r.l.r) (by simp)
          replace Tt := Tt.other (k' := w.heap.size + 1) (by omega) 3 (.int .i64 r.l.r)
          replace To := To.other (k' := w.heap.size + 1) (by omega) 3 (.int .i64 r.l.r)
          replace Tv := Tv.other (k' := w.heap.size + 1) (by omega) 3 (.int .i64 r.l.r)
          replace Ft := Ft.set ⟨w.heap.size + 1, 3, none⟩ (.int .i64 r.l.r)
          replace Fres := Fres.set ⟨w.heap.size + 1, 3, none⟩ (.int .i64 r.l.r)
          replace Fv := Fv.set ⟨w.heap.size + 1, 3, none⟩ (.int .i64 r.l.r)
          replace BB := BB.setCell (p := ⟨w.heap.size + 1, 3, none⟩) (by first | exact Nat.le_refl _ | (simp only; omega)) (.int .i64 r.l.r)
          replace Tres := Tres.set 4 (.int .i64 o.p) (by simp)
          replace Tt := Tt.other (k' := w.heap.size + 1) (by omega) 4 (.int .i64 o.p)
          replace To := To.other (k' := w.heap.size + 1) (by omega) 4 (.int .i64 o.p)
          replace Tv := Tv.other (k' := w.heap.size + 1) (by omega) 4 (.int .i64 o.p)
          replace Ft := Ft.set ⟨w.heap.size + 1, 4, none⟩ (.int .i64 o.p)
          replace Fres := Fres.set ⟨w.heap.size + 1, 4, none⟩ (.int .i64 o.p)
          replace Fv := Fv.set ⟨w.heap.size + 1, 4, none⟩ (.int .i64 o.p)
          replace BB := BB.setCell (p := ⟨w.heap.size + 1, 4, none⟩) (by first | exact Nat.le_refl _ | (simp only; omega)) (.int .i64 o.p)
          obtain ⟨V44, hV44⟩ : ∃ V44, ((((w43.setCell ⟨w.heap.size + 1, 0, none⟩ (.int .i64 o.t.s)).setCell ⟨w.heap.size + 1, 1, none⟩ (.int .i64 (o.t.r + o.c))).setCell ⟨w.heap.size + 1, 2, none⟩ (.int .i64 r.l.s)).setCell ⟨w.heap.size + 1, 3, none⟩ (.int .i64 r.l.r)).setCell ⟨w.heap.size + 1, 4, none⟩ (.int .i64 o.p) = V44 := ⟨_, rfl⟩
          rw [hV44] at BB Tt Tres To Tv Ft Fres Fv ⊢
          clear hV44
          have res0 := Tres 0 _ rfl
          have fres0 := Fres.1 0
          have res1 := Tres 1 _ rfl
          have fres1 := Fres.1 1
          have res2 := Tres 2 _ rfl
          have fres2 := Fres.1 2
          have res3 := Tres 3 _ rfl
          have fres3 := Fres.1 3
          have res4 := Tres 4 _ rfl
          have fres4 := Fres.1 4
          refine bodyPost_ret (v := (⟨thr o, r.l, o.p⟩ : Rt).v) (by simp [results, Try.results19, go_sem, thr, res0, res1, res2, res3, res4]) rfl ?_
          rw [HCH.out, HTK.out]
          exact ⟨rfl, BB⟩
        · have htk : takeV r o = ⟨thr o, thr o, o.p⟩ := by unfold takeV; rw [HY.out]; rfl
          have HTK := Lib.hid htk; clear htk
          go_upto_region 15 with (fail)
          clear v0 fv0 v1 fv1 v2 fv2 v3 fv3 v4 fv4 res0 fres0 res1 fres1 res2 fres2 res3 fres3 res4 fres4
          replace Tv := Tv.set 2 (.int .i64 o.t.s) (by simp)
          replace Tt := Tt.other (k' := k42) (by omega) 2 (.int .i64 o.t.s)
          replace Tres := Tres.other (k' := k42) (by omega) 2 (.int .i64 o.t.s)
          replace To := To.other (k' := k42) (by omega) 2 (.int .i64 o.t.s)
          replace Ft := Ft.set ⟨k42, 2, none⟩ (.int .i64 o.t.s)
          replace Fres := Fres.set ⟨k42, 2, none⟩ (.int .i64 o.t.s)
          replace Fv := Fv.set ⟨k42, 2, none⟩ (.int .i64 o.t.s)
          replace BB := BB.setCell (p := ⟨k42, 2, none⟩) (by first | exact Nat.le_refl _ | (simp only; omega)) (.int .i64 o.t.s)
          replace Tv := Tv.set 3 (.int .i64 (o.t.r + o.c)) (by simp)
          replace Tt := Tt.other (k' := k42) (by omega) 3 (.int .i64 (o.t.r + o.c))
          replace Tres := Tres.other (k' := k42) (by omega) 3 (.int .i64 (o.t.r + o.c))
          replace To := To.other (k' := k42) (by omega) 3 (.int .i64 (o.t.r + o.c))
          replace Ft := Ft.set ⟨k42, 3, none⟩ (.int .i64 (o.t.r + o.c))
          replace Fres := Fres.set ⟨k42, 3, none⟩ (.int .i64 (o.t.r + o.c))
          replace Fv := Fv.set ⟨k42, 3, none⟩ (.int .i64 (o.t.r + o.c))
          replace BB := BB.setCell (p := ⟨k42, 3, none⟩) (by first | exact Nat.le_refl _ | (simp only; omega)) (.int .i64 (o.t.r + o.c))
          obtain ⟨V44, hV44⟩ : ∃ V44, (w43.setCell ⟨k42, 2, none⟩ (.int .i64 o.t.s)).setCell ⟨k42, 3, none⟩ (.int .i64 (o.t.r + o.c)) = V44 := ⟨_, rfl⟩
          rw [hV44] at BB Tt Tres To Tv Ft Fres Fv ⊢
          clear hV44
          have v0 := Tv 0 _ rfl
          have fv0 := Fv.1 0
          have v1 := Tv 1 _ rfl
          have fv1 := Fv.1 1
          have v2 := Tv 2 _ rfl
          have fv2 := Fv.1 2
          have v3 := Tv 3 _ rfl
          have fv3 := Fv.1 3
          have v4 := Tv 4 _ rfl
          have fv4 := Fv.1 4
          have res0 := Tres 0 _ rfl
          have fres0 := Fres.1 0
          have res1 := Tres 1 _ rfl
          have fres1 := Fres.1 1
          have res2 := Tres 2 _ rfl
          have fres2 := Fres.1 2
          have res3 := Tres 3 _ rfl
          have fres3 := Fres.1 3
          have res4 := Tres 4 _ rfl
          have fres4 := Fres.1 4
          go_wp2_with fail
          clear v0 fv0 v1 fv1 v2 fv2 v3 fv3 v4 fv4 res0 fres0 res1 fres1 res2 fres2 res3 fres3 res4 fres4
          replace Tres := Tres.set 0 (.int .i64 o.t.s) (by simp)
          replace Tt := Tt.other (k' := w.heap.size + 1) (by omega) 0 (.int .i64 o.t.s)
          replace To := To.other (k' := w.heap.size + 1) (by omega) 0 (.int .i64 o.t.s)
          replace Tv := Tv.other (k' := w.heap.size + 1) (by omega) 0 (.int .i64 o.t.s)
          replace Ft := Ft.set ⟨w.heap.size + 1, 0, none⟩ (.int .i64 o.t.s)
          replace Fres := Fres.set ⟨w.heap.size + 1, 0, none⟩ (.int .i64 o.t.s)
          replace Fv := Fv.set ⟨w.heap.size + 1, 0, none⟩ (.int .i64 o.t.s)
          replace BB := BB.setCell (p := ⟨w.heap.size + 1, 0, none⟩) (by first | exact Nat.le_refl _ | (simp only; omega)) (.int .i64 o.t.s)
          replace Tres := Tres.set 1 (.int .i64 (o.t.r + o.c)) (by simp)
          replace Tt := Tt.other (k' := w.heap.size + 1) (by omega) 1 (.int .i64 (o.t.r + o.c))
          replace To := To.other (k' := w.heap.size + 1) (by omega) 1 (.int .i64 (o.t.r + o.c))
          replace Tv := Tv.other (k' := w.heap.size + 1) (by omega) 1 (.int .i64 (o.t.r + o.c))
          replace Ft := Ft.set ⟨w.heap.size + 1, 1, none⟩ (.int .i64 (o.t.r + o.c))
          replace Fres := Fres.set ⟨w.heap.size + 1, 1, none⟩ (.int .i64 (o.t.r + o.c))
          replace Fv := Fv.set ⟨w.heap.size + 1, 1, none⟩ (.int .i64 (o.t.r + o.c))
          replace BB := BB.setCell (p := ⟨w.heap.size + 1, 1, none⟩) (by first | exact Nat.le_refl _ | (simp only; omega)) (.int .i64 (o.t.r + o.c))
          replace Tres := Tres.set 2 (.int .i64 o.t.s) (by simp)
          replace Tt := Tt.other (k' := w.heap.size + 1) (by omega) 2 (.int .i64 o.t.s)
          replace To := To.other (k' := w.heap.size + 1) (by omega) 2 (.int .i64 o.t.s)
          replace Tv := Tv.other (k' := w.heap.size + 1) (by omega) 2 (.int .i64 o.t.s)
          replace Ft := Ft.set ⟨w.heap.size + 1, 2, none⟩ (.int .i64 o.t.s)
          replace Fres := Fres.set ⟨w.heap.size + 1, 2, none⟩ (.int .i64 o.t.s)
          replace Fv := Fv.set ⟨w.heap.size + 1, 2, none⟩ (.int .i64 o.t.s)
          replace BB := BB.setCell (p := ⟨w.heap.size + 1, 2, none⟩) (by first | exact Nat.le_refl _ | (simp only; omega)) (.int .i64 o.t.s)
          replace Tres := Tres.set 3 (.int .i64 (o.t.r + o.c)) (by simp)
          replace Tt := Tt.other (k' := w.heap.size + 1) (by omega) 3 (.int .i64 (o.t.r + o.c))
          replace To := To.other (k' := w.heap.size + 1) (by omega) 3 (.int .i64 (o.t.r + o.c))
          replace Tv := Tv.other (k' := w.heap.size + 1) (by omega) 3 (.int .i64 (o.t.r + o.c))
          replace Ft := Ft.set ⟨w.heap.size + 1, 3, none⟩ (.int .i64 (o.t.r + o.c))
          replace Fres := Fres.set ⟨w.heap.size + 1, 3, none⟩ (.int .i64 (o.t.r + o.c))
          replace Fv := Fv.set ⟨w.heap.size + 1, 3, none⟩ (.int .i64 (o.t.r + o.c))
          replace BB := BB.setCell (p := ⟨w.heap.size + 1, 3, none⟩) (by first | exact Nat.le_refl _ | (simp only; omega)) (.int .i64 (o.t.r + o.c))
          replace Tres := Tres.set 4 (.int .i64 o.p) (by simp)
          replace Tt := Tt.other (k' := w.heap.size + 1) (by omega) 4 (.int .i64 o.p)
          replace To := To.other (k' := w.heap.size + 1) (by omega) 4 (.int .i64 o.p)
          replace Tv := Tv.other (k' := w.heap.size + 1) (by omega) 4 (.int .i64 o.p)
          replace Ft := Ft.set ⟨w.heap.size + 1, 4, none⟩ (.int .i64 o.p)
          replace Fres := Fres.set ⟨w.heap.size + 1, 4, none⟩ (.int .i64 o.p)
          replace Fv := Fv.set ⟨w.heap.size + 1, 4, none⟩ (.int .i64 o.p)
          replace BB := BB.setCell (p := ⟨w.heap.size + 1, 4, none⟩) (by first | exact Nat.le_refl _ | (simp only; omega)) (.int .i64 o.p)
          obtain ⟨V45, hV45⟩ : ∃ V45, ((((V44.setCell ⟨w.heap.size + 1, 0, none⟩ (.int .i64 o.t.s)).setCell ⟨w.heap.size + 1, 1, none⟩ (.int .i64 (o.t.r + o.c))).setCell ⟨w.heap.size + 1, 2, none⟩ (.int .i64 o.t.s)).setCell ⟨w.heap.size + 1, 3, none⟩ (.int .i64 (o.t.r + o.c))).setCell ⟨w.heap.size + 1, 4, none⟩ (.int .i64 o.p) = V45 := ⟨_, rfl⟩
          rw [hV45] at BB Tt Tres To Tv Ft Fres Fv ⊢
          clear hV45
          have res0 := Tres 0 _ rfl
          have fres0 := Fres.1 0
          have res1 := Tres 1 _ rfl
          have fres1 := Fres.1 1
          have res2 := Tres 2 _ rfl
          have fres2 := Fres.1 2
          have res3 := Tres 3 _ rfl
          have fres3 := Fres.1 3
          have res4 := Tres 4 _ rfl
          have fres4 := Fres.1 4
          refine bodyPost_ret (v := (⟨thr o, thr o, o.p⟩ : Rt).v) (by simp [results, Try.results19, go_sem, thr, res0, res1, res2, res3, res4]) rfl ?_
          rw [HCH.out, HTK.out]
          exact ⟨rfl, BB⟩
theorem rchoose_any (r : Rt) (n : Nat) (a : Option Addr) (cap : Nat) (l : List Ofr) (w : World) (hn : n = l.length) (hl : OfAt w a l) (hm : l.length ≤ maxLen) : Calls Try.prog 19 #[r.v, .slice a n cap] w (Gives (chooseV r l).v w) := by
  cases hv : validR r
  · rw [show chooseV r l = r by unfold chooseV; rw [if_neg (by rw [hv]; simp)]]
    exact rchoose_0 r n a cap l w (Lib.hid hn) hl (Lib.hid hm) (Lib.hid hv)
  cases ho : offsB l
  · rw [show chooseV r l = r by unfold chooseV; rw [if_neg (by rw [ho]; simp)]]
    exact rchoose_1 r n a cap l w (Lib.hid hn) hl (Lib.hid hm) (Lib.hid hv) (Lib.hid ho)
  exact rchoose_2 r n a cap l w (Lib.hid hn) hl (Lib.hid hm) (Lib.hid hv) (Lib.hid ho)
theorem rchoose_at (r q : Rt) (n : Nat) (a : Option Addr) (cap : Nat) (l : List Ofr) (w : World) (hn : n = l.length) (hl : OfAt w a l) (hm : l.length ≤ maxLen) (hq : chooseV r l = q) : Calls Try.prog 19 #[r.v, .slice a n cap] w (Gives q.v w) := by
  rw [← hq]; exact rchoose_any r n a cap l w hn hl hm
end Go.Proofs.Ytbonchnhngaicaa
