/- Proved: what the checks of package rank and of its reference return: on routes and offers. Conditions: offers are valid where a theorem says so. -/
import Derived.Test.YtbonchnhngaicaaX1
namespace Go.Proofs.Ytbonchnhngaicaa
open Go.RowKit Go.Sort Go.BigFrame
set_option linter.unusedVariables false
set_option linter.unusedSimpArgs false
attribute [local go_sem] cell_alloc_old

set_option maxRecDepth 100000 in
set_option maxHeartbeats 1000000 in
theorem isroute_0 (r : Rt) (w : World) (h1 : Hid (distB r.o = false)) : Calls Try.prog 33 #[r.v] w (Yes false w) := by
  go_enter Try.func33, Try.ntmps33
  go_wp2_with fail
  have Tt := CAt.new (w) [.int .i64 r.o.s, .int .i64 r.o.r, .int .i64 r.l.s, .int .i64 r.l.r, .int .i64 r.p] 25
  have BB : Below w.heap.size w ((w).alloc (.cells #[.int .i64 r.o.s, .int .i64 r.o.r, .int .i64 r.l.s, .int .i64 r.l.r, .int .i64 r.p] 25)) := ball (Below.refl _ _) _
  obtain ⟨V1, hV1⟩ : ∃ V1, w.alloc (.cells #[.int .i64 r.o.s, .int .i64 r.o.r, .int .i64 r.l.s, .int .i64 r.l.r, .int .i64 r.p] 25) = V1 := ⟨_, rfl⟩
  rw [hV1] at BB Tt ⊢
  clear hV1
  refine (wvalid_at r.o _ _ h1.out).mono ?_
  rintro e w2 ⟨rfl, b2⟩
  replace Tt := Tt.keep b2
  replace BB := bstep BB b2
  clear b2
  have t0 := Tt 0 _ rfl
  have t1 := Tt 1 _ rfl
  have t2 := Tt 2 _ rfl
  have t3 := Tt 3 _ rfl
  have t4 := Tt 4 _ rfl
  go_wp2_with fail
  all_goals
    go_ret
    exact ⟨rfl, BB⟩
set_option maxRecDepth 100000 in
set_option maxHeartbeats 1000000 in
theorem isroute_1 (r : Rt) (w : World) (h1 : Hid (distB r.o = true)) (h2 : Hid (distB r.l = false)) : Calls Try.prog 33 #[r.v] w (Yes false w) := by
  go_enter Try.func33, Try.ntmps33
  go_wp2_with fail
  have Tt := CAt.new (w) [.int .i64 r.o.s, .int .i64 r.o.r, .int .i64 r.l.s, .int .i64 r.l.r, .int .i64 r.p] 25
  have BB : Below w.heap.size w ((w).alloc (.cells #[.int .i64 r.o.s, .int .i64 r.o.r, .int .i64 r.l.s, .int .i64 r.l.r, .int .i64 r.p] 25)) := ball (Below.refl _ _) _
  obtain ⟨V1, hV1⟩ : ∃ V1, w.alloc (.cells #[.int .i64 r.o.s, .int .i64 r.o.r, .int .i64 r.l.s, .int .i64 r.l.r, .int .i64 r.p] 25) = V1 := ⟨_, rfl⟩
  rw [hV1] at BB Tt ⊢
  clear hV1
  refine (wvalid_at r.o _ _ h1.out).mono ?_
  rintro e w2 ⟨rfl, b2⟩
  replace Tt := Tt.keep b2
  replace BB := bstep BB b2
  clear b2
  have t0 := Tt 0 _ rfl
  have t1 := Tt 1 _ rfl
  have t2 := Tt 2 _ rfl
  have t3 := Tt 3 _ rfl
  have t4 := Tt 4 _ rfl
  go_wp2_with fail
  refine (wvalid_at r.l _ _ h2.out).mono ?_
  clear t0 t1 t2 t3 t4
  rintro e w3 ⟨rfl, b3⟩
  replace Tt := Tt.keep b3
  replace BB := bstep BB b3
  clear b3
  have t0 := Tt 0 _ rfl
  have t1 := Tt 1 _ rfl
  have t2 := Tt 2 _ rfl
  have t3 := Tt 3 _ rfl
  have t4 := Tt 4 _ rfl
  go_wp2_with fail
  all_goals
    go_ret
    exact ⟨rfl, BB⟩
set_option maxRecDepth 100000 in
set_option maxHeartbeats 1000000 in
theorem isroute_2 (r : Rt) (w : World) (h1 : Hid (distB r.o = true)) (h2 : Hid (distB r.l = true)) (h3 : Hid (betterB r.o r.l = true)) : Calls Try.prog 33 #[r.v] w (Yes false w) := by
  go_enter Try.func33, Try.ntmps33
  go_wp2_with fail
  have Tt := CAt.new (w) [.int .i64 r.o.s, .int .i64 r.o.r, .int .i64 r.l.s, .int .i64 r.l.r, .int .i64 r.p] 25
  have BB : Below w.heap.size w ((w).alloc (.cells #[.int .i64 r.o.s, .int .i64 r.o.r, .int .i64 r.l.s, .int .i64 r.l.r, .int .i64 r.p] 25)) := ball (Below.refl _ _) _
  obtain ⟨V1, hV1⟩ : ∃ V1, w.alloc (.cells #[.int .i64 r.o.s, .int .i64 r.o.r, .int .i64 r.l.s, .int .i64 r.l.r, .int .i64 r.p] 25) = V1 := ⟨_, rfl⟩
  rw [hV1] at BB Tt ⊢
  clear hV1
  refine (wvalid_at r.o _ _ h1.out).mono ?_
  rintro e w2 ⟨rfl, b2⟩
  replace Tt := Tt.keep b2
  replace BB := bstep BB b2
  clear b2
  have t0 := Tt 0 _ rfl
  have t1 := Tt 1 _ rfl
  have t2 := Tt 2 _ rfl
  have t3 := Tt 3 _ rfl
  have t4 := Tt 4 _ rfl
  go_wp2_with fail
  refine (wvalid_at r.l _ _ h2.out).mono ?_
  clear t0 t1 t2 t3 t4
  rintro e w3 ⟨rfl, b3⟩
  replace Tt := Tt.keep b3
  replace BB := bstep BB b3
  clear b3
  have t0 := Tt 0 _ rfl
  have t1 := Tt 1 _ rfl
  have t2 := Tt 2 _ rfl
  have t3 := Tt 3 _ rfl
  have t4 := Tt 4 _ rfl
  go_wp2_with fail
  refine (wbetter_at r.o r.l _ _ h3.out).mono ?_
  clear t0 t1 t2 t3 t4
  rintro e w4 ⟨rfl, b4⟩
  replace Tt := Tt.keep b4
  replace BB := bstep BB b4
  clear b4
  have t0 := Tt 0 _ rfl
  have t1 := Tt 1 _ rfl
  have t2 := Tt 2 _ rfl
  have t3 := Tt 3 _ rfl
  have t4 := Tt 4 _ rfl
  go_wp2_with fail
  all_goals
    go_ret
    exact ⟨rfl, BB⟩
set_option maxRecDepth 100000 in
set_option maxHeartbeats 1000000 in
theorem isroute_3 (r : Rt) (w : World) (h1 : Hid (distB r.o = true)) (h2 : Hid (distB r.l = true)) (h3 : Hid (betterB r.o r.l = false)) : Calls Try.prog 33 #[r.v] w (Yes (decide (-1 ≤ r.p) && decide (r.p < 60)) w) := by
  go_enter Try.func33, Try.ntmps33
  go_wp2_with fail
  have Tt := CAt.new (w) [.int .i64 r.o.s, .int .i64 r.o.r, .int .i64 r.l.s, .int .i64 r.l.r, .int .i64 r.p] 25
  have BB : Below w.heap.size w ((w).alloc (.cells #[.int .i64 r.o.s, .int .i64 r.o.r, .int .i64 r.l.s, .int .i64 r.l.r, .int .i64 r.p] 25)) := ball (Below.refl _ _) _
  obtain ⟨V1, hV1⟩ : ∃ V1, w.alloc (.cells #[.int .i64 r.o.s, .int .i64 r.o.r, .int .i64 r.l.s, .int .i64 r.l.r, .int .i64 r.p] 25) = V1 := ⟨_, rfl⟩
  rw [hV1] at BB Tt ⊢
  clear hV1
  refine (wvalid_at r.o _ _ h1.out).mono ?_
  rintro e w2 ⟨rfl, b2⟩
  replace Tt := Tt.keep b2
  replace BB := bstep BB b2
  clear b2
  have t0 := Tt 0 _ rfl
  have t1 := Tt 1 _ rfl
  have t2 := Tt 2 _ rfl
  have t3 := Tt 3 _ rfl
  have t4 := Tt 4 _ rfl
  go_wp2_with fail
  refine (wvalid_at r.l _ _ h2.out).mono ?_
  clear t0 t1 t2 t3 t4
  rintro e w3 ⟨rfl, b3⟩
  replace Tt := Tt.keep b3
  replace BB := bstep BB b3
  clear b3
  have t0 := Tt 0 _ rfl
  have t1 := Tt 1 _ rfl
  have t2 := Tt 2 _ rfl
  have t3 := Tt 3 _ rfl
  have t4 := Tt 4 _ rfl
  go_wp2_with fail
  refine (wbetter_at r.o r.l _ _ h3.out).mono ?_
  clear t0 t1 t2 t3 t4
  rintro e w4 ⟨rfl, b4⟩
  replace Tt := Tt.keep b4
  replace BB := bstep BB b4
  clear b4
  have t0 := Tt 0 _ rfl
  have t1 := Tt 1 _ rfl
  have t2 := Tt 2 _ rfl
  have t3 := Tt 3 _ rfl
  have t4 := Tt 4 _ rfl
  go_wp2_with fail
  all_goals
    go_ret
    exact ⟨by simp [*] <;> omega, BB⟩
theorem isroute_any (r : Rt) (w : World) : Calls Try.prog 33 #[r.v] w (Yes (validR r) w) := by
  cases h1 : distB r.o
  · rw [show validR r = false by simp [validR, h1]]; exact isroute_0 r w (Lib.hid h1)
  cases h2 : distB r.l
  · rw [show validR r = false by simp [validR, h2]]; exact isroute_1 r w (Lib.hid h1) (Lib.hid h2)
  cases h3 : betterB r.o r.l
  · rw [show validR r = (decide (-1 ≤ r.p) && decide (r.p < 60)) by simp [validR, h1, h2, h3]]; exact isroute_3 r w (Lib.hid h1) (Lib.hid h2) (Lib.hid h3)
  · rw [show validR r = false by simp [validR, h3]]; exact isroute_2 r w (Lib.hid h1) (Lib.hid h2) (Lib.hid h3)
theorem isroute_at (r : Rt) (y : Bool) (w : World) (hy : validR r = y) : Calls Try.prog 33 #[r.v] w (Yes y w) := by rw [← hy]; exact isroute_any r w
set_option maxRecDepth 100000 in
set_option maxHeartbeats 1000000 in
theorem rvalid_0 (r : Rt) (w : World) (h1 : Hid (distB r.o = false)) : Calls Try.prog 22 #[r.v] w (Yes false w) := by
  go_enter Try.func22, Try.ntmps22
  go_wp2_with fail
  have Tt := CAt.new (w) [.int .i64 r.o.s, .int .i64 r.o.r, .int .i64 r.l.s, .int .i64 r.l.r, .int .i64 r.p] 25
  have BB : Below w.heap.size w ((w).alloc (.cells #[.int .i64 r.o.s, .int .i64 r.o.r, .int .i64 r.l.s, .int .i64 r.l.r, .int .i64 r.p] 25)) := ball (Below.refl _ _) _
  obtain ⟨V1, hV1⟩ : ∃ V1, w.alloc (.cells #[.int .i64 r.o.s, .int .i64 r.o.r, .int .i64 r.l.s, .int .i64 r.l.r, .int .i64 r.p] 25) = V1 := ⟨_, rfl⟩
  rw [hV1] at BB Tt ⊢
  clear hV1
  refine (rdist_at r.o _ _ h1.out).mono ?_
  rintro e w2 ⟨rfl, b2⟩
  replace Tt := Tt.keep b2
  replace BB := bstep BB b2
  clear b2
  have t0 := Tt 0 _ rfl
  have t1 := Tt 1 _ rfl
  have t2 := Tt 2 _ rfl
  have t3 := Tt 3 _ rfl
  have t4 := Tt 4 _ rfl
  go_wp2_with fail
  all_goals
    go_ret
    exact ⟨rfl, BB⟩
set_option maxRecDepth 100000 in
set_option maxHeartbeats 1000000 in
theorem rvalid_1 (r : Rt) (w : World) (h1 : Hid (distB r.o = true)) (h2 : Hid (distB r.l = false)) : Calls Try.prog 22 #[r.v] w (Yes false w) := by
  go_enter Try.func22, Try.ntmps22
  go_wp2_with fail
  have Tt := CAt.new (w) [.int .i64 r.o.s, .int .i64 r.o.r, .int .i64 r.l.s, .int .i64 r.l.r, .int .i64 r.p] 25
  have BB : Below w.heap.size w ((w).alloc (.cells #[.int .i64 r.o.s, .int .i64 r.o.r, .int .i64 r.l.s, .int .i64 r.l.r, .int .i64 r.p] 25)) := ball (Below.refl _ _) _
  obtain ⟨V1, hV1⟩ : ∃ V1, w.alloc (.cells #[.int .i64 r.o.s, .int .i64 r.o.r, .int .i64 r.l.s, .int .i64 r.l.r, .int .i64 r.p] 25) = V1 := ⟨_, rfl⟩
  rw [hV1] at BB Tt ⊢
  clear hV1
  refine (rdist_at r.o _ _ h1.out).mono ?_
  rintro e w2 ⟨rfl, b2⟩
  replace Tt := Tt.keep b2
  replace BB := bstep BB b2
  clear b2
  have t0 := Tt 0 _ rfl
  have t1 := Tt 1 _ rfl
  have t2 := Tt 2 _ rfl
  have t3 := Tt 3 _ rfl
  have t4 := Tt 4 _ rfl
  go_wp2_with fail
  refine (rdist_at r.l _ _ h2.out).mono ?_
  clear t0 t1 t2 t3 t4
  rintro e w3 ⟨rfl, b3⟩
  replace Tt := Tt.keep b3
  replace BB := bstep BB b3
  clear b3
  have t0 := Tt 0 _ rfl
  have t1 := Tt 1 _ rfl
  have t2 := Tt 2 _ rfl
  have t3 := Tt 3 _ rfl
  have t4 := Tt 4 _ rfl
  go_wp2_with fail
  all_goals
    go_ret
    exact ⟨rfl, BB⟩
set_option maxRecDepth 100000 in
set_option maxHeartbeats 1000000 in
theorem rvalid_2 (r : Rt) (w : World) (h1 : Hid (distB r.o = true)) (h2 : Hid (distB r.l = true)) (h3 : Hid (betterB r.o r.l = true)) : Calls Try.prog 22 #[r.v] w (Yes false w) := by
  go_enter Try.func22, Try.ntmps22
  go_wp2_with fail
  have Tt := CAt.new (w) [.int .i64 r.o.s, .int .i64 r.o.r, .int .i64 r.l.s, .int .i64 r.l.r, .int .i64 r.p] 25
  have BB : Below w.heap.size w ((w).alloc (.cells #[.int .i64 r.o.s, .int .i64 r.o.r, .int .i64 r.l.s, .int .i64 r.l.r, .int .i64 r.p] 25)) := ball (Below.refl _ _) _
  obtain ⟨V1, hV1⟩ : ∃ V1, w.alloc (.cells #[.int .i64 r.o.s, .int .i64 r.o.r, .int .i64 r.l.s, .int .i64 r.l.r, .int .i64 r.p] 25) = V1 := ⟨_, rfl⟩
  rw [hV1] at BB Tt ⊢
  clear hV1
  refine (rdist_at r.o _ _ h1.out).mono ?_
  rintro e w2 ⟨rfl, b2⟩
  replace Tt := Tt.keep b2
  replace BB := bstep BB b2
  clear b2
  have t0 := Tt 0 _ rfl
  have t1 := Tt 1 _ rfl
  have t2 := Tt 2 _ rfl
  have t3 := Tt 3 _ rfl
  have t4 := Tt 4 _ rfl
  go_wp2_with fail
  refine (rdist_at r.l _ _ h2.out).mono ?_
  clear t0 t1 t2 t3 t4
  rintro e w3 ⟨rfl, b3⟩
  replace Tt := Tt.keep b3
  replace BB := bstep BB b3
  clear b3
  have t0 := Tt 0 _ rfl
  have t1 := Tt 1 _ rfl
  have t2 := Tt 2 _ rfl
  have t3 := Tt 3 _ rfl
  have t4 := Tt 4 _ rfl
  go_wp2_with fail
  refine (rbetter_at r.o r.l _ _ h3.out).mono ?_
  clear t0 t1 t2 t3 t4
  rintro e w4 ⟨rfl, b4⟩
  replace Tt := Tt.keep b4
  replace BB := bstep BB b4
  clear b4
  have t0 := Tt 0 _ rfl
  have t1 := Tt 1 _ rfl
  have t2 := Tt 2 _ rfl
  have t3 := Tt 3 _ rfl
  have t4 := Tt 4 _ rfl
  go_wp2_with fail
  all_goals
    go_ret
    exact ⟨rfl, BB⟩
set_option maxRecDepth 100000 in
set_option maxHeartbeats 1000000 in
theorem rvalid_3 (r : Rt) (w : World) (h1 : Hid (distB r.o = true)) (h2 : Hid (distB r.l = true)) (h3 : Hid (betterB r.o r.l = false)) : Calls Try.prog 22 #[r.v] w (Yes (decide (-1 ≤ r.p) && decide (r.p < 60)) w) := by
  go_enter Try.func22, Try.ntmps22
  go_wp2_with fail
  have Tt := CAt.new (w) [.int .i64 r.o.s, .int .i64 r.o.r, .int .i64 r.l.s, .int .i64 r.l.r, .int .i64 r.p] 25
  have BB : Below w.heap.size w ((w).alloc (.cells #[.int .i64 r.o.s, .int .i64 r.o.r, .int .i64 r.l.s, .int .i64 r.l.r, .int .i64 r.p] 25)) := ball (Below.refl _ _) _
  obtain ⟨V1, hV1⟩ : ∃ V1, w.alloc (.cells #[.int .i64 r.o.s, .int .i64 r.o.r, .int .i64 r.l.s, .int .i64 r.l.r, .int .i64 r.p] 25) = V1 := ⟨_, rfl⟩
  rw [hV1] at BB Tt ⊢
  clear hV1
  refine (rdist_at r.o _ _ h1.out).mono ?_
  rintro e w2 ⟨rfl, b2⟩
  replace Tt := Tt.keep b2
  replace BB := bstep BB b2
  clear b2
  have t0 := Tt 0 _ rfl
  have t1 := Tt 1 _ rfl
  have t2 := Tt 2 _ rfl
  have t3 := Tt 3 _ rfl
  have t4 := Tt 4 _ rfl
  go_wp2_with fail
  refine (rdist_at r.l _ _ h2.out).mono ?_
  clear t0 t1 t2 t3 t4
  rintro e w3 ⟨rfl, b3⟩
  replace Tt := Tt.keep b3
  replace BB := bstep BB b3
  clear b3
  have t0 := Tt 0 _ rfl
  have t1 := Tt 1 _ rfl
  have t2 := Tt 2 _ rfl
  have t3 := Tt 3 _ rfl
  have t4 := Tt 4 _ rfl
  go_wp2_with fail
  refine (rbetter_at r.o r.l _ _ h3.out).mono ?_
  clear t0 t1 t2 t3 t4
  rintro e w4 ⟨rfl, b4⟩
  replace Tt := Tt.keep b4
  replace BB := bstep BB b4
  clear b4
  have t0 := Tt 0 _ rfl
  have t1 := Tt 1 _ rfl
  have t2 := Tt 2 _ rfl
  have t3 := Tt 3 _ rfl
  have t4 := Tt 4 _ rfl
  go_wp2_with fail
  all_goals
    go_ret
    exact ⟨by simp [*] <;> omega, BB⟩
theorem rvalid_any (r : Rt) (w : World) : Calls Try.prog 22 #[r.v] w (Yes (validR r) w) := by
  cases h1 : distB r.o
  · rw [show validR r = false by simp [validR, h1]]; exact rvalid_0 r w (Lib.hid h1)
  cases h2 : distB r.l
  · rw [show validR r = false by simp [validR, h2]]; exact rvalid_1 r w (Lib.hid h1) (Lib.hid h2)
  cases h3 : betterB r.o r.l
  · rw [show validR r = (decide (-1 ≤ r.p) && decide (r.p < 60)) by simp [validR, h1, h2, h3]]; exact rvalid_3 r w (Lib.hid h1) (Lib.hid h2) (Lib.hid h3)
  · rw [show validR r = false by simp [validR, h3]]; exact rvalid_2 r w (Lib.hid h1) (Lib.hid h2) (Lib.hid h3)
theorem rvalid_at (r : Rt) (y : Bool) (w : World) (hy : validR r = y) : Calls Try.prog 22 #[r.v] w (Yes y w) := by rw [← hy]; exact rvalid_any r w
set_option maxRecDepth 100000 in
set_option maxHeartbeats 1000000 in
theorem roffer_0 (o : Ofr) (w : World) (h1 : o.p < 0) : Calls Try.prog 41 #[o.v] w (Yes false w) := by
  go_enter Try.func41, Try.ntmps41
  go_wp2_with fail
  go_ret
  exact ⟨rfl, ball (Below.refl _ _) _⟩
set_option maxRecDepth 100000 in
set_option maxHeartbeats 1000000 in
theorem roffer_1 (o : Ofr) (w : World) (h0 : 0 ≤ o.p) (h1 : ¬ o.p < 60) : Calls Try.prog 41 #[o.v] w (Yes false w) := by
  go_enter Try.func41, Try.ntmps41
  go_wp2_with fail
  go_ret
  exact ⟨rfl, ball (Below.refl _ _) _⟩
set_option maxRecDepth 100000 in
set_option maxHeartbeats 1000000 in
theorem roffer_2 (o : Ofr) (w : World) (h0 : 0 ≤ o.p) (h1 : o.p < 60) (h2 : Hid (distB o.t = false)) : Calls Try.prog 41 #[o.v] w (Yes false w) := by
  go_enter Try.func41, Try.ntmps41
  go_wp2_with fail
  have Tt := CAt.new (w) [.int .i64 o.p, .int .i64 o.t.s, .int .i64 o.t.r, .int .i64 o.c] 40
  have BB : Below w.heap.size w ((w).alloc (.cells #[.int .i64 o.p, .int .i64 o.t.s, .int .i64 o.t.r, .int .i64 o.c] 40)) := ball (Below.refl _ _) _
  obtain ⟨V1, hV1⟩ : ∃ V1, w.alloc (.cells #[.int .i64 o.p, .int .i64 o.t.s, .int .i64 o.t.r, .int .i64 o.c] 40) = V1 := ⟨_, rfl⟩
  rw [hV1] at BB Tt ⊢
  clear hV1
  refine (rdist_at o.t _ _ h2.out).mono ?_
  rintro e w2 ⟨rfl, b2⟩
  replace Tt := Tt.keep b2
  replace BB := bstep BB b2
  clear b2
  have t0 := Tt 0 _ rfl
  have t1 := Tt 1 _ rfl
  have t2 := Tt 2 _ rfl
  have t3 := Tt 3 _ rfl
  go_wp2_with fail
  all_goals
    go_ret
    exact ⟨rfl, BB⟩
set_option maxRecDepth 100000 in
set_option maxHeartbeats 1000000 in
theorem roffer_3 (o : Ofr) (w : World) (h0 : 0 ≤ o.p) (h1 : o.p < 60) (h2 : Hid (distB o.t = true)) : Calls Try.prog 41 #[o.v] w (Yes (decide (1 ≤ o.c) && decide (o.c ≤ 4096)) w) := by
  go_enter Try.func41, Try.ntmps41
  go_wp2_with fail
  have Tt := CAt.new (w) [.int .i64 o.p, .int .i64 o.t.s, .int .i64 o.t.r, .int .i64 o.c] 40
  have BB : Below w.heap.size w ((w).alloc (.cells #[.int .i64 o.p, .int .i64 o.t.s, .int .i64 o.t.r, .int .i64 o.c] 40)) := ball (Below.refl _ _) _
  obtain ⟨V1, hV1⟩ : ∃ V1, w.alloc (.cells #[.int .i64 o.p, .int .i64 o.t.s, .int .i64 o.t.r, .int .i64 o.c] 40) = V1 := ⟨_, rfl⟩
  rw [hV1] at BB Tt ⊢
  clear hV1
  refine (rdist_at o.t _ _ h2.out).mono ?_
  rintro e w2 ⟨rfl, b2⟩
  replace Tt := Tt.keep b2
  replace BB := bstep BB b2
  clear b2
  have t0 := Tt 0 _ rfl
  have t1 := Tt 1 _ rfl
  have t2 := Tt 2 _ rfl
  have t3 := Tt 3 _ rfl
  go_wp2_with fail
  all_goals
    go_ret
    exact ⟨by simp [*] <;> omega, BB⟩
theorem roffer_any (o : Ofr) (w : World) : Calls Try.prog 41 #[o.v] w (Yes (offB o) w) := by
  by_cases h0 : o.p < 0
  · rw [show offB o = false by simp [offB]; omega]; exact roffer_0 o w h0
  by_cases h1 : o.p < 60
  · cases h2 : distB o.t
    · rw [show offB o = false by simp [offB, h2]]; exact roffer_2 o w (by omega) h1 (Lib.hid h2)
    · rw [show offB o = (decide (1 ≤ o.c) && decide (o.c ≤ 4096)) by simp [offB, h2, h1, show 0 ≤ o.p by omega]]; exact roffer_3 o w (by omega) h1 (Lib.hid h2)
  · rw [show offB o = false by simp [offB, h1]]; exact roffer_1 o w (by omega) h1
theorem roffer_at (o : Ofr) (y : Bool) (w : World) (hy : offB o = y) : Calls Try.prog 41 #[o.v] w (Yes y w) := by rw [← hy]; exact roffer_any o w
set_option maxRecDepth 100000 in
set_option maxHeartbeats 1000000 in
theorem feas_any (r : Rt) (d : Ds) (w : World) : Calls Try.prog 16 #[r.v, d.v] w (Yes (feasB r d) w) := by
  by_cases h : d.r < 1000000
  · obtain ⟨y, hy⟩ : ∃ y, betterB d r.l = y := ⟨_, rfl⟩
    rw [show feasB r d = y by simp [feasB, h, hy]]
    have HY := Lib.hid hy; clear hy
    go_enter Try.func16, Try.ntmps16
    go_wp2_with fail
    have Tt := CAt.new (w) [.int .i64 r.o.s, .int .i64 r.o.r, .int .i64 r.l.s, .int .i64 r.l.r, .int .i64 r.p] 25
    have BB : Below w.heap.size w ((w).alloc (.cells #[.int .i64 r.o.s, .int .i64 r.o.r, .int .i64 r.l.s, .int .i64 r.l.r, .int .i64 r.p] 25)) := ball (Below.refl _ _) _
    have Td := CAt.new (w.alloc (.cells #[.int .i64 r.o.s, .int .i64 r.o.r, .int .i64 r.l.s, .int .i64 r.l.r, .int .i64 r.p] 25)) [.int .i64 d.s, .int .i64 d.r] 23
    replace Tt := Tt.alloc (.cells #[.int .i64 d.s, .int .i64 d.r] 23)
    replace BB := ball BB (.cells #[.int .i64 d.s, .int .i64 d.r] 23)
    simp only [World.size_alloc, Nat.add_assoc, Nat.reduceAdd] at Td
    obtain ⟨V1, hV1⟩ : ∃ V1, (w.alloc (.cells #[.int .i64 r.o.s, .int .i64 r.o.r, .int .i64 r.l.s, .int .i64 r.l.r, .int .i64 r.p] 25)).alloc (.cells #[.int .i64 d.s, .int .i64 d.r] 23) = V1 := ⟨_, rfl⟩
    rw [hV1] at BB Tt Td ⊢
    clear hV1
    refine (better_at d r.l y _ HY.out).mono ?_
    rintro e w2 ⟨rfl, b2⟩
    replace Tt := Tt.keep b2
    replace Td := Td.keep b2
    replace BB := bstep BB b2
    clear b2
    have t0 := Tt 0 _ rfl
    have t1 := Tt 1 _ rfl
    have t2 := Tt 2 _ rfl
    have t3 := Tt 3 _ rfl
    have t4 := Tt 4 _ rfl
    have d0 := Td 0 _ rfl
    have d1 := Td 1 _ rfl
    go_wp2_with fail
    go_ret
    exact ⟨rfl, BB⟩
  · rw [show feasB r d = false by simp [feasB, h]]
    go_enter Try.func16, Try.ntmps16
    go_wp2_with fail
    go_ret
    exact ⟨rfl, ball (ball (Below.refl _ _) _) _⟩
theorem feas_at (r : Rt) (d : Ds) (y : Bool) (w : World) (hy : feasB r d = y) : Calls Try.prog 16 #[r.v, d.v] w (Yes y w) := by rw [← hy]; exact feas_any r d w
set_option maxRecDepth 100000 in
set_option maxHeartbeats 1000000 in
theorem rfeas_any (r : Rt) (d : Ds) (w : World) : Calls Try.prog 17 #[r.v, d.v] w (Yes (feasB r d) w) := by
  by_cases h : d.r < 1000000
  · obtain ⟨y, hy⟩ : ∃ y, betterB d r.l = y := ⟨_, rfl⟩
    rw [show feasB r d = y by simp [feasB, h, hy]]
    have HY := Lib.hid hy; clear hy
    go_enter Try.func17, Try.ntmps17
    go_wp2_with fail
    have Tt := CAt.new (w) [.int .i64 r.o.s, .int .i64 r.o.r, .int .i64 r.l.s, .int .i64 r.l.r, .int .i64 r.p] 25
    have BB : Below w.heap.size w ((w).alloc (.cells #[.int .i64 r.o.s, .int .i64 r.o.r, .int .i64 r.l.s, .int .i64 r.l.r, .int .i64 r.p] 25)) := ball (Below.refl _ _) _
    have Td := CAt.new (w.alloc (.cells #[.int .i64 r.o.s, .int .i64 r.o.r, .int .i64 r.l.s, .int .i64 r.l.r, .int .i64 r.p] 25)) [.int .i64 d.s, .int .i64 d.r] 23
    replace Tt := Tt.alloc (.cells #[.int .i64 d.s, .int .i64 d.r] 23)
    replace BB := ball BB (.cells #[.int .i64 d.s, .int .i64 d.r] 23)
    simp only [World.size_alloc, Nat.add_assoc, Nat.reduceAdd] at Td
    obtain ⟨V1, hV1⟩ : ∃ V1, (w.alloc (.cells #[.int .i64 r.o.s, .int .i64 r.o.r, .int .i64 r.l.s, .int .i64 r.l.r, .int .i64 r.p] 25)).alloc (.cells #[.int .i64 d.s, .int .i64 d.r] 23) = V1 := ⟨_, rfl⟩
    rw [hV1] at BB Tt Td ⊢
    clear hV1
    refine (rbetter_at d r.l y _ HY.out).mono ?_
    rintro e w2 ⟨rfl, b2⟩
    replace Tt := Tt.keep b2
    replace Td := Td.keep b2
    replace BB := bstep BB b2
    clear b2
    have t0 := Tt 0 _ rfl
    have t1 := Tt 1 _ rfl
    have t2 := Tt 2 _ rfl
    have t3 := Tt 3 _ rfl
    have t4 := Tt 4 _ rfl
    have d0 := Td 0 _ rfl
    have d1 := Td 1 _ rfl
    go_wp2_with fail
    go_ret
    exact ⟨rfl, BB⟩
  · rw [show feasB r d = false by simp [feasB, h]]
    go_enter Try.func17, Try.ntmps17
    go_wp2_with fail
    go_ret
    exact ⟨rfl, ball (ball (Below.refl _ _) _) _⟩
theorem rfeas_at (r : Rt) (d : Ds) (y : Bool) (w : World) (hy : feasB r d = y) : Calls Try.prog 17 #[r.v, d.v] w (Yes y w) := by rw [← hy]; exact rfeas_any r d w
set_option maxRecDepth 100000 in
set_option maxHeartbeats 1000000 in
theorem poss_0 (r : Rt) (o : Ofr) (w : World) (t0 : 0 ≤ o.t.r) (t1 : o.t.r ≤ 1000000) (c0 : 1 ≤ o.c) (c1 : o.c ≤ 4096) (h1 : 1000000 ≤ o.t.r + o.c) : Calls Try.prog 36 #[r.v, o.v] w (Yes false w) := by
  have hf : ∀ (x y : Int) (w : World), (Instr.field 23 (.agg #[.int .i64 x, .int .i64 y]) 1).run Try.prog w = .ok (.int .i64 y) w := fun _ _ _ => by kernel_rfl
  go_enter Try.func36, Try.ntmps36
  go_wp2_with fail
  have Tt := CAt.new (w) [.int .i64 r.o.s, .int .i64 r.o.r, .int .i64 r.l.s, .int .i64 r.l.r, .int .i64 r.p] 25
  have BB : Below w.heap.size w ((w).alloc (.cells #[.int .i64 r.o.s, .int .i64 r.o.r, .int .i64 r.l.s, .int .i64 r.l.r, .int .i64 r.p] 25)) := ball (Below.refl _ _) _
  have Td := CAt.new (w.alloc (.cells #[.int .i64 r.o.s, .int .i64 r.o.r, .int .i64 r.l.s, .int .i64 r.l.r, .int .i64 r.p] 25)) [.int .i64 o.p, .int .i64 o.t.s, .int .i64 o.t.r, .int .i64 o.c] 40
  replace Tt := Tt.alloc (.cells #[.int .i64 o.p, .int .i64 o.t.s, .int .i64 o.t.r, .int .i64 o.c] 40)
  replace BB := ball BB (.cells #[.int .i64 o.p, .int .i64 o.t.s, .int .i64 o.t.r, .int .i64 o.c] 40)
  simp only [World.size_alloc, Nat.add_assoc, Nat.reduceAdd] at Td
  obtain ⟨V1, hV1⟩ : ∃ V1, (w.alloc (.cells #[.int .i64 r.o.s, .int .i64 r.o.r, .int .i64 r.l.s, .int .i64 r.l.r, .int .i64 r.p] 25)).alloc (.cells #[.int .i64 o.p, .int .i64 o.t.s, .int .i64 o.t.r, .int .i64 o.c] 40) = V1 := ⟨_, rfl⟩
  rw [hV1] at BB Tt Td ⊢
  clear hV1
  refine (through_any o _ t0 t1 c0 c1).mono ?_
  rintro e w2 ⟨rfl, b2⟩
  replace Tt := Tt.keep b2
  replace Td := Td.keep b2
  replace BB := bstep BB b2
  clear b2
  have t0 := Tt 0 _ rfl
  have t1 := Tt 1 _ rfl
  have t2 := Tt 2 _ rfl
  have t3 := Tt 3 _ rfl
  have t4 := Tt 4 _ rfl
  have d0 := Td 0 _ rfl
  have d1 := Td 1 _ rfl
  have d2 := Td 2 _ rfl
  have d3 := Td 3 _ rfl
  unfold thr
  go_wp2_with fail
  all_goals
    go_ret
    exact ⟨rfl, BB⟩
set_option maxRecDepth 100000 in
set_option maxHeartbeats 1000000 in
theorem poss_1 (r : Rt) (o : Ofr) (w : World) (t0 : 0 ≤ o.t.r) (t1 : o.t.r ≤ 1000000) (c0 : 1 ≤ o.c) (c1 : o.c ≤ 4096) (h1 : o.t.r + o.c < 1000000) (h2 : Hid (betterB o.t r.l = true)) : Calls Try.prog 36 #[r.v, o.v] w (Yes true w) := by
  have hf : ∀ (x y : Int) (w : World), (Instr.field 23 (.agg #[.int .i64 x, .int .i64 y]) 1).run Try.prog w = .ok (.int .i64 y) w := fun _ _ _ => by kernel_rfl
  go_enter Try.func36, Try.ntmps36
  go_wp2_with fail
  have Tt := CAt.new (w) [.int .i64 r.o.s, .int .i64 r.o.r, .int .i64 r.l.s, .int .i64 r.l.r, .int .i64 r.p] 25
  have BB : Below w.heap.size w ((w).alloc (.cells #[.int .i64 r.o.s, .int .i64 r.o.r, .int .i64 r.l.s, .int .i64 r.l.r, .int .i64 r.p] 25)) := ball (Below.refl _ _) _
  have Td := CAt.new (w.alloc (.cells #[.int .i64 r.o.s, .int .i64 r.o.r, .int .i64 r.l.s, .int .i64 r.l.r, .int .i64 r.p] 25)) [.int .i64 o.p, .int .i64 o.t.s, .int .i64 o.t.r, .int .i64 o.c] 40
  replace Tt := Tt.alloc (.cells #[.int .i64 o.p, .int .i64 o.t.s, .int .i64 o.t.r, .int .i64 o.c] 40)
  replace BB := ball BB (.cells #[.int .i64 o.p, .int .i64 o.t.s, .int .i64 o.t.r, .int .i64 o.c] 40)
  simp only [World.size_alloc, Nat.add_assoc, Nat.reduceAdd] at Td
  obtain ⟨V1, hV1⟩ : ∃ V1, (w.alloc (.cells #[.int .i64 r.o.s, .int .i64 r.o.r, .int .i64 r.l.s, .int .i64 r.l.r, .int .i64 r.p] 25)).alloc (.cells #[.int .i64 o.p, .int .i64 o.t.s, .int .i64 o.t.r, .int .i64 o.c] 40) = V1 := ⟨_, rfl⟩
  rw [hV1] at BB Tt Td ⊢
  clear hV1
  refine (through_any o _ t0 t1 c0 c1).mono ?_
  rintro e w2 ⟨rfl, b2⟩
  replace Tt := Tt.keep b2
  replace Td := Td.keep b2
  replace BB := bstep BB b2
  clear b2
  have t0 := Tt 0 _ rfl
  have t1 := Tt 1 _ rfl
  have t2 := Tt 2 _ rfl
  have t3 := Tt 3 _ rfl
  have t4 := Tt 4 _ rfl
  have d0 := Td 0 _ rfl
  have d1 := Td 1 _ rfl
  have d2 := Td 2 _ rfl
  have d3 := Td 3 _ rfl
  unfold thr
  go_wp2_with fail
  refine (better_at o.t r.l _ _ h2.out).mono ?_
  clear t0 t1 t2 t3 t4 d0 d1 d2 d3
  rintro e w3 ⟨rfl, b3⟩
  replace Tt := Tt.keep b3
  replace Td := Td.keep b3
  replace BB := bstep BB b3
  clear b3
  have t0 := Tt 0 _ rfl
  have t1 := Tt 1 _ rfl
  have t2 := Tt 2 _ rfl
  have t3 := Tt 3 _ rfl
  have t4 := Tt 4 _ rfl
  have d0 := Td 0 _ rfl
  have d1 := Td 1 _ rfl
  have d2 := Td 2 _ rfl
  have d3 := Td 3 _ rfl
  go_wp2_with fail
  all_goals
    go_ret
    exact ⟨rfl, BB⟩
set_option maxRecDepth 100000 in
set_option maxHeartbeats 1000000 in
theorem poss_2 (r : Rt) (o : Ofr) (w : World) (t0 : 0 ≤ o.t.r) (t1 : o.t.r ≤ 1000000) (c0 : 1 ≤ o.c) (c1 : o.c ≤ 4096) (h1 : o.t.r + o.c < 1000000) (h2 : Hid (betterB o.t r.l = false)) (h3 : (o.p == r.p) = false) : Calls Try.prog 36 #[r.v, o.v] w (Yes false w) := by
  have hf : ∀ (x y : Int) (w : World), (Instr.field 23 (.agg #[.int .i64 x, .int .i64 y]) 1).run Try.prog w = .ok (.int .i64 y) w := fun _ _ _ => by kernel_rfl
  go_enter Try.func36, Try.ntmps36
  go_wp2_with fail
  have Tt := CAt.new (w) [.int .i64 r.o.s, .int .i64 r.o.r, .int .i64 r.l.s, .int .i64 r.l.r, .int .i64 r.p] 25
  have BB : Below w.heap.size w ((w).alloc (.cells #[.int .i64 r.o.s, .int .i64 r.o.r, .int .i64 r.l.s, .int .i64 r.l.r, .int .i64 r.p] 25)) := ball (Below.refl _ _) _
  have Td := CAt.new (w.alloc (.cells #[.int .i64 r.o.s, .int .i64 r.o.r, .int .i64 r.l.s, .int .i64 r.l.r, .int .i64 r.p] 25)) [.int .i64 o.p, .int .i64 o.t.s, .int .i64 o.t.r, .int .i64 o.c] 40
  replace Tt := Tt.alloc (.cells #[.int .i64 o.p, .int .i64 o.t.s, .int .i64 o.t.r, .int .i64 o.c] 40)
  replace BB := ball BB (.cells #[.int .i64 o.p, .int .i64 o.t.s, .int .i64 o.t.r, .int .i64 o.c] 40)
  simp only [World.size_alloc, Nat.add_assoc, Nat.reduceAdd] at Td
  obtain ⟨V1, hV1⟩ : ∃ V1, (w.alloc (.cells #[.int .i64 r.o.s, .int .i64 r.o.r, .int .i64 r.l.s, .int .i64 r.l.r, .int .i64 r.p] 25)).alloc (.cells #[.int .i64 o.p, .int .i64 o.t.s, .int .i64 o.t.r, .int .i64 o.c] 40) = V1 := ⟨_, rfl⟩
  rw [hV1] at BB Tt Td ⊢
  clear hV1
  refine (through_any o _ t0 t1 c0 c1).mono ?_
  rintro e w2 ⟨rfl, b2⟩
  replace Tt := Tt.keep b2
  replace Td := Td.keep b2
  replace BB := bstep BB b2
  clear b2
  have t0 := Tt 0 _ rfl
  have t1 := Tt 1 _ rfl
  have t2 := Tt 2 _ rfl
  have t3 := Tt 3 _ rfl
  have t4 := Tt 4 _ rfl
  have d0 := Td 0 _ rfl
  have d1 := Td 1 _ rfl
  have d2 := Td 2 _ rfl
  have d3 := Td 3 _ rfl
  unfold thr
  go_wp2_with fail
  refine (better_at o.t r.l _ _ h2.out).mono ?_
  clear t0 t1 t2 t3 t4 d0 d1 d2 d3
  rintro e w3 ⟨rfl, b3⟩
  replace Tt := Tt.keep b3
  replace Td := Td.keep b3
  replace BB := bstep BB b3
  clear b3
  have t0 := Tt 0 _ rfl
  have t1 := Tt 1 _ rfl
  have t2 := Tt 2 _ rfl
  have t3 := Tt 3 _ rfl
  have t4 := Tt 4 _ rfl
  have d0 := Td 0 _ rfl
  have d1 := Td 1 _ rfl
  have d2 := Td 2 _ rfl
  have d3 := Td 3 _ rfl
  go_wp2_with fail
  all_goals
    go_ret
    exact ⟨rfl, BB⟩
set_option maxRecDepth 100000 in
set_option maxHeartbeats 1000000 in
theorem poss_3 (r : Rt) (o : Ofr) (w : World) (t0 : 0 ≤ o.t.r) (t1 : o.t.r ≤ 1000000) (c0 : 1 ≤ o.c) (c1 : o.c ≤ 4096) (h1 : o.t.r + o.c < 1000000) (h2 : Hid (betterB o.t r.l = false)) (h3 : (o.p == r.p) = true) : Calls Try.prog 36 #[r.v, o.v] w (Yes (decide (r.o.s ≤ o.t.s)) w) := by
  have hf : ∀ (x y : Int) (w : World), (Instr.field 23 (.agg #[.int .i64 x, .int .i64 y]) 1).run Try.prog w = .ok (.int .i64 y) w := fun _ _ _ => by kernel_rfl
  go_enter Try.func36, Try.ntmps36
  go_wp2_with fail
  have Tt := CAt.new (w) [.int .i64 r.o.s, .int .i64 r.o.r, .int .i64 r.l.s, .int .i64 r.l.r, .int .i64 r.p] 25
  have BB : Below w.heap.size w ((w).alloc (.cells #[.int .i64 r.o.s, .int .i64 r.o.r, .int .i64 r.l.s, .int .i64 r.l.r, .int .i64 r.p] 25)) := ball (Below.refl _ _) _
  have Td := CAt.new (w.alloc (.cells #[.int .i64 r.o.s, .int .i64 r.o.r, .int .i64 r.l.s, .int .i64 r.l.r, .int .i64 r.p] 25)) [.int .i64 o.p, .int .i64 o.t.s, .int .i64 o.t.r, .int .i64 o.c] 40
  replace Tt := Tt.alloc (.cells #[.int .i64 o.p, .int .i64 o.t.s, .int .i64 o.t.r, .int .i64 o.c] 40)
  replace BB := ball BB (.cells #[.int .i64 o.p, .int .i64 o.t.s, .int .i64 o.t.r, .int .i64 o.c] 40)
  simp only [World.size_alloc, Nat.add_assoc, Nat.reduceAdd] at Td
  obtain ⟨V1, hV1⟩ : ∃ V1, (w.alloc (.cells #[.int .i64 r.o.s, .int .i64 r.o.r, .int .i64 r.l.s, .int .i64 r.l.r, .int .i64 r.p] 25)).alloc (.cells #[.int .i64 o.p, .int .i64 o.t.s, .int .i64 o.t.r, .int .i64 o.c] 40) = V1 := ⟨_, rfl⟩
  rw [hV1] at BB Tt Td ⊢
  clear hV1
  refine (through_any o _ t0 t1 c0 c1).mono ?_
  rintro e w2 ⟨rfl, b2⟩
  replace Tt := Tt.keep b2
  replace Td := Td.keep b2
  replace BB := bstep BB b2
  clear b2
  have t0 := Tt 0 _ rfl
  have t1 := Tt 1 _ rfl
  have t2 := Tt 2 _ rfl
  have t3 := Tt 3 _ rfl
  have t4 := Tt 4 _ rfl
  have d0 := Td 0 _ rfl
  have d1 := Td 1 _ rfl
  have d2 := Td 2 _ rfl
  have d3 := Td 3 _ rfl
  unfold thr
  go_wp2_with fail
  refine (better_at o.t r.l _ _ h2.out).mono ?_
  clear t0 t1 t2 t3 t4 d0 d1 d2 d3
  rintro e w3 ⟨rfl, b3⟩
  replace Tt := Tt.keep b3
  replace Td := Td.keep b3
  replace BB := bstep BB b3
  clear b3
  have t0 := Tt 0 _ rfl
  have t1 := Tt 1 _ rfl
  have t2 := Tt 2 _ rfl
  have t3 := Tt 3 _ rfl
  have t4 := Tt 4 _ rfl
  have d0 := Td 0 _ rfl
  have d1 := Td 1 _ rfl
  have d2 := Td 2 _ rfl
  have d3 := Td 3 _ rfl
  go_wp2_with fail
  all_goals
    go_ret
    exact ⟨rfl, BB⟩
theorem poss_any (r : Rt) (o : Ofr) (w : World) (t0 : 0 ≤ o.t.r) (t1 : o.t.r ≤ 1000000) (c0 : 1 ≤ o.c) (c1 : o.c ≤ 4096) : Calls Try.prog 36 #[r.v, o.v] w (Yes (possB r o) w) := by
  by_cases h1 : 1000000 ≤ o.t.r + o.c
  · rw [show possB r o = false by simp [possB, h1]]; exact poss_0 r o w t0 t1 c0 c1 h1
  have h1' : o.t.r + o.c < 1000000 := by omega
  cases h2 : betterB o.t r.l
  · by_cases h3 : o.p = r.p
    · rw [show possB r o = decide (r.o.s ≤ o.t.s) by simp [possB, h1', h2, h3]]; exact poss_3 r o w t0 t1 c0 c1 h1' (Lib.hid h2) (by simp [h3])
    · rw [show possB r o = false by simp [possB, h2, h3]]; exact poss_2 r o w t0 t1 c0 c1 h1' (Lib.hid h2) (by simp [h3])
  · rw [show possB r o = true by simp [possB, h1', h2]]; exact poss_1 r o w t0 t1 c0 c1 h1' (Lib.hid h2)
theorem poss_at (r : Rt) (o : Ofr) (y : Bool) (w : World) (t0 : 0 ≤ o.t.r) (t1 : o.t.r ≤ 1000000) (c0 : 1 ≤ o.c) (c1 : o.c ≤ 4096) (hy : possB r o = y) : Calls Try.prog 36 #[r.v, o.v] w (Yes y w) := by rw [← hy]; exact poss_any r o w t0 t1 c0 c1
set_option maxRecDepth 100000 in
set_option maxHeartbeats 1000000 in
theorem rposs_0 (r : Rt) (o : Ofr) (w : World) (t0 : 0 ≤ o.t.r) (t1 : o.t.r ≤ 1000000) (c0 : 1 ≤ o.c) (c1 : o.c ≤ 4096) (h1 : 1000000 ≤ o.t.r + o.c) : Calls Try.prog 24 #[r.v, o.v] w (Yes false w) := by
  go_enter Try.func24, Try.ntmps24
  go_wp2_with fail
  all_goals
    go_ret
    exact ⟨rfl, ball (ball (Below.refl _ _) _) _⟩
set_option maxRecDepth 100000 in
set_option maxHeartbeats 1000000 in
theorem rposs_1 (r : Rt) (o : Ofr) (w : World) (t0 : 0 ≤ o.t.r) (t1 : o.t.r ≤ 1000000) (c0 : 1 ≤ o.c) (c1 : o.c ≤ 4096) (h1 : o.t.r + o.c < 1000000) (h2 : Hid (betterB o.t r.l = true)) : Calls Try.prog 24 #[r.v, o.v] w (Yes true w) := by
  go_enter Try.func24, Try.ntmps24
  go_wp2_with fail
  have Tt := CAt.new (w) [.int .i64 r.o.s, .int .i64 r.o.r, .int .i64 r.l.s, .int .i64 r.l.r, .int .i64 r.p] 25
  have BB : Below w.heap.size w ((w).alloc (.cells #[.int .i64 r.o.s, .int .i64 r.o.r, .int .i64 r.l.s, .int .i64 r.l.r, .int .i64 r.p] 25)) := ball (Below.refl _ _) _
  have Td := CAt.new (w.alloc (.cells #[.int .i64 r.o.s, .int .i64 r.o.r, .int .i64 r.l.s, .int .i64 r.l.r, .int .i64 r.p] 25)) [.int .i64 o.p, .int .i64 o.t.s, .int .i64 o.t.r, .int .i64 o.c] 40
  replace Tt := Tt.alloc (.cells #[.int .i64 o.p, .int .i64 o.t.s, .int .i64 o.t.r, .int .i64 o.c] 40)
  replace BB := ball BB (.cells #[.int .i64 o.p, .int .i64 o.t.s, .int .i64 o.t.r, .int .i64 o.c] 40)
  simp only [World.size_alloc, Nat.add_assoc, Nat.reduceAdd] at Td
  obtain ⟨V1, hV1⟩ : ∃ V1, (w.alloc (.cells #[.int .i64 r.o.s, .int .i64 r.o.r, .int .i64 r.l.s, .int .i64 r.l.r, .int .i64 r.p] 25)).alloc (.cells #[.int .i64 o.p, .int .i64 o.t.s, .int .i64 o.t.r, .int .i64 o.c] 40) = V1 := ⟨_, rfl⟩
  rw [hV1] at BB Tt Td ⊢
  clear hV1
  refine (rbetter_at o.t r.l _ _ h2.out).mono ?_
  rintro e w2 ⟨rfl, b2⟩
  replace Tt := Tt.keep b2
  replace Td := Td.keep b2
  replace BB := bstep BB b2
  clear b2
  have t0 := Tt 0 _ rfl
  have t1 := Tt 1 _ rfl
  have t2 := Tt 2 _ rfl
  have t3 := Tt 3 _ rfl
  have t4 := Tt 4 _ rfl
  have d0 := Td 0 _ rfl
  have d1 := Td 1 _ rfl
  have d2 := Td 2 _ rfl
  have d3 := Td 3 _ rfl
  go_wp2_with fail
  all_goals
    go_ret
    exact ⟨rfl, BB⟩
set_option maxRecDepth 100000 in
set_option maxHeartbeats 1000000 in
theorem rposs_2 (r : Rt) (o : Ofr) (w : World) (t0 : 0 ≤ o.t.r) (t1 : o.t.r ≤ 1000000) (c0 : 1 ≤ o.c) (c1 : o.c ≤ 4096) (h1 : o.t.r + o.c < 1000000) (h2 : Hid (betterB o.t r.l = false)) (h3 : (o.p == r.p) = false) : Calls Try.prog 24 #[r.v, o.v] w (Yes false w) := by
  go_enter Try.func24, Try.ntmps24
  go_wp2_with fail
  have Tt := CAt.new (w) [.int .i64 r.o.s, .int .i64 r.o.r, .int .i64 r.l.s, .int .i64 r.l.r, .int .i64 r.p] 25
  have BB : Below w.heap.size w ((w).alloc (.cells #[.int .i64 r.o.s, .int .i64 r.o.r, .int .i64 r.l.s, .int .i64 r.l.r, .int .i64 r.p] 25)) := ball (Below.refl _ _) _
  have Td := CAt.new (w.alloc (.cells #[.int .i64 r.o.s, .int .i64 r.o.r, .int .i64 r.l.s, .int .i64 r.l.r, .int .i64 r.p] 25)) [.int .i64 o.p, .int .i64 o.t.s, .int .i64 o.t.r, .int .i64 o.c] 40
  replace Tt := Tt.alloc (.cells #[.int .i64 o.p, .int .i64 o.t.s, .int .i64 o.t.r, .int .i64 o.c] 40)
  replace BB := ball BB (.cells #[.int .i64 o.p, .int .i64 o.t.s, .int .i64 o.t.r, .int .i64 o.c] 40)
  simp only [World.size_alloc, Nat.add_assoc, Nat.reduceAdd] at Td
  obtain ⟨V1, hV1⟩ : ∃ V1, (w.alloc (.cells #[.int .i64 r.o.s, .int .i64 r.o.r, .int .i64 r.l.s, .int .i64 r.l.r, .int .i64 r.p] 25)).alloc (.cells #[.int .i64 o.p, .int .i64 o.t.s, .int .i64 o.t.r, .int .i64 o.c] 40) = V1 := ⟨_, rfl⟩
  rw [hV1] at BB Tt Td ⊢
  clear hV1
  refine (rbetter_at o.t r.l _ _ h2.out).mono ?_
  rintro e w2 ⟨rfl, b2⟩
  replace Tt := Tt.keep b2
  replace Td := Td.keep b2
  replace BB := bstep BB b2
  clear b2
  have t0 := Tt 0 _ rfl
  have t1 := Tt 1 _ rfl
  have t2 := Tt 2 _ rfl
  have t3 := Tt 3 _ rfl
  have t4 := Tt 4 _ rfl
  have d0 := Td 0 _ rfl
  have d1 := Td 1 _ rfl
  have d2 := Td 2 _ rfl
  have d3 := Td 3 _ rfl
  go_wp2_with fail
  all_goals
    go_ret
    exact ⟨rfl, BB⟩
set_option maxRecDepth 100000 in
set_option maxHeartbeats 1000000 in
theorem rposs_3 (r : Rt) (o : Ofr) (w : World) (t0 : 0 ≤ o.t.r) (t1 : o.t.r ≤ 1000000) (c0 : 1 ≤ o.c) (c1 : o.c ≤ 4096) (h1 : o.t.r + o.c < 1000000) (h2 : Hid (betterB o.t r.l = false)) (h3 : (o.p == r.p) = true) : Calls Try.prog 24 #[r.v, o.v] w (Yes (decide (r.o.s ≤ o.t.s)) w) := by
  go_enter Try.func24, Try.ntmps24
  go_wp2_with fail
  have Tt := CAt.new (w) [.int .i64 r.o.s, .int .i64 r.o.r, .int .i64 r.l.s, .int .i64 r.l.r, .int .i64 r.p] 25
  have BB : Below w.heap.size w ((w).alloc (.cells #[.int .i64 r.o.s, .int .i64 r.o.r, .int .i64 r.l.s, .int .i64 r.l.r, .int .i64 r.p] 25)) := ball (Below.refl _ _) _
  have Td := CAt.new (w.alloc (.cells #[.int .i64 r.o.s, .int .i64 r.o.r, .int .i64 r.l.s, .int .i64 r.l.r, .int .i64 r.p] 25)) [.int .i64 o.p, .int .i64 o.t.s, .int .i64 o.t.r, .int .i64 o.c] 40
  replace Tt := Tt.alloc (.cells #[.int .i64 o.p, .int .i64 o.t.s, .int .i64 o.t.r, .int .i64 o.c] 40)
  replace BB := ball BB (.cells #[.int .i64 o.p, .int .i64 o.t.s, .int .i64 o.t.r, .int .i64 o.c] 40)
  simp only [World.size_alloc, Nat.add_assoc, Nat.reduceAdd] at Td
  obtain ⟨V1, hV1⟩ : ∃ V1, (w.alloc (.cells #[.int .i64 r.o.s, .int .i64 r.o.r, .int .i64 r.l.s, .int .i64 r.l.r, .int .i64 r.p] 25)).alloc (.cells #[.int .i64 o.p, .int .i64 o.t.s, .int .i64 o.t.r, .int .i64 o.c] 40) = V1 := ⟨_, rfl⟩
  rw [hV1] at BB Tt Td ⊢
  clear hV1
  refine (rbetter_at o.t r.l _ _ h2.out).mono ?_
  rintro e w2 ⟨rfl, b2⟩
  replace Tt := Tt.keep b2
  replace Td := Td.keep b2
  replace BB := bstep BB b2
  clear b2
  have t0 := Tt 0 _ rfl
  have t1 := Tt 1 _ rfl
  have t2 := Tt 2 _ rfl
  have t3 := Tt 3 _ rfl
  have t4 := Tt 4 _ rfl
  have d0 := Td 0 _ rfl
  have d1 := Td 1 _ rfl
  have d2 := Td 2 _ rfl
  have d3 := Td 3 _ rfl
  go_wp2_with fail
  all_goals
    go_ret
    exact ⟨rfl, BB⟩
theorem rposs_any (r : Rt) (o : Ofr) (w : World) (t0 : 0 ≤ o.t.r) (t1 : o.t.r ≤ 1000000) (c0 : 1 ≤ o.c) (c1 : o.c ≤ 4096) : Calls Try.prog 24 #[r.v, o.v] w (Yes (possB r o) w) := by
  by_cases h1 : 1000000 ≤ o.t.r + o.c
  · rw [show possB r o = false by simp [possB, h1]]; exact rposs_0 r o w t0 t1 c0 c1 h1
  have h1' : o.t.r + o.c < 1000000 := by omega
  cases h2 : betterB o.t r.l
  · by_cases h3 : o.p = r.p
    · rw [show possB r o = decide (r.o.s ≤ o.t.s) by simp [possB, h1', h2, h3]]; exact rposs_3 r o w t0 t1 c0 c1 h1' (Lib.hid h2) (by simp [h3])
    · rw [show possB r o = false by simp [possB, h2, h3]]; exact rposs_2 r o w t0 t1 c0 c1 h1' (Lib.hid h2) (by simp [h3])
  · rw [show possB r o = true by simp [possB, h1', h2]]; exact rposs_1 r o w t0 t1 c0 c1 h1' (Lib.hid h2)
theorem rposs_at (r : Rt) (o : Ofr) (y : Bool) (w : World) (t0 : 0 ≤ o.t.r) (t1 : o.t.r ≤ 1000000) (c0 : 1 ≤ o.c) (c1 : o.c ≤ 4096) (hy : possB r o = y) : Calls Try.prog 24 #[r.v, o.v] w (Yes y w) := by rw [← hy]; exact rposs_any r o w t0 t1 c0 c1
end Go.Proofs.Ytbonchnhngaicaa
