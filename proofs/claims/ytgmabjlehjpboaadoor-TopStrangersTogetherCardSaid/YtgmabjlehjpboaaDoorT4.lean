/- Proved: what it means that a word is formed. Conditions: none. -/
import Derived.Test.YtgmabjlehjpboaaDoorT3
namespace Go.Proofs.YtgmabjlehjpboaaDoor
open Go.RowKit Go.Sort Go.BigFrame Go.Proofs.YtgmabjlehjpboaaDoor.K
set_option linter.unusedVariables false
set_option linter.unusedSimpArgs false
attribute [local go_sem] cell_alloc_old

/-- A word of a join. -/
structure Wd where
  (k s p n c key f x : Int)
deriving DecidableEq, Inhabited
abbrev Wd.cs (w : Wd) : List Value := [.int .i64 w.k, .int .i64 w.s, .int .i64 w.p, .int .i64 w.n, .int .i64 w.c, .int .i64 w.key, .int .i64 w.f, .int .i64 w.x]
abbrev Wd.v (w : Wd) : Value := .agg #[.int .i64 w.k, .int .i64 w.s, .int .i64 w.p, .int .i64 w.n, .int .i64 w.c, .int .i64 w.key, .int .i64 w.f, .int .i64 w.x]
def formedB (w : Wd) : Bool := nodeB w.s && nodeB w.p && (w.s != w.p) && decide (0 ≤ min w.n w.c) && decide (max w.n w.c ≤ 1000000000) && decide (1 ≤ w.k) && decide (w.k ≤ 4)

set_option maxRecDepth 100000 in
set_option maxHeartbeats 4000000 in
theorem formed0 (x : Wd) (w : World) (h0 : nodeB x.s = false) : Calls Tryd.prog 50 #[x.v] w (Ans (.bool false) w) := by
  have H0 := Lib.hid h0; clear h0
  obtain ⟨k, s, p, n, c, key, f, y⟩ := x
  go_enter Tryd.func50, Tryd.ntmps50
  go_wp2_with fail
  have Tt := CAt.new (w) [.int .i64 k, .int .i64 s, .int .i64 p, .int .i64 n, .int .i64 c, .int .i64 key, .int .i64 f, .int .i64 y] 43
  have BB : Below w.heap.size w ((w).alloc (.cells #[.int .i64 k, .int .i64 s, .int .i64 p, .int .i64 n, .int .i64 c, .int .i64 key, .int .i64 f, .int .i64 y] 43)) := ball (Below.refl _ _) _
  obtain ⟨V1, hV1⟩ : ∃ V1, w.alloc (.cells #[.int .i64 k, .int .i64 s, .int .i64 p, .int .i64 n, .int .i64 c, .int .i64 key, .int .i64 f, .int .i64 y] 43) = V1 := ⟨_, rfl⟩
  rw [hV1] at BB Tt ⊢
  clear hV1
  have t0 := Tt 0 _ rfl
  have t1 := Tt 1 _ rfl
  have t2 := Tt 2 _ rfl
  have t3 := Tt 3 _ rfl
  have t4 := Tt 4 _ rfl
  have t5 := Tt 5 _ rfl
  have t6 := Tt 6 _ rfl
  have t7 := Tt 7 _ rfl
  go_wp2_with fail
  refine (node_at s false _ H0.out).mono ?_
  rintro e w' ⟨rfl, rfl⟩
  go_wp2_with fail
  go_ret
  exact ⟨rfl, BB⟩
set_option maxRecDepth 100000 in
set_option maxHeartbeats 4000000 in
theorem formed1 (x : Wd) (w : World) (h0 : nodeB x.s = true) (h1 : nodeB x.p = false) : Calls Tryd.prog 50 #[x.v] w (Ans (.bool false) w) := by
  have H0 := Lib.hid h0; clear h0
  have H1 := Lib.hid h1; clear h1
  obtain ⟨k, s, p, n, c, key, f, y⟩ := x
  go_enter Tryd.func50, Tryd.ntmps50
  go_wp2_with fail
  have Tt := CAt.new (w) [.int .i64 k, .int .i64 s, .int .i64 p, .int .i64 n, .int .i64 c, .int .i64 key, .int .i64 f, .int .i64 y] 43
  have BB : Below w.heap.size w ((w).alloc (.cells #[.int .i64 k, .int .i64 s, .int .i64 p, .int .i64 n, .int .i64 c, .int .i64 key, .int .i64 f, .int .i64 y] 43)) := ball (Below.refl _ _) _
  obtain ⟨V1, hV1⟩ : ∃ V1, w.alloc (.cells #[.int .i64 k, .int .i64 s, .int .i64 p, .int .i64 n, .int .i64 c, .int .i64 key, .int .i64 f, .int .i64 y] 43) = V1 := ⟨_, rfl⟩
  rw [hV1] at BB Tt ⊢
  clear hV1
  have t0 := Tt 0 _ rfl
  have t1 := Tt 1 _ rfl
  have t2 := Tt 2 _ rfl
  have t3 := Tt 3 _ rfl
  have t4 := Tt 4 _ rfl
  have t5 := Tt 5 _ rfl
  have t6 := Tt 6 _ rfl
  have t7 := Tt 7 _ rfl
  go_wp2_with fail
  refine (node_at s true _ H0.out).mono ?_
  rintro e w' ⟨rfl, rfl⟩
  go_wp2_with fail
  refine (node_at p false _ H1.out).mono ?_
  rintro e w' ⟨rfl, rfl⟩
  go_wp2_with fail
  go_ret
  exact ⟨rfl, BB⟩
set_option maxRecDepth 100000 in
set_option maxHeartbeats 4000000 in
theorem formed2 (x : Wd) (w : World) (h0 : nodeB x.s = true) (h1 : nodeB x.p = true) (h2 : (x.s != x.p) = false) : Calls Tryd.prog 50 #[x.v] w (Ans (.bool false) w) := by
  have H0 := Lib.hid h0; clear h0
  have H1 := Lib.hid h1; clear h1
  obtain ⟨k, s, p, n, c, key, f, y⟩ := x
  simp only at h2
  go_enter Tryd.func50, Tryd.ntmps50
  go_wp2_with fail
  have Tt := CAt.new (w) [.int .i64 k, .int .i64 s, .int .i64 p, .int .i64 n, .int .i64 c, .int .i64 key, .int .i64 f, .int .i64 y] 43
  have BB : Below w.heap.size w ((w).alloc (.cells #[.int .i64 k, .int .i64 s, .int .i64 p, .int .i64 n, .int .i64 c, .int .i64 key, .int .i64 f, .int .i64 y] 43)) := ball (Below.refl _ _) _
  obtain ⟨V1, hV1⟩ : ∃ V1, w.alloc (.cells #[.int .i64 k, .int .i64 s, .int .i64 p, .int .i64 n, .int .i64 c, .int .i64 key, .int .i64 f, .int .i64 y] 43) = V1 := ⟨_, rfl⟩
  rw [hV1] at BB Tt ⊢
  clear hV1
  have t0 := Tt 0 _ rfl
  have t1 := Tt 1 _ rfl
  have t2 := Tt 2 _ rfl
  have t3 := Tt 3 _ rfl
  have t4 := Tt 4 _ rfl
  have t5 := Tt 5 _ rfl
  have t6 := Tt 6 _ rfl
  have t7 := Tt 7 _ rfl
  go_wp2_with fail
  refine (node_at s true _ H0.out).mono ?_
  rintro e w' ⟨rfl, rfl⟩
  go_wp2_with fail
  refine (node_at p true _ H1.out).mono ?_
  rintro e w' ⟨rfl, rfl⟩
  go_wp2_with fail
  go_ret
  exact ⟨rfl, BB⟩
set_option maxRecDepth 100000 in
set_option maxHeartbeats 4000000 in
theorem formed3 (x : Wd) (w : World) (h0 : nodeB x.s = true) (h1 : nodeB x.p = true) (h2 : (x.s != x.p) = true) (h3 : ¬ 0 ≤ min x.n x.c) : Calls Tryd.prog 50 #[x.v] w (Ans (.bool false) w) := by
  have H0 := Lib.hid h0; clear h0
  have H1 := Lib.hid h1; clear h1
  obtain ⟨k, s, p, n, c, key, f, y⟩ := x
  simp only at h2 h3
  go_enter Tryd.func50, Tryd.ntmps50
  go_wp2_with fail
  have Tt := CAt.new (w) [.int .i64 k, .int .i64 s, .int .i64 p, .int .i64 n, .int .i64 c, .int .i64 key, .int .i64 f, .int .i64 y] 43
  have BB : Below w.heap.size w ((w).alloc (.cells #[.int .i64 k, .int .i64 s, .int .i64 p, .int .i64 n, .int .i64 c, .int .i64 key, .int .i64 f, .int .i64 y] 43)) := ball (Below.refl _ _) _
  obtain ⟨V1, hV1⟩ : ∃ V1, w.alloc (.cells #[.int .i64 k, .int .i64 s, .int .i64 p, .int .i64 n, .int .i64 c, .int .i64 key, .int .i64 f, .int .i64 y] 43) = V1 := ⟨_, rfl⟩
  rw [hV1] at BB Tt ⊢
  clear hV1
  have t0 := Tt 0 _ rfl
  have t1 := Tt 1 _ rfl
  have t2 := Tt 2 _ rfl
  have t3 := Tt 3 _ rfl
  have t4 := Tt 4 _ rfl
  have t5 := Tt 5 _ rfl
  have t6 := Tt 6 _ rfl
  have t7 := Tt 7 _ rfl
  go_wp2_with fail
  refine (node_at s true _ H0.out).mono ?_
  rintro e w' ⟨rfl, rfl⟩
  go_wp2_with fail
  refine (node_at p true _ H1.out).mono ?_
  rintro e w' ⟨rfl, rfl⟩
  go_wp2_with fail
  go_ret
  exact ⟨rfl, BB⟩
set_option maxRecDepth 100000 in
set_option maxHeartbeats 4000000 in
theorem formed4 (x : Wd) (w : World) (h0 : nodeB x.s = true) (h1 : nodeB x.p = true) (h2 : (x.s != x.p) = true) (h3 : 0 ≤ min x.n x.c) (h4 : ¬ max x.n x.c ≤ 1000000000) : Calls Tryd.prog 50 #[x.v] w (Ans (.bool false) w) := by
  have H0 := Lib.hid h0; clear h0
  have H1 := Lib.hid h1; clear h1
  obtain ⟨k, s, p, n, c, key, f, y⟩ := x
  simp only at h2 h3 h4
  go_enter Tryd.func50, Tryd.ntmps50
  go_wp2_with fail
  have Tt := CAt.new (w) [.int .i64 k, .int .i64 s, .int .i64 p, .int .i64 n, .int .i64 c, .int .i64 key, .int .i64 f, .int .i64 y] 43
  have BB : Below w.heap.size w ((w).alloc (.cells #[.int .i64 k, .int .i64 s, .int .i64 p, .int .i64 n, .int .i64 c, .int .i64 key, .int .i64 f, .int .i64 y] 43)) := ball (Below.refl _ _) _
  obtain ⟨V1, hV1⟩ : ∃ V1, w.alloc (.cells #[.int .i64 k, .int .i64 s, .int .i64 p, .int .i64 n, .int .i64 c, .int .i64 key, .int .i64 f, .int .i64 y] 43) = V1 := ⟨_, rfl⟩
  rw [hV1] at BB Tt ⊢
  clear hV1
  have t0 := Tt 0 _ rfl
  have t1 := Tt 1 _ rfl
  have t2 := Tt 2 _ rfl
  have t3 := Tt 3 _ rfl
  have t4 := Tt 4 _ rfl
  have t5 := Tt 5 _ rfl
  have t6 := Tt 6 _ rfl
  have t7 := Tt 7 _ rfl
  go_wp2_with fail
  refine (node_at s true _ H0.out).mono ?_
  rintro e w' ⟨rfl, rfl⟩
  go_wp2_with fail
  refine (node_at p true _ H1.out).mono ?_
  rintro e w' ⟨rfl, rfl⟩
  go_wp2_with fail
  go_ret
  exact ⟨rfl, BB⟩
set_option maxRecDepth 100000 in
set_option maxHeartbeats 4000000 in
theorem formed5 (x : Wd) (w : World) (h0 : nodeB x.s = true) (h1 : nodeB x.p = true) (h2 : (x.s != x.p) = true) (h3 : 0 ≤ min x.n x.c) (h4 : max x.n x.c ≤ 1000000000) (h5 : ¬ 1 ≤ x.k) : Calls Tryd.prog 50 #[x.v] w (Ans (.bool false) w) := by
  have H0 := Lib.hid h0; clear h0
  have H1 := Lib.hid h1; clear h1
  obtain ⟨k, s, p, n, c, key, f, y⟩ := x
  simp only at h2 h3 h4 h5
  go_enter Tryd.func50, Tryd.ntmps50
  go_wp2_with fail
  have Tt := CAt.new (w) [.int .i64 k, .int .i64 s, .int .i64 p, .int .i64 n, .int .i64 c, .int .i64 key, .int .i64 f, .int .i64 y] 43
  have BB : Below w.heap.size w ((w).alloc (.cells #[.int .i64 k, .int .i64 s, .int .i64 p, .int .i64 n, .int .i64 c, .int .i64 key, .int .i64 f, .int .i64 y] 43)) := ball (Below.refl _ _) _
  obtain ⟨V1, hV1⟩ : ∃ V1, w.alloc (.cells #[.int .i64 k, .int .i64 s, .int .i64 p, .int .i64 n, .int .i64 c, .int .i64 key, .int .i64 f, .int .i64 y] 43) = V1 := ⟨_, rfl⟩
  rw [hV1] at BB Tt ⊢
  clear hV1
  have t0 := Tt 0 _ rfl
  have t1 := Tt 1 _ rfl
  have t2 := Tt 2 _ rfl
  have t3 := Tt 3 _ rfl
  have t4 := Tt 4 _ rfl
  have t5 := Tt 5 _ rfl
  have t6 := Tt 6 _ rfl
  have t7 := Tt 7 _ rfl
  go_wp2_with fail
  refine (node_at s true _ H0.out).mono ?_
  rintro e w' ⟨rfl, rfl⟩
  go_wp2_with fail
  refine (node_at p true _ H1.out).mono ?_
  rintro e w' ⟨rfl, rfl⟩
  go_wp2_with fail
  go_ret
  exact ⟨rfl, BB⟩
set_option maxRecDepth 100000 in
set_option maxHeartbeats 4000000 in
theorem formed6 (x : Wd) (w : World) (h0 : nodeB x.s = true) (h1 : nodeB x.p = true) (h2 : (x.s != x.p) = true) (h3 : 0 ≤ min x.n x.c) (h4 : max x.n x.c ≤ 1000000000) (h5 : 1 ≤ x.k) (h6 : ¬ x.k ≤ 4) : Calls Tryd.prog 50 #[x.v] w (Ans (.bool false) w) := by
  have H0 := Lib.hid h0; clear h0
  have H1 := Lib.hid h1; clear h1
  obtain ⟨k, s, p, n, c, key, f, y⟩ := x
  simp only at h2 h3 h4 h5 h6
  go_enter Tryd.func50, Tryd.ntmps50
  go_wp2_with fail
  have Tt := CAt.new (w) [.int .i64 k, .int .i64 s, .int .i64 p, .int .i64 n, .int .i64 c, .int .i64 key, .int .i64 f, .int .i64 y] 43
  have BB : Below w.heap.size w ((w).alloc (.cells #[.int .i64 k, .int .i64 s, .int .i64 p, .int .i64 n, .int .i64 c, .int .i64 key, .int .i64 f, .int .i64 y] 43)) := ball (Below.refl _ _) _
  obtain ⟨V1, hV1⟩ : ∃ V1, w.alloc (.cells #[.int .i64 k, .int .i64 s, .int .i64 p, .int .i64 n, .int .i64 c, .int .i64 key, .int .i64 f, .int .i64 y] 43) = V1 := ⟨_, rfl⟩
  rw [hV1] at BB Tt ⊢
  clear hV1
  have t0 := Tt 0 _ rfl
  have t1 := Tt 1 _ rfl
  have t2 := Tt 2 _ rfl
  have t3 := Tt 3 _ rfl
  have t4 := Tt 4 _ rfl
  have t5 := Tt 5 _ rfl
  have t6 := Tt 6 _ rfl
  have t7 := Tt 7 _ rfl
  go_wp2_with fail
  refine (node_at s true _ H0.out).mono ?_
  rintro e w' ⟨rfl, rfl⟩
  go_wp2_with fail
  refine (node_at p true _ H1.out).mono ?_
  rintro e w' ⟨rfl, rfl⟩
  go_wp2_with fail
  go_ret
  exact ⟨by first | rfl | (rw [decide_eq_false (show ¬ k ≤ 4 by omega)]; rfl), BB⟩
set_option maxRecDepth 100000 in
set_option maxHeartbeats 4000000 in
theorem formed7 (x : Wd) (w : World) (h0 : nodeB x.s = true) (h1 : nodeB x.p = true) (h2 : (x.s != x.p) = true) (h3 : 0 ≤ min x.n x.c) (h4 : max x.n x.c ≤ 1000000000) (h5 : 1 ≤ x.k) (h6 : x.k ≤ 4) : Calls Tryd.prog 50 #[x.v] w (Ans (.bool true) w) := by
  have H0 := Lib.hid h0; clear h0
  have H1 := Lib.hid h1; clear h1
  obtain ⟨k, s, p, n, c, key, f, y⟩ := x
  simp only at h2 h3 h4 h5 h6
  go_enter Tryd.func50, Tryd.ntmps50
  go_wp2_with fail
  have Tt := CAt.new (w) [.int .i64 k, .int .i64 s, .int .i64 p, .int .i64 n, .int .i64 c, .int .i64 key, .int .i64 f, .int .i64 y] 43
  have BB : Below w.heap.size w ((w).alloc (.cells #[.int .i64 k, .int .i64 s, .int .i64 p, .int .i64 n, .int .i64 c, .int .i64 key, .int .i64 f, .int .i64 y] 43)) := ball (Below.refl _ _) _
  obtain ⟨V1, hV1⟩ : ∃ V1, w.alloc (.cells #[.int .i64 k, .int .i64 s, .int .i64 p, .int .i64 n, .int .i64 c, .int .i64 key, .int .i64 f, .int .i64 y] 43) = V1 := ⟨_, rfl⟩
  rw [hV1] at BB Tt ⊢
  clear hV1
  have t0 := Tt 0 _ rfl
  have t1 := Tt 1 _ rfl
  have t2 := Tt 2 _ rfl
  have t3 := Tt 3 _ rfl
  have t4 := Tt 4 _ rfl
  have t5 := Tt 5 _ rfl
  have t6 := Tt 6 _ rfl
  have t7 := Tt 7 _ rfl
  go_wp2_with fail
  refine (node_at s true _ H0.out).mono ?_
  rintro e w' ⟨rfl, rfl⟩
  go_wp2_with fail
  refine (node_at p true _ H1.out).mono ?_
  rintro e w' ⟨rfl, rfl⟩
  go_wp2_with fail
  go_ret
  exact ⟨rfl, BB⟩
theorem formed_at (x : Wd) (y : Bool) (w : World) (hy : formedB x = y) : Calls Tryd.prog 50 #[x.v] w (Ans (.bool y) w) := by
  subst hy
  unfold formedB
  cases h0 : nodeB x.s
  · exact formed0 x w h0
  cases h1 : nodeB x.p
  · exact formed1 x w h0 h1
  cases h2 : (x.s != x.p)
  · exact formed2 x w h0 h1 h2
  by_cases h3 : ¬ 0 ≤ min x.n x.c
  · rw [decide_eq_false h3]; simpa using formed3 x w h0 h1 h2 h3
  replace h3 := Decidable.not_not.1 h3
  by_cases h4 : ¬ max x.n x.c ≤ 1000000000
  · rw [decide_eq_false h4]; simpa using formed4 x w h0 h1 h2 h3 h4
  replace h4 := Decidable.not_not.1 h4
  by_cases h5 : ¬ 1 ≤ x.k
  · rw [decide_eq_false h5]; simpa using formed5 x w h0 h1 h2 h3 h4 h5
  replace h5 := Decidable.not_not.1 h5
  by_cases h6 : ¬ x.k ≤ 4
  · rw [decide_eq_false h6]; simpa using formed6 x w h0 h1 h2 h3 h4 h5 h6
  replace h6 := Decidable.not_not.1 h6
  rw [decide_eq_true h3, decide_eq_true h4, decide_eq_true h5, decide_eq_true h6]
  exact formed7 x w h0 h1 h2 h3 h4 h5 h6
end Go.Proofs.YtgmabjlehjpboaaDoor
