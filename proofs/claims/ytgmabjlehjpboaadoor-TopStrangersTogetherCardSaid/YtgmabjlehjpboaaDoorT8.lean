/- Proved: what the root says of whatever word; whether something is a word of a join. Conditions: none. -/
import Derived.Test.YtgmabjlehjpboaaDoorT7
namespace Go.Proofs.YtgmabjlehjpboaaDoor
open Go.RowKit Go.Sort Go.BigFrame Go.Proofs.YtgmabjlehjpboaaDoor.K
set_option linter.unusedVariables false
set_option linter.unusedSimpArgs false
attribute [local go_sem] cell_alloc_old

def judgeE (x : Wd) (a b : Int) : Int := if formedB x = true then (if a < 0 then 1 else if b ≤ a then 1 else if 1000000000 < b then 1 else if (x.k != 3) = true then 9 else if (x.key != 1000000 + x.s) = true then 13 else 0) else 1
def judgeV (x : Wd) (a b : Int) : Wd := if judgeE x a b = 0 then ⟨4, x.s, x.p, x.n, 0, x.key, a, b⟩ else zWd
theorem formed_node {x : Wd} (h : formedB x = true) : nodeB x.s = true := by
  unfold formedB at h
  simp only [Bool.and_eq_true] at h
  exact h.1.1.1.1.1.1
theorem judge_any (x : Wd) (a b : Int) (w : World) : Calls Tryd.prog 24 #[x.v, .agg #[.int .i64 a, .int .i64 b]] w (Ans (.tuple #[(judgeV x a b).v, .int .i64 (judgeE x a b)]) w) := by
  obtain ⟨k, s, p, n, c, key, f, y⟩ := x
  cases h : formedB ⟨k, s, p, n, c, key, f, y⟩
  · have e : judgeE ⟨k, s, p, n, c, key, f, y⟩ a b = 1 := by simp [judgeE, h]
    rw [show judgeV ⟨k, s, p, n, c, key, f, y⟩ a b = zWd by simp [judgeV, e], e]
    exact judge_a k s p n c key f y a b w h
  have hn : nodeB s = true := formed_node h
  by_cases h0 : a < 0
  · have e : judgeE ⟨k, s, p, n, c, key, f, y⟩ a b = 1 := by simp [judgeE, h, h0]
    rw [show judgeV ⟨k, s, p, n, c, key, f, y⟩ a b = zWd by simp [judgeV, e], e]
    exact judge_b1 k s p n c key f y a b w h h0
  by_cases h1 : b ≤ a
  · have e : judgeE ⟨k, s, p, n, c, key, f, y⟩ a b = 1 := by simp [judgeE, h, h0, h1]
    rw [show judgeV ⟨k, s, p, n, c, key, f, y⟩ a b = zWd by simp [judgeV, e], e]
    exact judge_b2 k s p n c key f y a b w h h0 h1
  by_cases h2 : 1000000000 < b
  · have e : judgeE ⟨k, s, p, n, c, key, f, y⟩ a b = 1 := by simp [judgeE, h, h0, h1, h2]
    rw [show judgeV ⟨k, s, p, n, c, key, f, y⟩ a b = zWd by simp [judgeV, e], e]
    exact judge_b3 k s p n c key f y a b w h h0 h1 h2
  cases h3 : (k != 3)
  rotate_left
  · have e : judgeE ⟨k, s, p, n, c, key, f, y⟩ a b = 9 := by simp only [judgeE, h, h0, h1, h2, h3, if_true, if_false]
    rw [show judgeV ⟨k, s, p, n, c, key, f, y⟩ a b = zWd by simp [judgeV, e], e]
    exact judge_c k s p n c key f y a b w h h0 h1 h2 h3 hn
  cases h4 : (key != 1000000 + s)
  rotate_left
  · have e : judgeE ⟨k, s, p, n, c, key, f, y⟩ a b = 13 := by simp only [judgeE, h, h0, h1, h2, h3, h4, if_true, if_false, Bool.false_eq_true]
    rw [show judgeV ⟨k, s, p, n, c, key, f, y⟩ a b = zWd by simp [judgeV, e], e]
    exact judge_d k s p n c key f y a b w h h0 h1 h2 h3 hn h4
  have e : judgeE ⟨k, s, p, n, c, key, f, y⟩ a b = 0 := by simp only [judgeE, h, h0, h1, h2, h3, h4, if_true, if_false, Bool.false_eq_true]
  rw [show judgeV ⟨k, s, p, n, c, key, f, y⟩ a b = ⟨4, s, p, n, 0, key, a, b⟩ by simp [judgeV, e], e]
  exact judge_e k s p n c key f y a b w h h0 h1 h2 h3 hn h4
theorem judge_at (x : Wd) (a b : Int) (v : Wd) (e : Int) (w : World) (hv : judgeV x a b = v) (he : judgeE x a b = e) : Calls Tryd.prog 24 #[x.v, .agg #[.int .i64 a, .int .i64 b]] w (Ans (.tuple #[v.v, .int .i64 e]) w) := by
  subst hv; subst he; exact judge_any x a b w
theorem judge_ne (x : Wd) : (judgeE x 0 1 != 1) = formedB x := by
  unfold judgeE
  cases formedB x
  · rfl
  · simp only [if_true]
    cases (x.k != 3)
    · cases (x.key != 1000000 + x.s) <;> rfl
    · rfl
set_option maxRecDepth 100000 in
set_option maxHeartbeats 4000000 in
theorem isword_at (x : Wd) (y : Bool) (w : World) (hy : formedB x = y) : Calls Tryd.prog 30 #[x.v] w (Ans (.bool y) w) := by
  obtain ⟨e, he⟩ : ∃ e, judgeE x 0 1 = e := ⟨_, rfl⟩
  have hne : (e != 1) = y := by rw [← he, judge_ne, hy]
  have HE := Lib.hid he; clear he hy
  obtain ⟨v, hv⟩ : ∃ v, judgeV x 0 1 = v := ⟨_, rfl⟩
  have HV := Lib.hid hv; clear hv
  obtain ⟨k, s, p, n, c, key, f, z⟩ := x
  go_enter Tryd.func30, Tryd.ntmps30
  go_wp2_with fail
  have Tt := CAt.new (w) [.int .i64 k, .int .i64 s, .int .i64 p, .int .i64 n, .int .i64 c, .int .i64 key, .int .i64 f, .int .i64 z] 43
  have BB : Below w.heap.size w ((w).alloc (.cells #[.int .i64 k, .int .i64 s, .int .i64 p, .int .i64 n, .int .i64 c, .int .i64 key, .int .i64 f, .int .i64 z] 43)) := ball (Below.refl _ _) _
  obtain ⟨V1, hV1⟩ : ∃ V1, w.alloc (.cells #[.int .i64 k, .int .i64 s, .int .i64 p, .int .i64 n, .int .i64 c, .int .i64 key, .int .i64 f, .int .i64 z] 43) = V1 := ⟨_, rfl⟩
  rw [hV1] at BB Tt ⊢
  clear hV1
  have t0 := Tt 0 _ rfl
  have t1 := Tt 1 _ rfl
  have t2 := Tt 2 _ rfl
  have t3 := Tt 3 _ rfl
  have t4 := Tt 4 _ rfl
  have t5 := Tt 5 _ rfl
  have t6 := Tt 6 _ rfl
  have t7 := Tt 7 _ rfl
  go_wp2_with fail
  refine (judge_at ⟨k, s, p, n, c, key, f, z⟩ 0 1 v e V1 HV.out HE.out).mono ?_
  clear t0 t1 t2 t3 t4 t5 t6 t7
  rintro e w2 ⟨rfl, b2⟩
  replace Tt := Tt.keep b2
  replace BB := bstep BB b2
  clear b2
  go_wp2_with fail
  go_ret
  exact ⟨rfl, ball BB _⟩
end Go.Proofs.YtgmabjlehjpboaaDoor
