/- Proved: what the functions in, isFrame, isSeed of package trickle and Frame of its reference return. Conditions: none. -/
import Derived.Test.YteeajkopigdblaaDoorT0
import Derived.Test.YteeajkopigdblaaDoorOwn2
import Derived.Test.YteeajkopigdblaaDoorLate
namespace Go.Proofs.YteeajkopigdblaaDoor
open Go.RowKit Go.Sort Go.BigFrame Go.Proofs.YteeajkopigdblaaDoor.K
set_option linter.unusedVariables false
set_option linter.unusedSimpArgs false
attribute [local go_sem] cell_alloc_old

abbrev Tk.v (t : Tk) : Value := .agg #[.int .i64 t.i, .int .i64 t.b, .int .i64 t.f, .int .i64 t.c, .int .i64 t.s]

theorem in_any (n l h : Int) (w : World) : Calls Tryd.prog 28 #[.int .i64 n, .int .i64 l, .int .i64 h] w fun e w' => e = .returned (.bool (decide (l ≤ n) && decide (n ≤ h))) ∧ w = w' := by
  by_cases h0 : l ≤ n
  · go_enter Tryd.func28, Tryd.ntmps28
    go_wp2
    go_ret
    exact ⟨by simp [h0], rfl⟩
  · go_enter Tryd.func28, Tryd.ntmps28
    go_wp2
    go_ret
    exact ⟨by simp; omega, rfl⟩
theorem in_at (n l h : Int) (b : Bool) (w : World) (hb : (decide (l ≤ n) && decide (n ≤ h)) = b) : Calls Tryd.prog 28 #[.int .i64 n, .int .i64 l, .int .i64 h] w fun e w' => e = .returned (.bool b) ∧ w = w' := by
  rw [← hb]; exact in_any n l h w
theorem frame_at (n : Int) (b : Bool) (w : World) (hb : frameB n = b) : Calls Tryd.prog 24 #[.int .i64 n] w fun e w' => e = .returned (.bool b) ∧ w = w' := by
  go_enter Tryd.func24, Tryd.ntmps24
  go_wp2_with fail
  refine (in_at n 0 999999984 b _ hb).mono ?_
  rintro e w1 ⟨rfl, rfl⟩
  go_wp2
  go_ret
  exact ⟨rfl, rfl⟩
theorem seed_at (n : Int) (b : Bool) (w : World) (hb : seedB n = b) : Calls Tryd.prog 26 #[.int .i64 n] w fun e w' => e = .returned (.bool b) ∧ w = w' := by
  go_enter Tryd.func26, Tryd.ntmps26
  go_wp2_with fail
  refine (in_at n 0 1000000000 b _ hb).mono ?_
  rintro e w1 ⟨rfl, rfl⟩
  go_wp2
  go_ret
  exact ⟨rfl, rfl⟩
theorem rframe_any (n : Int) (w : World) : Calls Tryd.prog 16 #[.int .i64 n] w fun e w' => e = .returned (.bool (frameB n)) ∧ w = w' := by
  by_cases h0 : 0 ≤ n
  · go_enter Tryd.func16, Tryd.ntmps16
    go_wp2
    go_ret
    exact ⟨by simp [h0, frameB], rfl⟩
  · go_enter Tryd.func16, Tryd.ntmps16
    go_wp2
    go_ret
    exact ⟨by simp [frameB]; omega, rfl⟩
theorem rframe_at (n : Int) (b : Bool) (w : World) (hb : frameB n = b) : Calls Tryd.prog 16 #[.int .i64 n] w fun e w' => e = .returned (.bool b) ∧ w = w' := by
  rw [← hb]; exact rframe_any n w
end Go.Proofs.YteeajkopigdblaaDoor
