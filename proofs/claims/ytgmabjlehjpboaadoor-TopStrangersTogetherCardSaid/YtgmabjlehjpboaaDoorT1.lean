/- Proved: what the small functions of packages seal, join and sponsor return: whether a number is that of a node or of a slot, the keys. Conditions: none. -/
import Derived.Test.YtgmabjlehjpboaaDoorKR
import Derived.Test.YtgmabjlehjpboaaDoorBox
import Derived.Test.YtgmabjlehjpboaaDoorLate
namespace Go.Proofs.YtgmabjlehjpboaaDoor
open Go.RowKit Go.Sort Go.BigFrame Go.Proofs.YtgmabjlehjpboaaDoor.K
set_option linter.unusedVariables false
set_option linter.unusedSimpArgs false
attribute [local go_sem] cell_alloc_old

/-- A call that only computes. -/
abbrev Pure (v : Value) (w : World) (e : Ending) (w' : World) : Prop := e = .returned v ∧ w = w'
def inB (n h : Int) : Bool := decide (0 ≤ n ∧ n ≤ h)
def nodeB (n : Int) : Bool := decide (0 ≤ n ∧ n < 60)
theorem in_any (n h : Int) (w : World) : Calls Tryd.prog 31 #[.int .i64 n, .int .i64 h] w (Pure (.bool (inB n h)) w) := by
  unfold inB
  go_enter Tryd.func31, Tryd.ntmps31
  go_wp2_with fail
  all_goals
    go_ret
    exact ⟨by simp [*] <;> omega, rfl⟩
theorem in_at (n h : Int) (y : Bool) (w : World) (hy : inB n h = y) : Calls Tryd.prog 31 #[.int .i64 n, .int .i64 h] w (Pure (.bool y) w) := by rw [← hy]; exact in_any n h w
theorem inB_node (n : Int) : inB n 59 = nodeB n := by unfold inB nodeB; congr 1; rw [eq_iff_iff]; omega
theorem isnode_at (n : Int) (y : Bool) (w : World) (hy : nodeB n = y) : Calls Tryd.prog 56 #[.int .i64 n] w (Pure (.bool y) w) := by
  have H := Lib.hid (show inB n 59 = y from by rw [inB_node]; exact hy)
  clear hy
  go_enter Tryd.func56, Tryd.ntmps56
  go_wp2_with fail
  refine (in_at n 59 y w H.out).mono ?_
  rintro e w' ⟨rfl, rfl⟩
  go_wp2_with fail
  go_ret
  exact ⟨rfl, rfl⟩
theorem node_any (n : Int) (w : World) : Calls Tryd.prog 47 #[.int .i64 n] w (Pure (.bool (nodeB n)) w) := by
  unfold nodeB
  go_enter Tryd.func47, Tryd.ntmps47
  go_wp2_with fail
  all_goals
    go_ret
    exact ⟨by simp [*] <;> omega, rfl⟩
theorem node_at (n : Int) (y : Bool) (w : World) (hy : nodeB n = y) : Calls Tryd.prog 47 #[.int .i64 n] w (Pure (.bool y) w) := by rw [← hy]; exact node_any n w
theorem slot_any (n : Int) (w : World) : Calls Tryd.prog 58 #[.int .i64 n] w (Pure (.bool (slotN n)) w) := by
  unfold slotN
  go_enter Tryd.func58, Tryd.ntmps58
  go_wp2_with fail
  all_goals
    go_ret
    exact ⟨by simp [*] <;> omega, rfl⟩
theorem slot_at (n : Int) (y : Bool) (w : World) (hy : slotN n = y) : Calls Tryd.prog 58 #[.int .i64 n] w (Pure (.bool y) w) := by rw [← hy]; exact slot_any n w
theorem unless_at (b : Bool) (n : Int) (w : World) : Calls Tryd.prog 42 #[.bool b, .int .i64 n] w (Pure (.int .i64 (if b = true then 0 else n)) w) := by
  cases b
  all_goals
    go_enter Tryd.func42, Tryd.ntmps42
    go_wp2_with fail
    go_ret
    exact ⟨rfl, rfl⟩
theorem of_at (n : Int) (w : World) (h0 : 0 ≤ n) (h1 : n ≤ 1000000000) : Calls Tryd.prog 38 #[.int .i64 n] w (Pure (.int .i64 (n / 2000)) w) := by
  have e3 : n.tdiv 2000 = n / 2000 := Int.tdiv_eq_ediv_of_nonneg h0
  go_enter Tryd.func38, Tryd.ntmps38
  go_wp2_with fail
  go_ret
  exact ⟨rfl, rfl⟩
end Go.Proofs.YtgmabjlehjpboaaDoor
