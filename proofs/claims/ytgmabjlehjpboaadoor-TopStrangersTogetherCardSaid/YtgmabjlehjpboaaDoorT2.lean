/- Proved: what the own key of a node and the key of a slot are. Conditions: those that each theorem names. -/
import Derived.Test.YtgmabjlehjpboaaDoorT1
namespace Go.Proofs.YtgmabjlehjpboaaDoor
open Go.RowKit Go.Sort Go.BigFrame Go.Proofs.YtgmabjlehjpboaaDoor.K
set_option linter.unusedVariables false
set_option linter.unusedSimpArgs false
attribute [local go_sem] cell_alloc_old
theorem onum_at (n : Int) (w : World) (h0 : 0 ≤ n) (h1 : n < 60) : Calls Tryd.prog 105 #[.int .i64 n] w (Pure (.int .i64 (1000000 + n)) w) := by
  go_enter Tryd.func105, Tryd.ntmps105
  go_wp2_with fail
  go_ret
  exact ⟨rfl, rfl⟩
theorem enum_at (n : Int) (w : World) (h0 : 0 ≤ n) (h1 : n ≤ 500000) : Calls Tryd.prog 44 #[.int .i64 n] w (Pure (.int .i64 (n + 1)) w) := by
  go_enter Tryd.func44, Tryd.ntmps44
  go_wp2_with fail
  go_ret
  exact ⟨rfl, rfl⟩
theorem m_own (n : Int) (w : World) : (method 257 110 (.int .i64 n) "slotmesh/seal.number").run Tryd.prog w = .ok (105, .int .i64 n) w := by kernel_rfl
theorem m_ep (n : Int) (w : World) : (method 257 87 (.int .i64 n) "slotmesh/seal.number").run Tryd.prog w = .ok (44, .int .i64 n) w := by kernel_rfl
set_option maxRecDepth 100000 in
theorem checked_own (n : Int) (w : World) (h0 : 0 ≤ n) (h1 : n < 60) : Calls Tryd.prog 57 #[.iface 110 (.int .i64 n), .bool true] w (Pure (.tuple #[.int .i64 (1000000 + n), .int .i64 0]) w) := by
  have hm := m_own n
  go_enter Tryd.func57, Tryd.ntmps57
  go_wp2_with fail
  refine (onum_at n w h0 h1).mono ?_
  rintro e w' ⟨rfl, rfl⟩
  go_wp2_with fail
  go_ret2
  exact ⟨rfl, rfl⟩
theorem checked_own_no (n : Int) (w : World) : Calls Tryd.prog 57 #[.iface 110 (.int .i64 n), .bool false] w (Pure (.tuple #[.int .i64 0, .int .i64 1]) w) := by
  go_enter Tryd.func57, Tryd.ntmps57
  go_wp2_with fail
  go_ret2
  exact ⟨rfl, rfl⟩
set_option maxRecDepth 100000 in
theorem checked_ep (n : Int) (w : World) (h0 : 0 ≤ n) (h1 : n ≤ 500000) : Calls Tryd.prog 57 #[.iface 87 (.int .i64 n), .bool true] w (Pure (.tuple #[.int .i64 (n + 1), .int .i64 0]) w) := by
  have hm := m_ep n
  go_enter Tryd.func57, Tryd.ntmps57
  go_wp2_with fail
  refine (enum_at n w h0 h1).mono ?_
  rintro e w' ⟨rfl, rfl⟩
  go_wp2_with fail
  go_ret2
  exact ⟨rfl, rfl⟩
theorem checked_ep_no (n : Int) (w : World) : Calls Tryd.prog 57 #[.iface 87 (.int .i64 n), .bool false] w (Pure (.tuple #[.int .i64 0, .int .i64 1]) w) := by
  go_enter Tryd.func57, Tryd.ntmps57
  go_wp2_with fail
  go_ret2
  exact ⟨rfl, rfl⟩
theorem own_yes (n : Int) (w : World) (h : nodeB n = true) : Calls Tryd.prog 49 #[.int .i64 n] w (Pure (.tuple #[.int .i64 (1000000 + n), .int .i64 0]) w) := by
  have h' : 0 ≤ n ∧ n < 60 := by simpa [nodeB] using h
  obtain ⟨h0, h1⟩ := h'
  clear h
  go_enter Tryd.func49, Tryd.ntmps49
  go_wp2_with fail
  refine (checked_own n w h0 h1).mono ?_
  rintro e w' ⟨rfl, rfl⟩
  go_wp2_with fail
  go_ret2
  exact ⟨rfl, rfl⟩
theorem own_no (n : Int) (w : World) (h : nodeB n = false) : Calls Tryd.prog 49 #[.int .i64 n] w (Pure (.tuple #[.int .i64 0, .int .i64 1]) w) := by
  have h' : 0 ≤ n → ¬ n < 60 := by simpa [nodeB] using h
  clear h
  go_enter Tryd.func49, Tryd.ntmps49
  by_cases h0 : 0 ≤ n
  · have h1 := h' h0
    clear h'
    go_wp2_with fail
    refine (checked_own_no n w).mono ?_
    rintro e w' ⟨rfl, rfl⟩
    go_wp2_with fail
    go_ret2
    exact ⟨rfl, rfl⟩
  · clear h'
    go_wp2_with fail
    refine (checked_own_no n w).mono ?_
    rintro e w' ⟨rfl, rfl⟩
    go_wp2_with fail
    go_ret2
    exact ⟨rfl, rfl⟩
theorem key_yes (n : Int) (w : World) (h0 : 0 ≤ n) (h1 : n ≤ 1000000000) : Calls Tryd.prog 37 #[.int .i64 n] w (Pure (.tuple #[.int .i64 (n / 2000 + 1), .int .i64 0]) w) := by
  have hs : (decide (0 ≤ n ∧ n ≤ 1000000000)) = true := by simp [h0, h1]
  go_enter Tryd.func37, Tryd.ntmps37
  go_wp2_with fail
  refine (of_at n w h0 h1).mono ?_
  rintro e w' ⟨rfl, rfl⟩
  go_wp2_with fail
  refine (slot_at n true w hs).mono ?_
  rintro e w' ⟨rfl, rfl⟩
  go_wp2_with fail
  refine (checked_ep (n / 2000) w (by omega) (by omega)).mono ?_
  rintro e w' ⟨rfl, rfl⟩
  go_wp2_with fail
  go_ret2
  exact ⟨rfl, rfl⟩
end Go.Proofs.YtgmabjlehjpboaaDoor
