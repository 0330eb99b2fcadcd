/- Proved: whether the state of a stranger is valid: where all of it is in its bounds, and where the number of tries alone is not. Conditions: those that each theorem names. -/
import Derived.Test.YtgmabjlehjpboaaDoorT4
namespace Go.Proofs.YtgmabjlehjpboaaDoor
open Go.RowKit Go.Sort Go.BigFrame Go.Proofs.YtgmabjlehjpboaaDoor.K
set_option linter.unusedVariables false
set_option linter.unusedSimpArgs false
attribute [local go_sem] cell_alloc_old

/-- A stranger's state of its join. -/
structure Jn where
  (ph sp n si tr : Int)
deriving DecidableEq, Inhabited
abbrev Jn.cs (j : Jn) : List Value := [.int .i64 j.ph, .int .i64 j.sp, .int .i64 j.n, .int .i64 j.si, .int .i64 j.tr]
abbrev Jn.v (j : Jn) : Value := .agg #[.int .i64 j.ph, .int .i64 j.sp, .int .i64 j.n, .int .i64 j.si, .int .i64 j.tr]
structure Jn.ok (j : Jn) : Prop where
  h0 : 0 ≤ j.ph
  h1 : j.ph ≤ 3
  h4 : 0 ≤ j.si
  h5 : j.si ≤ 1000000000
  h6 : 0 ≤ j.n
  h7 : j.n ≤ 1000000000
  h8 : -1 ≤ j.sp
  h9 : j.sp < 60
def triesB (t : Int) : Bool := decide (0 ≤ t ∧ t ≤ 255)
set_option maxRecDepth 100000 in
set_option maxHeartbeats 4000000 in
theorem jvalid_yes (j : Jn) (k : Nat) (w : World) (ok : j.ok) (h2 : 0 ≤ j.tr) (h3 : j.tr ≤ 255) (T : CAt w k j.cs) : Calls Tryd.prog 46 #[.pointer (some ⟨k, 0, none⟩)] w (Ans (.bool true) w) := by
  obtain ⟨h0, h1, h4, h5, h6, h7, h8, h9⟩ := ok
  obtain ⟨ph, sp, n, si, tr⟩ := j
  simp only at h0 h1 h2 h3 h4 h5 h6 h7 h8 h9
  have t0 := T 0 _ rfl; have t1 := T 1 _ rfl; have t2 := T 2 _ rfl; have t3 := T 3 _ rfl; have t4 := T 4 _ rfl
  go_enter Tryd.func46, Tryd.ntmps46
  go_wp2_with fail
  go_ret
  exact ⟨rfl, Below.refl _ _⟩
set_option maxRecDepth 100000 in
set_option maxHeartbeats 4000000 in
theorem jvalid_no1 (j : Jn) (k : Nat) (w : World) (ok : j.ok) (h2 : ¬ 0 ≤ j.tr) (T : CAt w k j.cs) : Calls Tryd.prog 46 #[.pointer (some ⟨k, 0, none⟩)] w (Ans (.bool false) w) := by
  obtain ⟨h0, h1, h4, h5, h6, h7, h8, h9⟩ := ok
  obtain ⟨ph, sp, n, si, tr⟩ := j
  simp only at h0 h1 h2 h4 h5 h6 h7 h8 h9
  have t0 := T 0 _ rfl; have t1 := T 1 _ rfl; have t2 := T 2 _ rfl; have t3 := T 3 _ rfl; have t4 := T 4 _ rfl
  go_enter Tryd.func46, Tryd.ntmps46
  go_wp2_with fail
  go_ret
  exact ⟨rfl, Below.refl _ _⟩
set_option maxRecDepth 100000 in
set_option maxHeartbeats 4000000 in
theorem jvalid_no2 (j : Jn) (k : Nat) (w : World) (ok : j.ok) (h2 : 0 ≤ j.tr) (h3 : ¬ j.tr ≤ 255) (T : CAt w k j.cs) : Calls Tryd.prog 46 #[.pointer (some ⟨k, 0, none⟩)] w (Ans (.bool false) w) := by
  obtain ⟨h0, h1, h4, h5, h6, h7, h8, h9⟩ := ok
  obtain ⟨ph, sp, n, si, tr⟩ := j
  simp only at h0 h1 h2 h3 h4 h5 h6 h7 h8 h9
  have t0 := T 0 _ rfl; have t1 := T 1 _ rfl; have t2 := T 2 _ rfl; have t3 := T 3 _ rfl; have t4 := T 4 _ rfl
  go_enter Tryd.func46, Tryd.ntmps46
  go_wp2_with fail
  go_ret
  exact ⟨rfl, Below.refl _ _⟩
theorem jvalid_at (j : Jn) (k : Nat) (y : Bool) (w : World) (ok : j.ok) (hy : triesB j.tr = y) (T : CAt w k j.cs) : Calls Tryd.prog 46 #[.pointer (some ⟨k, 0, none⟩)] w (Ans (.bool y) w) := by
  subst hy
  unfold triesB
  by_cases h2 : 0 ≤ j.tr
  · by_cases h3 : j.tr ≤ 255
    · rw [decide_eq_true ⟨h2, h3⟩]; exact jvalid_yes j k w ok h2 h3 T
    · rw [decide_eq_false (fun h => h3 h.2)]; exact jvalid_no2 j k w ok h2 h3 T
  · rw [decide_eq_false (fun h => h2 h.1)]; exact jvalid_no1 j k w ok h2 T
end Go.Proofs.YtgmabjlehjpboaaDoor
