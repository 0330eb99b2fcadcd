/- Proved: that the row's condition on the table of steps gives the walks' fact on it. Conditions: none. -/
import Derived.Test.YtgmabjlehjpboaaDoorRows
import Derived.Test.YtgmabjlehjpboaaDoorKit
import Derived.Test.YtgmabjlehjpboaaDoorR3
import Derived.LaidLaws
namespace Go.Proofs.YtgmabjlehjpboaaDoor
open Go.RowKit Go.Proofs.YtgmabjlehjpboaaDoor.K
set_option linter.unusedVariables false
set_option linter.unusedSimpArgs false
theorem gTab : Tryd.prog.globalNamed "slotmesh/random.steps" = some 0 := by kernel_rfl
theorem gTabType : (Tryd.prog.globals[0]?).map (·.type) = some 132 := by kernel_rfl
theorem cells132 : Tryd.prog.cellsOf 132 = 6 := by kernel_rfl
theorem cells131 : Tryd.prog.cellsOf 131 = 2 := by kernel_rfl
theorem cells3 : Tryd.prog.cellsOf 3 = 1 := by kernel_rfl
theorem cells102 : Tryd.prog.cellsOf 102 = 1 := by kernel_rfl
theorem list6 {α : Type} {l : List α} (h : l.length = 6) : ∃ a b c d e f, l = [a, b, c, d, e, f] := by
  match l, h with
  | [a, b, c, d, e, f], _ => exact ⟨a, b, c, d, e, f, rfl⟩
theorem range3 : List.range 3 = [0, 1, 2] := by decide
set_option maxRecDepth 100000 in
theorem tab {W : World} (h : laidMetH Tryd.prog [("slotmesh/random.steps", Rows.laid_slotmesh_random_steps)] W) : Tab W := by
  have h' : laidMet Tryd.prog [("slotmesh/random.steps", Rows.laid_slotmesh_random_steps)] W := h
  obtain ⟨ps, ⟨g', t', cs, fuel, p, q, hg', ht', hvar, hd, _, _⟩, _⟩ := h'
  obtain rfl := Option.some.inj (gTab.symm.trans hg')
  obtain rfl := Option.some.inj (gTabType.symm.trans ht')
  obtain ⟨cs⟩ := cs
  obtain ⟨fl, fk⟩ := flat_of_trod 6 132 [some .i64, some .u64, some .i64, some .u64, some .i64, some .u64] fuel _ _ (by kernel_rfl) hd
  obtain ⟨c0, c1, c2, c3, c4, c5, rfl⟩ := list6 (by simpa using fl)
  obtain ⟨_, e, a0, rfl, w0⟩ := fk 0 _ rfl
  simp at e; subst e
  obtain ⟨_, e, a1, rfl, w1⟩ := fk 1 _ rfl
  simp at e; subst e
  obtain ⟨_, e, a2, rfl, w2⟩ := fk 2 _ rfl
  simp at e; subst e
  obtain ⟨_, e, a3, rfl, w3⟩ := fk 3 _ rfl
  simp at e; subst e
  obtain ⟨_, e, a4, rfl, w4⟩ := fk 4 _ rfl
  simp at e; subst e
  obtain ⟨_, e, a5, rfl, w5⟩ := fk 5 _ rfl
  simp at e; subst e
  match fuel, hd with
  | 0, hd => simp [DataW.trod] at hd
  | 1, hd => simp [DataW.trod, Tryd.underlying132, cells132, cells131, range3] at hd
  | 2, hd => simp [DataW.trod, Tryd.underlying132, Tryd.underlying131, cells132, cells131, cells3, cells102, range3] at hd
  | fuel + 3, hd =>
    simp [DataW.trod, Tryd.underlying132, Tryd.underlying131, Tryd.underlying3, Tryd.underlying102, cells132, cells131, cells3, cells102, range3, Rows.laid_slotmesh_random_steps, w0, w1, w2, w3, w4, w5] at hd
    obtain ⟨⟨⟨rfl, rfl⟩, ⟨rfl, rfl⟩, ⟨rfl, rfl⟩⟩, _⟩ := hd
    have hc := fun (i : Nat) => World.var?_cell gTab hvar i
    exact ⟨by simpa using hc 0, by simpa using hc 1, by simpa using hc 2, by simpa using hc 3, by simpa using hc 4, by simpa using hc 5⟩
theorem u64_lo {x : Int} (h : (Lit.int .u64 x).wf = true) : 0 ≤ x ∧ x ≤ 18446744073709551615 := u64_bd h
end Go.Proofs.YtgmabjlehjpboaaDoor
