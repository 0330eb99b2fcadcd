/- Proved: small facts on a row of integers that a call has made and writes in place, for whatever program. Conditions: those that each theorem names. -/
import Derived.Test.YtgmabjlehjpboaaDoorMade
import Derived.Test.YtgmabjlehjpboaaDoorRng
import Derived.OneCell
import Derived.RangeFuncBox
namespace Go.Proofs.YtgmabjlehjpboaaDoor.K
open Go.RowKit Go.Sort
set_option linter.unusedVariables false
section
variable {k : IntKind} {w : World} {base g n cap : Nat} {e : TypeId} {zs : List Int}
theorem Own.len (h : Own k w base e (.slice (some ⟨g, 0, none⟩) n cap) zs) : n = zs.length := by
  obtain ⟨a', c', he, _⟩ := h.shape
  simp only [Value.slice.injEq] at he
  exact he.2.1
theorem Own.cellAt (h : Own k w base e (.slice (some ⟨g, 0, none⟩) n cap) zs) {j : Nat} (hj : j < zs.length) : w.cell? ⟨g, j, none⟩ = some (.int k (zs.getD j 0)) := by
  have hl := h.len
  subst hl
  have := World.ownsRow.cellAt h j (by omega)
  rw [this, List.getElem?_map, List.getElem?_eq_getElem hj, List.getD_eq_getElem?_getD, List.getElem?_eq_getElem hj]; rfl
theorem Own.frzAt (h : Own k w base e (.slice (some ⟨g, 0, none⟩) n cap) zs) (j : Nat) : w.frozen? ⟨g, j, none⟩ = false := by
  have hl := h.len
  subst hl
  exact World.ownsRow.frozenAt h j
theorem Own.setAt (h : Own k w base e (.slice (some ⟨g, 0, none⟩) n cap) zs) (j : Nat) (x : Int) : Own k (w.setCell ⟨g, j, none⟩ (.int k x)) base e (.slice (some ⟨g, 0, none⟩) n cap) (zs.set j x) := by
  have hl := h.len
  subst hl
  have := (World.ownsRow.stored h j (.int k x)).1
  unfold Own
  rw [List.length_set, List.map_set]; exact this
theorem Own.blk (h : Own k w base e (.slice (some ⟨g, 0, none⟩) n cap) zs) : base ≤ g ∧ g < w.heap.size := World.ownsRow.lt h g rfl
theorem Own.other (h : Own k w base e (.slice (some ⟨g, 0, none⟩) n cap) zs) {p : Addr} (hp : g ≠ p.block) (u : Value) : Own k (w.setCell p u) base e (.slice (some ⟨g, 0, none⟩) n cap) zs :=
  ownsRow_setCell_other h (fun hh => by simp only [Value.ownBlock, Option.some.injEq] at hh; exact hp hh) u
theorem Own.putObj (h : Own k w base e (.slice (some ⟨g, 0, none⟩) n cap) zs) {l : Nat} {o : Obj} (o' : Obj) (hl : w.heap[l]? = some o) (ho : o.isCells = false) : Own k (w.putObj l o') base e (.slice (some ⟨g, 0, none⟩) n cap) zs :=
  ownsRow_putObj h o' hl ho
theorem Own.lit (k : IntKind) (w : World) (e : TypeId) (base n : Nat) (M : Array Value) (zs : List Int) (hM : M.toList = zs.map (Value.int k)) (hn : n = zs.length) (hb : base ≤ w.heap.size) (hm : n ≤ maxLen) :
    Own k (w.alloc (.cells M e)) base e (.slice (some ⟨w.heap.size, 0, none⟩) n n) zs := by
  unfold Own
  rw [← hM]
  subst hn
  exact World.ownsRow_lit w M zs.length hb hm (by rw [← Array.length_toList, hM]; simp)
end
end Go.Proofs.YtgmabjlehjpboaaDoor.K
