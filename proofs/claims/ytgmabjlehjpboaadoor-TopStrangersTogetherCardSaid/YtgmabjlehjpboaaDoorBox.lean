/- Proved: small facts on blocks of cells that a call has made, for whatever program: a block's cells as one fact, kept by whatever comes after. Conditions: those that each theorem names. -/
import Derived.Test.YtgmabjlehjpboaaDoorOwn2
namespace Go.Proofs.YtgmabjlehjpboaaDoor.K
open Go.RowKit Go.Sort
set_option linter.unusedVariables false
set_option linter.unusedSimpArgs false

/-- These cells lie in a block from its beginning. -/
def CAt (w : World) (k : Nat) (cs : List Value) : Prop := ∀ (j : Nat) (v : Value), cs[j]? = some v → w.cell? ⟨k, j, none⟩ = some v
theorem CAt.keep {w w' : World} {k : Nat} {cs : List Value} (h : CAt w k cs) (hb : Below w.heap.size w w') : CAt w' k cs := fun j v hj => keep1 hb (h j v hj)
theorem CAt.alloc {w : World} {k : Nat} {cs : List Value} (h : CAt w k cs) (o : Obj) : CAt (w.alloc o) k cs := fun j v hj => old1 (h j v hj) o
theorem CAt.new (w : World) (cs : List Value) (ty : TypeId) : CAt (w.alloc (.cells cs.toArray ty)) w.heap.size cs := fun j v hj => new0 rfl (by simpa using hj)
theorem CAt.drew {w : World} {k : Nat} {cs : List Value} (h : CAt w k cs) : CAt w.drew k cs := h
theorem CAt.drewN {w : World} {k : Nat} {cs : List Value} (h : CAt w k cs) (n : Nat) : CAt (w.drewN n) k cs := h
theorem CAt.set {w : World} {k : Nat} {cs : List Value} (h : CAt w k cs) (j : Nat) (v : Value) (hj : j < cs.length) : CAt (w.setCell ⟨k, j, none⟩ v) k (cs.set j v) := fun i u hi => by
  rw [List.getElem?_set] at hi
  split at hi
  · rename_i e
    subst e
    simp only [hj, if_true, Option.some.injEq] at hi
    subst hi
    exact World.cell?_setCell_same' _ _ _ (by rw [h j cs[j] (List.getElem?_eq_getElem hj)]; rfl)
  · rename_i e
    rw [World.cell?_setCell_other _ _ _ _ (fun he => e (congrArg Addr.off he))]; exact h i u hi
theorem CAt.other {w : World} {k k' : Nat} {cs : List Value} (h : CAt w k cs) (hk : k' ≠ k) (j : Nat) (v : Value) : CAt (w.setCell ⟨k', j, none⟩ v) k cs := fun i u hi => by
  rw [World.cell?_setCell_other _ _ _ _ (fun he => hk (congrArg Addr.block he))]; exact h i u hi
theorem CAt.grown {w w' : World} {k : Nat} {cs : List Value} {row : Option Nat} (h : CAt w k cs) (hg : w.grownBy w' row) (hne : some k ≠ row) : CAt w' k cs := fun j v hj => hg.cell (h j v hj) hne
/-- A block whose cells may be written. -/
def Fz (w : World) (k : Nat) : Prop := (∀ j, w.frozen? ⟨k, j, none⟩ = false) ∧ k < w.heap.size
theorem Fz.keep {w w' : World} {k : Nat} (h : Fz w k) (hb : Below w.heap.size w w') : Fz w' k := ⟨fun j => (hb.frozen (p := ⟨k, j, none⟩) h.2).trans (h.1 j), Nat.lt_of_lt_of_le h.2 hb.size⟩
theorem Fz.alloc {w : World} {k : Nat} (h : Fz w k) (o : Obj) : Fz (w.alloc o) k := h.keep (Below.alloc (Below.refl _ w) (Nat.le_refl _) o)
theorem Fz.drew {w : World} {k : Nat} (h : Fz w k) : Fz w.drew k := h
theorem Fz.new (w : World) (vs : Array Value) (ty : TypeId) : Fz (w.alloc (.cells vs ty)) w.heap.size := ⟨fun j => (frozen?_alloc_cells _ _ _ _).trans (frz_new (Nat.le_refl _)), by simp⟩
theorem Fz.set {w : World} {k : Nat} (h : Fz w k) (a : Addr) (v : Value) : Fz (w.setCell a v) k := ⟨fun j => by rw [World.frozen?_setCell]; exact h.1 j, by simpa using h.2⟩
theorem Fz.grown {w w' : World} {k : Nat} {row : Option Nat} (h : Fz w k) (hg : w.grownBy w' row) (hne : some k ≠ row) : Fz w' k :=
  ⟨fun j => (World.frozen?_of_block (w := w) (hg.block k h.2 hne)).trans (h.1 j), Nat.lt_of_lt_of_le h.2 hg.size⟩
end Go.Proofs.YtgmabjlehjpboaaDoor.K
