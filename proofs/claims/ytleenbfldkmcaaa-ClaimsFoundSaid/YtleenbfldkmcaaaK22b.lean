/- Proved: small facts on boxes of tables that a call has made, written and read beside what lies in memory. Conditions: those that each theorem names. -/
import Derived.Test.YtleenbfldkmcaaaK22
namespace Go.Proofs.Ytleenbfldkmcaaa
open Go.RowKit Go.Sort Go.BigFrame
set_option linter.unusedVariables false
set_option linter.unusedSimpArgs false
attribute [local go_sem] cell_alloc_old
theorem newS {w : World} {cs : List Value} {ty : TypeId} {o : Obj} {k : Nat} (hk : k = w.heap.size) : CAt ((w.alloc o).alloc (.cells cs.toArray ty)) (k + 1) cs := by
  subst hk
  have := CAt.new (w.alloc o) cs ty
  simpa using this
theorem fzS {w : World} {vs : Array Value} {ty : TypeId} {o : Obj} {k : Nat} (hk : k = w.heap.size) : Fz ((w.alloc o).alloc (.cells vs ty)) (k + 1) := by
  subst hk
  have := Fz.new (w.alloc o) vs ty
  simpa using this
/-- A box whose cells are slices. -/
def Bx (w : World) (k : Nat) : Prop := ∃ vs t, w.heap[k]? = some (.cells vs t) ∧ ∀ (i : Nat) (v : Value), vs[i]? = some v → ∃ a n c, v = .slice a n c
theorem Bx.lt {w : World} {k : Nat} (h : Bx w k) : k < w.heap.size := by
  obtain ⟨vs, t, h, -⟩ := h
  exact (Array.getElem?_eq_some_iff.1 h).1
theorem Bx.keep {w w' : World} {k : Nat} (h : Bx w k) (hb : Below w.heap.size w w') : Bx w' k := by
  have hl := h.lt
  obtain ⟨vs, t, h, h2⟩ := h
  exact ⟨vs, t, by rw [hb.block k hl]; exact h, h2⟩
theorem Bx.alloc {w : World} {k : Nat} (h : Bx w k) (o : Obj) : Bx (w.alloc o) k := h.keep (ball (Below.refl _ _) _)
theorem Bx.drew {w : World} {k : Nat} (h : Bx w k) : Bx w.drew k := h
theorem Bx.new (w : World) (cs : List Value) (ty : TypeId) (hs : ∀ v ∈ cs, ∃ a n c, v = .slice a n c) : Bx (w.alloc (.cells cs.toArray ty)) w.heap.size := ⟨cs.toArray, ty, alloc_new_heap _ _, fun i v h => hs v (by
  rw [List.getElem?_toArray] at h; exact List.mem_of_getElem? h)⟩
theorem bxS {w : World} {o : Obj} {k : Nat} {ty : TypeId} (hk : k = w.heap.size) : Bx ((w.alloc o).alloc (.cells #[.slice none 0 0, .slice none 0 0, .slice none 0 0] ty)) (k + 1) := by
  subst hk
  have := Bx.new (w.alloc o) [.slice none 0 0, .slice none 0 0, .slice none 0 0] ty (by simp)
  simpa using this
theorem sl3 : ∀ v ∈ [(Value.slice none 0 0), .slice none 0 0, .slice none 0 0], ∃ a n c, v = .slice a n c := by simp
theorem Bx.set {w : World} {k : Nat} (h : Bx w k) (a : Addr) (v : Value) (hv : ∃ a n c, v = .slice a n c) : Bx (w.setCell a v) k := by
  obtain ⟨vs, t, h1, h2⟩ := h
  by_cases e : k = a.block
  · subst e
    refine ⟨if a.spot.isSome = true then vs else vs.setIfInBounds a.off v, t, ?_, ?_⟩
    · simp only [World.setCell, Array.getElem?_modify, h1, if_true, Option.map_some]
    · intro i u hu
      split at hu
      · exact h2 i u hu
      · rw [Array.getElem?_setIfInBounds] at hu
        split at hu
        · split at hu
          · cases hu; exact hv
          · cases hu
        · exact h2 i u hu
  · exact ⟨vs, t, by rw [Below.heap_setCell _ _ _ _ e]; exact h1, h2⟩
theorem Bx.cell {w : World} {k j : Nat} {v : Value} (h : Bx w k) (hc : w.cell? ⟨k, j, none⟩ = some v) : ∃ a n c, v = .slice a n c := by
  obtain ⟨vs, t, h1, h2⟩ := h
  simp only [World.cell?, h1] at hc
  exact h2 j v hc
theorem At.set_box {α : Type} [Inhabited α] {s : Nat} {cs : α → List Value} {w : World} {a : Option Addr} {l : List α} {k : Nat} (h : At s cs w a l) (hx : Bx w k) (hs : ∀ x, ∀ u ∈ cs x, ∃ n, u = .int .i64 n) (j : Nat) (v : Value) : At s cs (w.setCell ⟨k, j, none⟩ v) a l := by
  rcases h with h | ⟨b, off, ha, h⟩
  · exact .inl h
  · refine .inr ⟨b, off, ha, fun i hi j' u hj => ?_⟩
    have h1 := h i hi j' u hj
    have hne : b ≠ k := fun e => by
      subst e
      obtain ⟨a1, n1, c1, e1⟩ := hx.cell h1
      obtain ⟨n, e2⟩ := hs _ _ (List.mem_of_getElem? hj)
      rw [e1] at e2; cases e2
    exact (grown_set w k j v).cell h1 (by simpa using hne)
theorem ok_set {r : Tv} {w : World} {k : Nat} (h : r.ok w) (j : Nat) (v : Value) (hx : Bx w k) : r.ok (w.setCell ⟨k, j, none⟩ v) :=
  ⟨h.u.set_box hx (fun x u hu => by simp at hu; rcases hu with rfl | rfl | rfl | rfl <;> exact ⟨_, rfl⟩) j v, h.g.set_box hx (fun x u hu => by simp at hu; rcases hu with rfl | rfl | rfl | rfl | rfl <;> exact ⟨_, rfl⟩) j v, h.a.set_box hx (fun x u hu => by simp at hu; rcases hu with rfl | rfl | rfl <;> exact ⟨_, rfl⟩) j v, h.un, h.gn, h.an, h.uc, h.gc, h.ac, h.um, h.gm, h.am, h.uw, h.gw⟩
theorem ok_alloc {r : Tv} {w : World} (h : r.ok w) (o : Obj) : r.ok (w.alloc o) := h.keep (ball (Below.refl _ _) _)
theorem setB3 {w : World} {k : Nat} {a b c x y z : Value} (h : CAt w k [a, b, c]) : CAt (((w.setCell ⟨k, 0, none⟩ x).setCell ⟨k, 1, none⟩ y).setCell ⟨k, 2, none⟩ z) k [x, y, z] :=
  ((h.set 0 x (by simp)).set 1 y (by simp)).set 2 z (by simp)
theorem bset {n k : Nat} {w0 w : World} (h : Below n w0 w) (hk : n ≤ k) (j : Nat) (v : Value) : Below n w0 (w.setCell ⟨k, j, none⟩ v) := h.setCell hk v
end Go.Proofs.Ytleenbfldkmcaaa
