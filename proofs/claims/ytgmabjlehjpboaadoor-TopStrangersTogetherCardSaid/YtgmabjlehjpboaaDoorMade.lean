/- Proved: small facts on lists of integers that a call has made by append, for whatever program. Conditions: those that each theorem names. -/
import Derived.Test.YtgmabjlehjpboaaDoorKit
import Derived.WalkKit
namespace Go.Proofs.YtgmabjlehjpboaaDoor.K
open Go.RowKit Go.Sort
set_option linter.unusedVariables false

/-- A list of integers that a call has itself made, at the value v, in blocks from base on. -/
def Own (k : IntKind) (w : World) (base : Nat) (e : TypeId) (v : Value) (zs : List Int) : Prop := w.ownsRow base e 1 v zs.length (zs.map (Value.int k))

theorem Own.nil (k : IntKind) (w : World) (base : Nat) (e : TypeId) : Own k w base e (.slice none 0 0) [] := World.ownsRow_nil _ _ _ _
theorem Own.shape {k : IntKind} {w : World} {base : Nat} {e : TypeId} {v : Value} {zs : List Int} (h : Own k w base e v zs) :
    ∃ a cap, v = .slice a zs.length cap ∧ IntsAt k w a zs ∧ zs.length ≤ cap ∧ cap ≤ maxLen := by
  have h0 := h
  rcases h.2 with ⟨rfl, hn⟩ | ⟨g, cap, cur, rfl, hb, hg, hnc, hcm, hcs, htake⟩
  · exact ⟨none, 0, by rw [hn], .inl (List.length_eq_zero_iff.1 hn), by omega, by simp [maxLen]⟩
  · refine ⟨some ⟨g, 0, none⟩, cap, rfl, .inr ⟨g, 0, rfl, fun j hj => ?_⟩, hnc, hcm⟩
    have := World.ownsRow.cellAt h0 j (by omega)
    rw [Nat.zero_add, this, List.getElem?_map, List.getElem?_eq_getElem hj, List.getD_eq_getElem?_getD, List.getElem?_eq_getElem hj]; rfl
theorem Own.ints {k : IntKind} {w : World} {base : Nat} {e : TypeId} {a : Option Addr} {m c : Nat} {zs : List Int} (h : Own k w base e (.slice a m c) zs) : IntsAt k w a zs := by
  obtain ⟨a', c', he, hi, _⟩ := h.shape
  simp only [Value.slice.injEq] at he
  rw [he.1]; exact hi
theorem Own.set_below {k : IntKind} {w : World} {base : Nat} {e : TypeId} {v : Value} {zs : List Int} (h : Own k w base e v zs) {p : Addr} (hp : p.block < base) (u : Value) : Own k (w.setCell p u) base e v zs :=
  ownsRow_setCell_below h hp u
theorem Own.alloc {k : IntKind} {w : World} {base : Nat} {e : TypeId} {v : Value} {zs : List Int} (h : Own k w base e v zs) (o : Obj) : Own k (w.alloc o) base e v zs := World.ownsRow.alloc h o
theorem Own.keep {k : IntKind} {w w' : World} {base : Nat} {e : TypeId} {v : Value} {zs : List Int} (h : Own k w base e v zs) (hb : Below w.heap.size w w') : Own k w' base e v zs := by
  refine ⟨h.1, ?_⟩
  rcases h.2 with hn | ⟨g, cap, cur, hv, hb', hg, rest⟩
  · exact .inl hn
  · refine .inr ⟨g, cap, cur, hv, hb', ?_, rest⟩
    have hlt : g < w.heap.size := by
      rcases Nat.lt_or_ge g w.heap.size with h | h
      · exact h
      · rw [Array.getElem?_eq_none h] at hg; cases hg
    rw [hb.block g hlt]; exact hg
theorem Own.push {k : IntKind} {w1 : World} {base : Nat} {e : TypeId} {v' : Value} {zs : List Int} {x : Int} (h : w1.ownsRow base e 1 v' (zs.length + 1) (zs.map (Value.int k) ++ [.int k x])) : Own k w1 base e v' (zs ++ [x]) := by
  unfold Own; simpa using h
theorem grown_below {k : IntKind} {w0 wr w1 : World} {base : Nat} {e : TypeId} {v : Value} {zs : List Int} {o : Obj} (hB : Below w0.heap.size w0 wr) (h : Own k wr base e v zs) (hb : w0.heap.size ≤ base) (hg : (wr.alloc o).grownBy w1 v.ownBlock) : Below w0.heap.size w0 w1 :=
  (ball hB o).grown hg (by have := hB.size; simp; omega) (fun j hj => by have := (World.ownsRow.lt h j hj).1; omega)
/-- A cell in a block of another number behind a push. -/
theorem grown_cell {k : IntKind} {wr w1 : World} {base : Nat} {e : TypeId} {v u : Value} {zs : List Int} {o : Obj} {b i : Nat} (hc : wr.cell? ⟨b, i, none⟩ = some u) (h : Own k wr base e v zs) (hb : b < base) (hg : (wr.alloc o).grownBy w1 v.ownBlock) : w1.cell? ⟨b, i, none⟩ = some u :=
  hg.cell (old1 hc o) (fun hh => by have := (World.ownsRow.lt h b hh.symm).1; omega)
theorem one_new (w : World) (v : Value) (e : TypeId) : ∀ (j : Nat) (u : Value), [v][j]? = some u → (w.alloc (.cells #[v] e)).cell? ((⟨w.heap.size, 0, none⟩ : Addr).add j) = some u := by
  intro j u hj
  match j, hj with
  | 0, hj => simp at hj; subst hj; simp [Addr.add]
theorem one_int (k : IntKind) (x : Int) : ∀ u ∈ [Value.int k x], u.oneCell' = true := by
  intro u hu; simp at hu; subst hu; rfl
end Go.Proofs.YtgmabjlehjpboaaDoor.K
