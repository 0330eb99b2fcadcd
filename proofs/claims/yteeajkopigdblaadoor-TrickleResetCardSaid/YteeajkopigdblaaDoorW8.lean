/- Proved: what speaking of the statements returns: in which frames a node speaks, and its timer afterwards. Conditions: the table of steps holds its numbers; the list lies in memory. -/
import Derived.Test.YteeajkopigdblaaDoorW7
namespace Go.Proofs.YteeajkopigdblaaDoor
open Go.RowKit Go.Sort Go.BigFrame Go.Proofs.YteeajkopigdblaaDoor.K
set_option linter.unusedVariables false
set_option linter.unusedSimpArgs false
attribute [local go_sem] cell_alloc_old

/-- A list of truth values that a call has itself made. -/
def OwnB (w : World) (base : Nat) (v : Value) (bs : List Bool) : Prop := w.ownsRow base 4 1 v bs.length (bs.map Value.bool)
def BoolsAt (w : World) (a : Option Addr) (bs : List Bool) : Prop :=
  bs = [] ∨ ∃ b off, a = some ⟨b, off, none⟩ ∧ ∀ j, j < bs.length → w.cell? ⟨b, off + j, none⟩ = some (.bool (bs.getD j false))
theorem BoolsAt.keep {w w' : World} {a : Option Addr} {bs : List Bool} (h : BoolsAt w a bs) (hb : Below w.heap.size w w') : BoolsAt w' a bs := by
  rcases h with h | ⟨b, off, ha, h⟩
  · exact .inl h
  · exact .inr ⟨b, off, ha, fun j hj => keep1 hb (h j hj)⟩
theorem OwnB.shape {w : World} {base : Nat} {v : Value} {bs : List Bool} (h : OwnB w base v bs) :
    ∃ a cap, v = .slice a bs.length cap ∧ BoolsAt w a bs ∧ bs.length ≤ cap ∧ cap ≤ maxLen := by
  have h0 := h
  rcases h.2 with ⟨rfl, hn⟩ | ⟨g, cap, cur, rfl, hb, hg, hnc, hcm, hcs, htake⟩
  · exact ⟨none, 0, by rw [hn], .inl (List.length_eq_zero_iff.1 hn), by omega, by simp [maxLen]⟩
  · refine ⟨some ⟨g, 0, none⟩, cap, rfl, .inr ⟨g, 0, rfl, fun j hj => ?_⟩, hnc, hcm⟩
    have := World.ownsRow.cellAt h0 j (by omega)
    rw [Nat.zero_add, this, List.getElem?_map, List.getElem?_eq_getElem hj, List.getD_eq_getElem?_getD, List.getElem?_eq_getElem hj]; rfl
theorem OwnB.keep {w w' : World} {base : Nat} {v : Value} {bs : List Bool} (h : OwnB w base v bs) (hb : Below w.heap.size w w') : OwnB w' base v bs := by
  refine ⟨h.1, ?_⟩
  rcases h.2 with hn | ⟨g, cap, cur, hv, hb', hg, rest⟩
  · exact .inl hn
  · refine .inr ⟨g, cap, cur, hv, hb', ?_, rest⟩
    have hlt : g < w.heap.size := by
      rcases Nat.lt_or_ge g w.heap.size with h | h
      · exact h
      · rw [Array.getElem?_eq_none h] at hg; cases hg
    rw [hb.block g hlt]; exact hg
theorem OwnB.push {w1 : World} {base : Nat} {v' : Value} {bs : List Bool} {x : Bool} (h : w1.ownsRow base 4 1 v' (bs.length + 1) (bs.map Value.bool ++ [.bool x])) : OwnB w1 base v' (bs ++ [x]) := by
  unfold OwnB; simpa using h
theorem OwnB.below {w : World} {base : Nat} {v : Value} {bs : List Bool} (h : OwnB w base v bs) {p : Addr} (hp : p.block < base) (u : Value) : OwnB (w.setCell p u) base v bs := ownsRow_setCell_below h hp u
theorem one_bool (x : Bool) : ∀ u ∈ [Value.bool x], u.oneCell' = true := by
  intro u hu; simp at hu; subst hu; rfl
/-- What speaking keeps: its own timer and the place of its result. -/
structure Sp (w W : World) (t : Tk) : Prop where
  B : Below w.heap.size w W
  T : TkAt W w.heap.size t
  FT : ∀ j, W.frozen? ⟨w.heap.size, j, none⟩ = false
  Z : TkAt W (w.heap.size + 1) ⟨0, 0, 0, 0, 0⟩
  FZ : ∀ j, W.frozen? ⟨w.heap.size + 1, j, none⟩ = false
  S : w.heap.size + 2 ≤ W.heap.size
theorem Sp.keep {w W V : World} {t : Tk} (h : Sp w W t) (hb : Below W.heap.size W V) : Sp w V t :=
  ⟨bstep h.B hb, h.T.keep hb, fun j => (hb.frozen (p := ⟨w.heap.size, j, none⟩) (by have := h.S; simp only; omega)).trans (h.FT j), h.Z.keep hb,
    fun j => (hb.frozen (p := ⟨w.heap.size + 1, j, none⟩) (by have := h.S; simp only; omega)).trans (h.FZ j), Nat.le_trans h.S hb.size⟩
theorem Sp.alloc {w W : World} {t : Tk} (h : Sp w W t) (o : Obj) : Sp w (W.alloc o) t := h.keep (Below.alloc (Below.refl _ W) (Nat.le_refl _) o)
theorem Sp.new (w : World) (t : Tk) : Sp w ((w.alloc (.cells #[.int .i64 t.i, .int .i64 t.b, .int .i64 t.f, .int .i64 t.c, .int .i64 t.s] 23)).alloc (.cells #[.int .i64 0, .int .i64 0, .int .i64 0, .int .i64 0, .int .i64 0] 23)) t := by
  have h := Two.new w t ⟨0, 0, 0, 0, 0⟩
  exact ⟨h.B, h.T, fun j => by rw [frozen?_alloc_cells, frozen?_alloc_cells]; exact frz_new (Nat.le_refl _), h.Z, h.F, h.S⟩
theorem Sp.set {w W : World} {t : Tk} (h : Sp w W t) (i b f c s : Int) : Sp w (((((W.setCell ⟨w.heap.size, 0, none⟩ (.int .i64 i)).setCell ⟨w.heap.size, 1, none⟩ (.int .i64 b)).setCell ⟨w.heap.size, 2, none⟩ (.int .i64 f)).setCell ⟨w.heap.size, 3, none⟩ (.int .i64 c)).setCell ⟨w.heap.size, 4, none⟩ (.int .i64 s)) ⟨i, b, f, c, s⟩ :=
  ⟨below_set5 h.B (Nat.le_refl _) i b f c s, h.T.setAll i b f c s, fun j => by simp only [World.frozen?_setCell]; exact h.FT j, h.Z.other5 (by omega) i b f c s,
    fun j => by simp only [World.frozen?_setCell]; exact h.FZ j, by have := h.S; simpa using this⟩
theorem Sp.grown {w W V : World} {t : Tk} {o : Obj} {base : Nat} {v : Value} {bs : List Bool} (h : Sp w W t) (ho : OwnB W base v bs) (hb : w.heap.size + 2 ≤ base) (hg : (W.alloc o).grownBy V v.ownBlock) : Sp w V t := by
  have hk := h.alloc o
  have ne : ∀ k, k < base → some k ≠ v.ownBlock := fun k hk hh => by have := (World.ownsRow.lt ho k hh.symm).1; omega
  have c : ∀ {k j : Nat} {x : Value}, k < base → (W.alloc o).cell? ⟨k, j, none⟩ = some x → V.cell? ⟨k, j, none⟩ = some x := fun hk hx => hg.cell hx (ne _ hk)
  have fz : ∀ {k j : Nat}, k < base → k < (W.alloc o).heap.size → (W.alloc o).frozen? ⟨k, j, none⟩ = false → V.frozen? ⟨k, j, none⟩ = false := fun {k j} hk hl hf =>
    (World.frozen?_of_block (w := W.alloc o) (hg.block k hl (ne k hk))).trans hf
  have hs := hk.S
  refine ⟨Below.grown hk.B hg (by have := hk.B.size; exact this) (fun j hj => by have := (World.ownsRow.lt ho j hj).1; omega), ?_, fun j => fz (by omega) (by omega) (hk.FT j), ?_, fun j => fz (by omega) (by omega) (hk.FZ j), Nat.le_trans hk.S (hg.size)⟩
  · obtain ⟨a, b, d, e, f⟩ := hk.T
    exact ⟨c (by omega) a, c (by omega) b, c (by omega) d, c (by omega) e, c (by omega) f⟩
  · obtain ⟨a, b, d, e, f⟩ := hk.Z
    exact ⟨c (by omega) a, c (by omega) b, c (by omega) d, c (by omega) e, c (by omega) f⟩
end Go.Proofs.YteeajkopigdblaaDoor
