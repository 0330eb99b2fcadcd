/- Proved: what is left of memory by what turns one stranger; a stranger that asks. Conditions: those that each theorem names. -/
import Derived.Test.YtgmabjlehjpboaaDoorT23
import Derived.Test.YtgmabjlehjpboaaDoorT13
namespace Go.Proofs.YtgmabjlehjpboaaDoor
open Go.RowKit Go.Sort Go.BigFrame Go.Proofs.YtgmabjlehjpboaaDoor.K
set_option linter.unusedVariables false
set_option linter.unusedSimpArgs false
attribute [local go_sem] cell_alloc_old

open Go.Maps Go.Shelf
/-- A stranger lies here. -/
def Sg (w : World) (k o : Nat) (id : Int) (j : Jn) : Prop := w.cell? ⟨k, o, none⟩ = some (.int .i64 id) ∧ w.cell? ⟨k, o + 1, none⟩ = some (.int .i64 j.ph) ∧ w.cell? ⟨k, o + 2, none⟩ = some (.int .i64 j.sp) ∧
  w.cell? ⟨k, o + 3, none⟩ = some (.int .i64 j.n) ∧ w.cell? ⟨k, o + 4, none⟩ = some (.int .i64 j.si) ∧ w.cell? ⟨k, o + 5, none⟩ = some (.int .i64 j.tr)
theorem Sg.keep {w w' : World} {k o : Nat} {id : Int} {j : Jn} (h : Sg w k o id j) (hb : Below w.heap.size w w') : Sg w' k o id j := ⟨keep1 hb h.1, keep1 hb h.2.1, keep1 hb h.2.2.1, keep1 hb h.2.2.2.1, keep1 hb h.2.2.2.2.1, keep1 hb h.2.2.2.2.2⟩
theorem Sg.lt {w : World} {k o : Nat} {id : Int} {j : Jn} (h : Sg w k o id j) : k < w.heap.size := World.block_lt_of_cell? w ⟨k, o, none⟩ h.1
/-- Nothing turns but one stranger; new blocks. -/
structure Tch (k o : Nat) (w w' : World) : Prop where
  g : w.grownBy w' (some k)
  c : ∀ x, x < o ∨ o + 6 ≤ x → w'.cell? ⟨k, x, none⟩ = w.cell? ⟨k, x, none⟩
  f : ∀ x, w'.frozen? ⟨k, x, none⟩ = w.frozen? ⟨k, x, none⟩
theorem Tch.of {k o : Nat} {w w' : World} (h : Below w.heap.size w w') (hk : k < w.heap.size) : Tch k o w w' := ⟨grown_of h _, fun x _ => h.cell (p := ⟨k, x, none⟩) hk, fun x => h.frozen (p := ⟨k, x, none⟩) hk⟩
theorem Tch.refl {k o : Nat} {w : World} (hk : k < w.heap.size) : Tch k o w w := Tch.of (Below.refl _ _) hk
theorem Tch.trans {k o : Nat} {a b c : World} (h : Tch k o a b) (h' : Tch k o b c) : Tch k o a c := ⟨h.g.trans h'.g, fun x hx => (h'.c x hx).trans (h.c x hx), fun x => (h'.f x).trans (h.f x)⟩
theorem Tch.step {k o : Nat} {a b c : World} (h : Tch k o a b) (hk : k < b.heap.size) (h' : Below b.heap.size b c) : Tch k o a c := h.trans (Tch.of h' hk)
theorem Tch.set {k o j : Nat} (w : World) (v : Value) (hj : j < 6) : Tch k o w (w.setCell ⟨k, o + j, none⟩ v) :=
  ⟨grown_set w k (o + j) v, fun x hx => World.cell?_setCell_other _ _ _ _ (fun e => by have := congrArg Addr.off e; simp at this; omega), fun x => World.frozen?_setCell _ _ _ _⟩
theorem Tch.size {k o : Nat} {w w' : World} (h : Tch k o w w') : w.heap.size ≤ w'.heap.size := h.g.size
/-- A stranger's state is written. -/
def putJ (w : World) (k o : Nat) (j : Jn) : World := ((((w.setCell ⟨k, o + 1, none⟩ (.int .i64 j.ph)).setCell ⟨k, o + 1 + 1, none⟩ (.int .i64 j.sp)).setCell ⟨k, o + 1 + 2, none⟩ (.int .i64 j.n)).setCell ⟨k, o + 1 + 3, none⟩ (.int .i64 j.si)).setCell ⟨k, o + 1 + 4, none⟩ (.int .i64 j.tr)
theorem cset {w : World} {k a b : Nat} {u v : Value} (h : w.cell? ⟨k, a, none⟩ = some u) : (w.setCell ⟨k, b, none⟩ v).cell? ⟨k, a, none⟩ = some (if b = a then v else u) := by
  by_cases e : b = a
  · subst e
    rw [if_pos rfl]
    exact World.cell?_setCell_same' _ _ _ (by rw [h]; rfl)
  · rw [if_neg e, World.cell?_setCell_other _ _ _ _ (fun he => e (congrArg Addr.off he))]; exact h
theorem Sg.put {w : World} {k o : Nat} {id : Int} {j0 : Jn} (h : Sg w k o id j0) (j : Jn) : Sg (putJ w k o j) k o id j := by
  obtain ⟨h0, h1, h2, h3, h4, h5⟩ := h
  unfold putJ Sg
  refine ⟨?_, ?_, ?_, ?_, ?_, ?_⟩
  · rw [cset (cset (cset (cset (cset h0))))]; repeat (first | rw [if_neg (by omega)] | rw [if_pos (by omega)])
  · rw [cset (cset (cset (cset (cset h1))))]; repeat (first | rw [if_neg (by omega)] | rw [if_pos (by omega)])
  · rw [cset (cset (cset (cset (cset h2))))]; repeat (first | rw [if_neg (by omega)] | rw [if_pos (by omega)])
  · rw [cset (cset (cset (cset (cset h3))))]; repeat (first | rw [if_neg (by omega)] | rw [if_pos (by omega)])
  · rw [cset (cset (cset (cset (cset h4))))]; repeat (first | rw [if_neg (by omega)] | rw [if_pos (by omega)])
  · rw [cset (cset (cset (cset (cset h5))))]; repeat (first | rw [if_neg (by omega)] | rw [if_pos (by omega)])
theorem Tch.put (w : World) (k o : Nat) (j : Jn) : Tch k o w (putJ w k o j) := by
  unfold putJ
  simp only [Nat.add_assoc, Nat.reduceAdd]
  exact ((((Tch.set w _ (by omega)).trans (Tch.set _ _ (by omega))).trans (Tch.set _ _ (by omega))).trans (Tch.set _ _ (by omega))).trans (Tch.set _ _ (by omega))
/-- Where the address's block is not this one. -/
def Apart (a : Option Addr) (k : Nat) : Prop := ∀ b off s, a = some ⟨b, off, s⟩ → b ≠ k
theorem Fresh.apart {n k : Nat} {a : Option Addr} (h : Fresh n a) (hk : k < n) : Apart a k := fun b off s e => by have := h b off s e; omega
theorem At.tch {α : Type} [Inhabited α] {s : Nat} {cs : α → List Value} {w w' : World} {a : Option Addr} {l : List α} {k o : Nat} (h : At s cs w a l) (hT : Tch k o w w') (ha : Apart a k) : At s cs w' a l := by
  rcases h with h | ⟨b, off, e, h⟩
  · exact .inl h
  · exact .inr ⟨b, off, e, fun i hi j u hj => hT.g.cell (h i hi j u hj) (fun e' => ha b off _ e (Option.some.inj e'))⟩
theorem HsAt.tch {w w' : World} {a : Option Addr} {l : List Hf} {k o : Nat} (h : HsAt w a l) (hT : Tch k o w w') (ha : Apart a k) : HsAt w' a l := ⟨At.tch h.cells hT ha, h.ad.imp id fun ⟨b, off, e, hlt⟩ => ⟨b, off, e, Nat.lt_of_lt_of_le hlt hT.size⟩⟩
theorem Tab.tch {w w' : World} {k o : Nat} (h : Tab w) (hT : Tch k o w w') (hk : 0 < k) : Tab w' :=
  have e : ∀ {x : Nat} {v : Value}, w.cell? ⟨0, x, none⟩ = some v → w'.cell? ⟨0, x, none⟩ = some v := fun h => hT.g.cell h (fun e => by have := Option.some.inj e; simp at this; omega)
  ⟨e h.1, e h.2.1, e h.2.2.1, e h.2.2.2.1, e h.2.2.2.2.1, e h.2.2.2.2.2⟩
/-- Whether join.Ask lets a stranger ask that is out. -/
def askB (t m b s f : Int) : Bool := triesB t && nodeB m && nodeB s && !(m == s) && !decide (b < 0) && !decide (1000000 < b) && !decide (f < 0) && !decide (1000000000 < f) && !(t == 255)
def AskNo (t m b s f : Int) : Prop := ∃ err, ¬ err = 0 ∧ ∀ w, Calls Tryd.prog 22 #[(⟨0, -1, 0, 0, t⟩ : Jn).v, .int .i64 m, .int .i64 b, .int .i64 s, .int .i64 f] w (Ans (.tuple #[zJn.v, zWd.v, .int .i64 err]) w)
theorem ask_no (t m b s f : Int) (h : askB t m b s f = false) : AskNo t m b s f := by
  have no : ∀ {err : Int}, ¬ err = 0 → (∀ w, Calls Tryd.prog 22 #[(⟨0, -1, 0, 0, t⟩ : Jn).v, .int .i64 m, .int .i64 b, .int .i64 s, .int .i64 f] w (Ans (.tuple #[zJn.v, zWd.v, .int .i64 err]) w)) → AskNo t m b s f := fun {err} he h => ⟨err, he, h⟩
  unfold askB at h
  cases h0 : triesB t
  · exact no (by decide) (fun w => ask_r0 t m b s f w h0)
  cases h1 : nodeB m
  · exact no (by decide) (fun w => ask_r1 t m b s f w h0 h1)
  cases h2 : nodeB s
  · exact no (by decide) (fun w => ask_r2 t m b s f w h0 h1 h2)
  cases h3 : (m == s)
  rotate_left
  · exact no (by decide) (fun w => ask_r3 t m b s f w h0 h1 h2 h3)
  by_cases h4 : b < 0
  · exact no (by decide) (fun w => ask_r4 t m b s f w h0 h1 h2 h3 h4)
  by_cases h5 : 1000000 < b
  · exact no (by decide) (fun w => ask_r5 t m b s f w h0 h1 h2 h3 h4 h5)
  by_cases h6 : f < 0
  · exact no (by decide) (fun w => ask_r6 t m b s f w h0 h1 h2 h3 h4 h5 h6)
  by_cases h7 : 1000000000 < f
  · exact no (by decide) (fun w => ask_r7 t m b s f w h0 h1 h2 h3 h4 h5 h6 h7)
  cases h8 : (t == 255)
  · rw [h0, h1, h2, h3, h8, decide_eq_false h4, decide_eq_false h5, decide_eq_false h6, decide_eq_false h7] at h; cases h
  · exact no (by decide) (fun w => ask_r8 t m b s f w h0 h1 h2 h3 h4 h5 h6 h7 h8)
theorem askB_conds {t m b s f : Int} (h : askB t m b s f = true) : triesB t = true ∧ nodeB m = true ∧ nodeB s = true ∧ (m == s) = false ∧ ¬ b < 0 ∧ ¬ 1000000 < b ∧ ¬ f < 0 ∧ ¬ 1000000000 < f ∧ (t == 255) = false := by
  unfold askB at h
  simp only [Bool.and_eq_true, Bool.not_eq_true', decide_eq_false_iff_not] at h
  obtain ⟨⟨⟨⟨⟨⟨⟨⟨h0, h1⟩, h2⟩, h3⟩, h4⟩, h5⟩, h6⟩, h7⟩, h8⟩ := h
  exact ⟨h0, h1, h2, h3, h4, h5, h6, h7, h8⟩
theorem ask_yes (t m b s f : Int) (w : World) (h : askB t m b s f = true) :
    Calls Tryd.prog 22 #[(⟨0, -1, 0, 0, t⟩ : Jn).v, .int .i64 m, .int .i64 b, .int .i64 s, .int .i64 f] w (Ans (.tuple #[(⟨1, s, 256 * b + (t + 1), f, t + 1⟩ : Jn).v, (⟨1, m, s, 256 * b + (t + 1), 0, 0, 0, 0⟩ : Wd).v, .int .i64 0]) w) := by
  obtain ⟨h0, h1, h2, h3, h4, h5, h6, h7, h8⟩ := askB_conds h
  exact ask_ok t m b s f w h0 h1 h2 h3 h4 h5 h6 h7 h8
theorem ask_formed {t m b s f : Int} (h : askB t m b s f = true) : formedB ⟨1, m, s, 256 * b + (t + 1), 0, 0, 0, 0⟩ = true := by
  obtain ⟨h0, h1, h2, h3, h4, h5, h6, h7, h8⟩ := askB_conds h
  have ht : 0 ≤ t ∧ t ≤ 255 := by simpa [triesB] using h0
  unfold formedB
  have h3' : (m != s) = true := by simp at h3 ⊢; exact h3
  simp only [h1, h2, h3', Bool.true_and, Bool.and_eq_true, decide_eq_true_eq]
  omega
end Go.Proofs.YtgmabjlehjpboaaDoor
