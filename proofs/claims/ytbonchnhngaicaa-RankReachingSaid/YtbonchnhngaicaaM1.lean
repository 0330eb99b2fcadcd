/- Proved: small facts on a family of rows that a call owns, pairwise in different blocks: an append to one, a store into one, keep the others. Conditions: those that each theorem names. -/
import Derived.Test.YtbonchnhngaicaaX17
namespace Go.Proofs.Ytbonchnhngaicaa
open Go.RowKit Go.Sort Go.BigFrame
set_option linter.unusedVariables false
set_option linter.unusedSimpArgs false

def upd {α : Type} (f : Nat → α) (i : Nat) (a : α) : Nat → α := fun j => if j = i then a else f j
theorem upd_same {α : Type} (f : Nat → α) (i : Nat) (a : α) : upd f i a i = a := by simp [upd]
theorem upd_ne {α : Type} (f : Nat → α) {i j : Nat} (a : α) (h : j ≠ i) : upd f i a j = f j := by simp [upd, h]

/-! ### lists of cells by pieces of one length -/
def puts : List Value → Nat → List Value → List Value
  | xs, _, [] => xs
  | xs, p, u :: us => puts (xs.set p u) (p + 1) us
theorem puts_len : ∀ (us xs : List Value) (p : Nat), (puts xs p us).length = xs.length
  | [], _, _ => rfl
  | u :: us, xs, p => by rw [puts, puts_len us]; simp
theorem puts_get : ∀ (us xs : List Value) (p q : Nat), (puts xs p us)[q]? = if p ≤ q ∧ q < p + us.length ∧ q < xs.length then us[q - p]? else xs[q]?
  | [], xs, p, q => by
    rw [if_neg (by simp; omega)]; rfl
  | u :: us, xs, p, q => by
    rw [puts, puts_get us, List.length_set, List.getElem?_set]
    by_cases h : p + 1 ≤ q ∧ q < p + 1 + us.length ∧ q < xs.length
    · rw [if_pos h, if_pos (by simp; omega), show q - p = (q - (p + 1)) + 1 from by omega]; rfl
    · rw [if_neg h]
      by_cases hp : p = q
      · subst hp
        by_cases hx : p < xs.length
        · rw [if_pos rfl, if_pos hx, if_pos (by simp; omega), Nat.sub_self]; rfl
        · rw [if_pos rfl, if_neg hx, if_neg (by omega), List.getElem?_eq_none (by omega)]
      · rw [if_neg hp, if_neg (by simp; omega)]
def blk (f : Nat → List Value) (n : Nat) : List Value := (List.range n).flatMap f
theorem blk_succ (f : Nat → List Value) (n : Nat) : blk f (n + 1) = blk f n ++ f n := by simp [blk, List.range_succ]
theorem blk_len {f : Nat → List Value} {s : Nat} (hf : ∀ i, (f i).length = s) : ∀ n, (blk f n).length = n * s
  | 0 => by simp [blk]
  | n + 1 => by rw [blk_succ, List.length_append, blk_len hf n, hf, Nat.succ_mul]
theorem blk_get {f : Nat → List Value} {s : Nat} (hf : ∀ i, (f i).length = s) : ∀ (n i j : Nat), i < n → j < s → (blk f n)[i * s + j]? = (f i)[j]?
  | 0, i, j, hi, _ => by omega
  | n + 1, i, j, hi, hj => by
    rw [blk_succ]
    have h1 : i * s + j < i * s + s := by omega
    by_cases h : i < n
    · have h2 : (i + 1) * s ≤ n * s := Nat.mul_le_mul_right s h
      rw [List.getElem?_append_left (by rw [blk_len hf]; rw [Nat.succ_mul] at h2; omega)]
      exact blk_get hf n i j h hj
    · obtain rfl : i = n := by omega
      rw [List.getElem?_append_right (by rw [blk_len hf]; omega), blk_len hf, Nat.add_sub_cancel_left]
theorem blk_congr {f g : Nat → List Value} {n : Nat} (h : ∀ i, i < n → f i = g i) : blk f n = blk g n := by
  unfold blk
  induction n with
  | zero => rfl
  | succ n ih => rw [List.range_succ]; simp [ih fun i hi => h i (by omega), h n (by omega)]
theorem puts_blk {f : Nat → List Value} {s : Nat} (hf : ∀ i, (f i).length = s) {n i : Nat} (hi : i < n) (us : List Value) (hu : us.length = s) : puts (blk f n) (i * s) us = blk (upd f i us) n := by
  have hg : ∀ j, (upd f i us j).length = s := fun j => by unfold upd; split <;> simp [hu, hf]
  apply List.ext_getElem?
  intro q
  rw [puts_get, blk_len hf]
  by_cases hq : q < n * s
  · have hs : 0 < s := by
      rcases Nat.eq_zero_or_pos s with h | h
      · subst h; simp at hq
      · exact h
    have e : q = q / s * s + q % s := by rw [Nat.mul_comm]; exact (Nat.div_add_mod q s).symm
    have h1 : q % s < s := Nat.mod_lt _ hs
    have h2 : q / s < n := Nat.div_lt_of_lt_mul (by rw [Nat.mul_comm]; exact hq)
    have h3 : (blk f n)[q]? = (f (q / s))[q % s]? := by have := blk_get hf n (q / s) (q % s) h2 h1; rwa [← e] at this
    have h4 : (blk (upd f i us) n)[q]? = (upd f i us (q / s))[q % s]? := by have := blk_get hg n (q / s) (q % s) h2 h1; rwa [← e] at this
    rw [h3, h4]
    by_cases hqi : q / s = i
    · rw [hqi, upd_same]
      rw [hqi] at e
      rw [if_pos (by omega), show q - i * s = q % s from by omega]
    · rw [upd_ne _ _ hqi, if_neg]
      rintro ⟨a1, a2, _⟩
      apply hqi
      exact (Nat.div_eq_iff hs).2 ⟨by omega, by omega⟩
  · rw [if_neg (by omega), List.getElem?_eq_none (by rw [blk_len hf]; omega), List.getElem?_eq_none (by rw [blk_len hg]; omega)]
theorem list_range {α : Type} [Inhabited α] : ∀ l : List α, l = (List.range l.length).map (fun i => l.getD i default) := fun l => by
  apply List.ext_getElem?
  intro i
  rw [List.getElem?_map]
  by_cases hi : i < l.length
  · simp [hi]
  · rw [List.getElem?_eq_none (by omega), List.getElem?_eq_none (by simp; omega)]; rfl
theorem flat_blk (l : List Ofr) : flat l = blk (fun i => (l.getD i default).cs) l.length := by
  conv => lhs; rw [list_range l]
  unfold flat blk
  rw [List.flatMap_map]
def flatD (l : List Ds) : List Value := l.flatMap Ds.cs
theorem flatD_blk (l : List Ds) : flatD l = blk (fun i => (l.getD i default).cs) l.length := by
  conv => lhs; rw [list_range l]
  unfold flatD blk
  rw [List.flatMap_map]
theorem flatD_append (a b : List Ds) : flatD (a ++ b) = flatD a ++ flatD b := by simp [flatD]
theorem flatD_len (l : List Ds) : (flatD l).length = l.length * 2 := by rw [flatD_blk]; exact blk_len (s := 2) (fun i => rfl) _
theorem flat_put {l : List Ofr} {j : Nat} (hj : j < l.length) (o : Ofr) : puts (flat l) (j * 4) o.cs = flat (l.set j o) := by
  rw [flat_blk, flat_blk, List.length_set]
  refine (puts_blk (s := 4) (fun i => rfl) hj o.cs rfl).trans ?_
  refine blk_congr fun i hi => ?_
  unfold upd
  by_cases h : i = j
  · subst h; simp [hj]
  · rw [if_neg h]
    simp only [List.getD_eq_getElem?_getD]
    rw [List.getElem?_set_ne (fun e => h e.symm)]
def rtsC (R : Nat → Rt) (n : Nat) : List Value := blk (fun i => (R i).cs) n
theorem rtsC_put (R : Nat → Rt) {n i : Nat} (hi : i < n) (r : Rt) : puts (rtsC R n) (i * 5) r.cs = rtsC (upd R i r) n := by
  unfold rtsC
  refine (puts_blk (s := 5) (fun i => rfl) hi r.cs rfl).trans ?_
  refine blk_congr fun j _ => ?_
  unfold upd; split <;> rfl
theorem rtsC_get (R : Nat → Rt) {n i j : Nat} (hi : i < n) (hj : j < 5) : (rtsC R n)[i * 5 + j]? = (R i).cs[j]? := blk_get (s := 5) (fun i => rfl) n i j hi hj

/-! ### rows -/
inductive Ix where
  | r | t | h
  | ti (i : Nat)
  | hi (i : Nat)
deriving DecidableEq
structure Rw where
  e : TypeId
  sz : Nat
  v : Value
  n : Nat
  xs : List Value
def Rows' (w : World) (base : Nat) (f : Ix → Rw) : Prop :=
  (∀ k, w.ownsRow base (f k).e (f k).sz (f k).v (f k).n (f k).xs) ∧ ∀ k k' b, k ≠ k' → (f k).v.ownBlock = some b → (f k').v.ownBlock ≠ some b
theorem Rows'.congr {w : World} {base : Nat} {f g : Ix → Rw} (h : Rows' w base f) (e : ∀ k, f k = g k) : Rows' w base g := by
  rw [show g = f from funext fun k => (e k).symm]; exact h
theorem ownsRow_below' {B : Nat} {e : TypeId} {k : Nat} {v : Value} {n : Nat} {xs : List Value} {w w' : World} (h : w.ownsRow B e k v n xs) (hb : Below w.heap.size w w') : w'.ownsRow B e k v n xs :=
  h.kept (row := none) ⟨hb.os, hb.tape, hb.output, hb.size, fun i hi _ => hb.block i hi⟩ (by cases v.ownBlock <;> simp)
theorem Rows'.keep {w w' : World} {base : Nat} {f : Ix → Rw} (h : Rows' w base f) (hb : Below w.heap.size w w') : Rows' w' base f := ⟨fun k => ownsRow_below' (h.1 k) hb, h.2⟩
def fput (f : Ix → Rw) (k : Ix) (R : Rw) : Ix → Rw := fun j => if j = k then R else f j
theorem Rows'.app {w w' : World} {base : Nat} {f : Ix → Rw} (h : Rows' w base f) (k : Ix) {e : TypeId} {sz : Nat} {v : Value} {n : Nat} {xs : List Value} (ho : w'.ownsRow base e sz v n xs)
    (hg : w.grownBy w' (f k).v.ownBlock) (hv : v.ownBlock = (f k).v.ownBlock ∨ v.ownBlock = some w.heap.size) : Rows' w' base (fput f k ⟨e, sz, v, n, xs⟩) := by
  refine ⟨fun j => ?_, fun j j' b hjj hj hj' => ?_⟩
  · unfold fput
    by_cases hjk : j = k
    · rw [if_pos hjk]; exact ho
    · rw [if_neg hjk]
      refine (h.1 j).kept hg ?_
      cases hb : (f j).v.ownBlock with
      | none => exact .inl rfl
      | some b => exact .inr fun e => h.2 j k b hjk hb e.symm
  · unfold fput at hj hj'
    by_cases hjk : j = k
    · have hjk' : j' ≠ k := fun e => hjj (hjk.trans e.symm)
      rw [if_pos hjk] at hj; rw [if_neg hjk'] at hj'
      simp only at hj
      rcases hv with hv | hv
      · exact h.2 j' k b hjk' hj' (by rw [← hv]; exact hj)
      · have := ((h.1 j').lt b hj').2
        rw [hv] at hj; simp at hj; omega
    · rw [if_neg hjk] at hj
      by_cases hjk' : j' = k
      · rw [if_pos hjk'] at hj'
        simp only at hj'
        rcases hv with hv | hv
        · exact h.2 j k b hjk hj (by rw [← hv]; exact hj')
        · have := ((h.1 j).lt b hj).2
          rw [hv] at hj'; simp at hj'; omega
      · rw [if_neg hjk'] at hj'; exact h.2 j j' b hjj hj hj'
theorem Rows'.set {w : World} {base : Nat} {f : Ix → Rw} (h : Rows' w base f) (k : Ix) {g cap : Nat} (hv : (f k).v = .slice (some ⟨g, 0, none⟩) (f k).n cap) (j : Nat) (u : Value) :
    Rows' (w.setCell ⟨g, j, none⟩ u) base (fput f k { f k with xs := (f k).xs.set j u }) ∧ w.grownBy (w.setCell ⟨g, j, none⟩ u) (some g) := by
  have ho := h.1 k
  rw [hv] at ho
  obtain ⟨s1, s2⟩ := World.ownsRow.stored ho j u
  refine ⟨h.app k (by rw [hv]; exact s1) (by rw [hv]; exact s2) (.inl rfl), s2⟩
theorem Rows'.nil {w : World} {base : Nat} {f : Ix → Rw} (h : Rows' w base f) (k : Ix) (e : TypeId) (sz : Nat) : Rows' w base (fput f k ⟨e, sz, .slice none 0 0, 0, []⟩) := by
  refine ⟨fun j => ?_, fun j j' b hjj hj hj' => ?_⟩
  · unfold fput
    by_cases hjk : j = k
    · rw [if_pos hjk]; exact World.ownsRow_nil _ _ _ _
    · rw [if_neg hjk]; exact h.1 j
  · unfold fput at hj hj'
    by_cases hjk : j = k
    · rw [if_pos hjk] at hj; simp [Value.ownBlock] at hj
    · rw [if_neg hjk] at hj
      by_cases hjk' : j' = k
      · rw [if_pos hjk'] at hj'; simp [Value.ownBlock] at hj'
      · rw [if_neg hjk'] at hj'; exact h.2 j j' b hjj hj hj'
def putC (g : Nat) : World → Nat → List Value → World
  | w, _, [] => w
  | w, p, u :: us => putC g (w.setCell ⟨g, p, none⟩ u) (p + 1) us
theorem fput_fput (f : Ix → Rw) (k : Ix) (A B : Rw) : fput (fput f k A) k B = fput f k B := by
  funext j; unfold fput; by_cases h : j = k <;> simp [h]
theorem fput_id (f : Ix → Rw) (k : Ix) : fput f k (f k) = f := by
  funext j; unfold fput; by_cases h : j = k <;> simp [h]
theorem Rows'.puts {base g cap : Nat} {k : Ix} : ∀ (us : List Value) {w : World} {f : Ix → Rw} (p : Nat), Rows' w base f → (f k).v = .slice (some ⟨g, 0, none⟩) (f k).n cap →
    Rows' (putC g w p us) base (fput f k { f k with xs := puts (f k).xs p us }) ∧ w.grownBy (putC g w p us) (some g)
  | [], w, f, p, h, hv => ⟨by rw [show ({ f k with xs := Go.Proofs.Ytbonchnhngaicaa.puts (f k).xs p [] } : Rw) = f k from rfl, fput_id]; exact h, World.grownBy.refl _ _⟩
  | u :: us, w, f, p, h, hv => by
    obtain ⟨h1, h2⟩ := h.set k hv p u
    have hk : fput f k { f k with xs := (f k).xs.set p u } k = { f k with xs := (f k).xs.set p u } := by simp [fput]
    obtain ⟨h3, h4⟩ := Rows'.puts us (p + 1) h1 (by rw [hk]; exact hv)
    rw [hk, fput_fput] at h3
    exact ⟨h3, h2.trans h4⟩
end Go.Proofs.Ytbonchnhngaicaa
