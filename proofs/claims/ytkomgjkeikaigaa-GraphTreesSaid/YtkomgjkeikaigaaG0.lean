/- Proved: plain facts on lists of parents: iterated steps, loops, who reaches whom. Conditions: those that each theorem names. -/
import Derived.Test.YtkomgjkeikaigaaBox
namespace Go.Proofs.Ytkomgjkeikaigaa
set_option linter.unusedVariables false

theorem pigeon : ∀ (n : Nat) (f : Nat → Nat), (∀ i, i ≤ n → f i < n) → ∃ a b, a < b ∧ b ≤ n ∧ f a = f b
  | 0, f, hf => absurd (hf 0 (Nat.le_refl _)) (Nat.not_lt_zero _)
  | n + 1, f, hf => by
    by_cases h : ∃ a, a ≤ n ∧ f a = f (n + 1)
    · obtain ⟨a, ha, he⟩ := h; exact ⟨a, n + 1, by omega, Nat.le_refl _, he⟩
    · have hne : ∀ a, a ≤ n → f a ≠ f (n + 1) := fun a ha he => h ⟨a, ha, he⟩
      obtain ⟨a, b, hab, hb, he⟩ := pigeon n (fun i => if f i = n then f (n + 1) else f i) (fun i hi => by
        have h1 := hf i (by omega); have h2 := hf (n + 1) (Nat.le_refl _); have h3 := hne i hi
        show (if f i = n then f (n + 1) else f i) < n
        split <;> omega)
      refine ⟨a, b, hab, by omega, ?_⟩
      have h1 := hne a (by omega); have h2 := hne b hb
      split at he <;> split at he <;> first | omega | (exact absurd he.symm (by omega)) 

/-! ### parents -/
def pAt (l : List Int) (i : Nat) : Int := l.getD i 0
def inR (l : List Int) (i : Int) : Prop := 0 ≤ i ∧ i < (l.length : Int)
instance (l : List Int) (i : Int) : Decidable (inR l i) := inferInstanceAs (Decidable (_ ∧ _))
def stepI (l : List Int) (i : Int) : Int := if inR l i ∧ inR l (pAt l i.toNat) then pAt l i.toNat else -1
def itr (l : List Int) (i : Int) : Nat → Int
  | 0 => i
  | k + 1 => stepI l (itr l i k)
def meetTo (l : List Int) (i goal : Int) : Nat → Bool
  | 0 => false
  | k + 1 => meetTo l i goal k || (itr l i (k + 1) == goal)
def meets (l : List Int) (i goal : Int) : Bool := meetTo l i goal l.length
theorem meetTo_iff {l : List Int} {i goal : Int} : ∀ {k : Nat}, meetTo l i goal k = true ↔ ∃ j, 1 ≤ j ∧ j ≤ k ∧ itr l i j = goal
  | 0 => by simp [meetTo]; intro j h1 h2; omega
  | k + 1 => by
    rw [meetTo, Bool.or_eq_true, meetTo_iff, beq_iff_eq]
    constructor
    · rintro (⟨j, h1, h2, h3⟩ | h)
      · exact ⟨j, h1, by omega, h3⟩
      · exact ⟨k + 1, by omega, Nat.le_refl _, h⟩
    · rintro ⟨j, h1, h2, h3⟩
      rcases Nat.lt_or_ge k j with h | h
      · right; rw [show k + 1 = j by omega]; exact h3
      · exact .inl ⟨j, h1, h, h3⟩
theorem step_range (l : List Int) (i : Int) : stepI l i = -1 ∨ inR l i ∧ inR l (stepI l i) := by
  unfold stepI; split
  · rename_i h; exact .inr h
  · exact .inl rfl
theorem step_neg {l : List Int} : stepI l (-1) = -1 := by unfold stepI inR; rw [if_neg (by omega)]
theorem step_out {l : List Int} {i : Int} (h : ¬ inR l i) : stepI l i = -1 := by unfold stepI; rw [if_neg (fun x => h x.1)]
theorem step_nonneg {l : List Int} {i : Int} (h : 0 ≤ stepI l i) : inR l i ∧ inR l (stepI l i) := (step_range l i).resolve_left (by omega)
theorem itr_succ (l : List Int) (i : Int) : ∀ k, itr l i (k + 1) = itr l (stepI l i) k
  | 0 => rfl
  | k + 1 => by rw [itr, itr_succ l i k]; rfl
theorem itr_add (l : List Int) (i : Int) (a : Nat) : ∀ b, itr l i (a + b) = itr l (itr l i a) b
  | 0 => rfl
  | b + 1 => by rw [← Nat.add_assoc, itr, itr_add l i a b]; rfl
theorem itr_back {l : List Int} {i : Int} : ∀ {k : Nat}, inR l (itr l i k) → ∀ j, j ≤ k → inR l (itr l i j)
  | 0, h, j, hj => by rw [show j = 0 by omega]; exact h
  | k + 1, h, j, hj => by
    rcases Nat.lt_or_ge k j with hk | hk
    · rw [show j = k + 1 by omega]; exact h
    · refine itr_back (k := k) ?_ j hk
      rcases step_range l (itr l i k) with h1 | h1
      · rw [itr, h1] at h; exact absurd h.1 (by omega)
      · exact h1.1
theorem itr_near {l : List Int} {i goal : Int} (hg : inR l goal) : ∀ {k : Nat}, itr l i k = goal → ∃ j, j < l.length ∧ itr l i j = goal := by
  intro k
  induction k using Nat.strongRecOn with
  | _ k ih =>
    intro h
    rcases Nat.lt_or_ge k l.length with hk | hk
    · exact ⟨k, hk, h⟩
    · have hr := itr_back (l := l) (i := i) (k := k) (by rw [h]; exact hg)
      obtain ⟨a, b, hab, hb, he⟩ := pigeon l.length (fun j => (itr l i j).toNat) (fun j hj => by have := hr j (by omega); unfold inR at this; omega)
      have ha := hr a (by omega); have hb' := hr b (by omega)
      have he' : itr l i a = itr l i b := by unfold inR at ha hb'; omega
      refine ih (k - (b - a)) (by omega) ?_
      rw [show k - (b - a) = a + (k - b) by omega, itr_add, he', ← itr_add, show b + (k - b) = k by omega]; exact h
/-- A chain of a full length meets a node twice. -/
theorem itr_twice {l : List Int} {i : Int} (h : inR l (itr l i l.length)) : ∃ a b, a < b ∧ b ≤ l.length ∧ itr l i a = itr l i b := by
  have hr := itr_back h
  obtain ⟨a, b, hab, hb, he⟩ := pigeon l.length (fun j => (itr l i j).toNat) (fun j hj => by have := hr j (by omega); unfold inR at this; omega)
  have ha := hr a (by omega); have hb' := hr b (by omega)
  exact ⟨a, b, hab, hb, by unfold inR at ha hb'; omega⟩
def loopTo (l : List Int) : Nat → List Int
  | 0 => []
  | k + 1 => if meets l k k = true then loopTo l k ++ [(k : Int)] else loopTo l k
def loopL (l : List Int) : List Int := if l.length ≤ 60 then loopTo l l.length else []
theorem loopTo_mem {l : List Int} : ∀ {k : Nat} {x : Int}, x ∈ loopTo l k ↔ 0 ≤ x ∧ x < k ∧ meets l x x = true
  | 0, x => by simp [loopTo]; omega
  | k + 1, x => by
    unfold loopTo
    split
    · rename_i h
      rw [List.mem_append, loopTo_mem, List.mem_singleton]
      constructor
      · rintro (⟨h1, h2, h3⟩ | h1)
        · exact ⟨h1, by omega, h3⟩
        · subst h1; exact ⟨by omega, by omega, h⟩
      · rintro ⟨h1, h2, h3⟩
        by_cases hx : x = k
        · exact .inr hx
        · exact .inl ⟨h1, by omega, h3⟩
    · rename_i h
      rw [loopTo_mem]
      constructor
      · rintro ⟨h1, h2, h3⟩; exact ⟨h1, by omega, h3⟩
      · rintro ⟨h1, h2, h3⟩
        by_cases hx : x = k
        · subst hx; exact absurd h3 h
        · exact ⟨h1, by omega, h3⟩
theorem loopTo_len {l : List Int} : ∀ k : Nat, (loopTo l k).length ≤ k
  | 0 => by simp [loopTo]
  | k + 1 => by unfold loopTo; have := loopTo_len (l := l) k; split <;> simp <;> omega
theorem loopTo_sorted {l : List Int} : ∀ k : Nat, (loopTo l k).Pairwise (· < ·)
  | 0 => List.Pairwise.nil
  | k + 1 => by
    unfold loopTo
    split
    · rw [List.pairwise_append]
      refine ⟨loopTo_sorted k, List.pairwise_singleton _ _, fun a ha b hb => ?_⟩
      rw [List.mem_singleton] at hb; subst hb
      exact (loopTo_mem.1 ha).2.1
    · exact loopTo_sorted k
theorem meets_of {l : List Int} {i goal : Int} (hg : inR l goal) {k : Nat} (hk : 1 ≤ k) (h : itr l i k = goal) : meets l i goal = true := by
  obtain ⟨j, hj, he⟩ := itr_near hg (i := stepI l i) (k := k - 1) (by rw [← itr_succ, show k - 1 + 1 = k by omega]; exact h)
  exact meetTo_iff.2 ⟨j + 1, by omega, by omega, by rw [itr_succ]; exact he⟩
theorem meets_next {l : List Int} {i : Int} (hi : inR l i) (h : meets l i i = true) : inR l (stepI l i) ∧ meets l (stepI l i) (stepI l i) = true := by
  obtain ⟨j, h1, h2, h3⟩ := meetTo_iff.1 h
  have hr := itr_back (k := j) (by rw [h3]; exact hi) 1 h1
  have hr' : inR l (stepI l i) := hr
  refine ⟨hr', meetTo_iff.2 ⟨j, h1, h2, ?_⟩⟩
  rw [← itr_succ, itr, h3]
def reachB (l : List Int) (root i : Int) : Bool := (i == root) || meets l i root
def reachL (l : List Int) (root : Int) : List Bool :=
  if l.length ≤ 60 then (List.range l.length).map (fun i : Nat => decide (inR l root) && reachB l root (i : Int)) else []
theorem reach_iff {l : List Int} {root i : Int} (hg : inR l root) : reachB l root i = true ↔ ∃ k, itr l i k = root := by
  unfold reachB
  rw [Bool.or_eq_true, beq_iff_eq]
  constructor
  · rintro (h | h)
    · exact ⟨0, h⟩
    · obtain ⟨j, _, _, h3⟩ := meetTo_iff.1 h; exact ⟨j, h3⟩
  · rintro ⟨k, h⟩
    cases k with
    | zero => exact .inl h
    | succ k => exact .inr (meets_of hg (by omega) h)
theorem reach_step {l : List Int} {root i : Int} (hg : inR l root) : reachB l root i = ((i == root) || (decide (0 ≤ stepI l i) && reachB l root (stepI l i))) := by
  rw [Bool.eq_iff_iff, reach_iff hg, Bool.or_eq_true, beq_iff_eq, Bool.and_eq_true, decide_eq_true_eq, reach_iff hg]
  constructor
  · rintro ⟨k, h⟩
    cases k with
    | zero => exact .inl h
    | succ k =>
      have h' := h
      rw [itr_succ] at h
      refine .inr ⟨?_, k, h⟩
      exact (itr_back (k := k + 1) (by rw [h']; exact hg) 1 (by omega)).1
  · rintro (h | ⟨_, k, h⟩)
    · exact ⟨0, h⟩
    · exact ⟨k + 1, by rw [itr_succ]; exact h⟩
theorem reach_loop {l : List Int} {root i : Int} (hg : inR l root) (h1 : meets l i i = true) (h2 : reachB l root i = true) : meets l root root = true := by
  obtain ⟨c, hc, _, h3⟩ := meetTo_iff.1 h1
  obtain ⟨k, hk⟩ := (reach_iff hg).1 h2
  refine meets_of hg hc ?_
  rw [← hk, ← itr_add, Nat.add_comm, itr_add, h3]
/-- Numbers that fall along the parents: no loop. -/
theorem fall {l : List Int} {num : Int → Int} (hn : ∀ i, inR l i → 0 ≤ stepI l i → num (stepI l i) < num i) {i : Int} : ∀ {k : Nat}, 1 ≤ k → inR l (itr l i k) → num (itr l i k) < num i
  | 0, h, _ => absurd h (by omega)
  | k + 1, _, h => by
    have hb := itr_back h k (by omega)
    have h1 := hn _ hb h.1
    cases k with
    | zero => exact h1
    | succ k => have := fall hn (i := i) (k := k + 1) (by omega) hb; rw [itr]; omega
theorem fall_loop {l : List Int} {num : Int → Int} (hn : ∀ i, inR l i → 0 ≤ stepI l i → num (stepI l i) < num i) : loopL l = [] := by
  unfold loopL
  split
  · refine List.eq_nil_iff_forall_not_mem.2 fun x hx => ?_
    obtain ⟨h1, h2, h3⟩ := loopTo_mem.1 hx
    obtain ⟨j, h4, _, h5⟩ := meetTo_iff.1 h3
    have := fall hn (i := x) (k := j) h4 (by rw [h5]; exact ⟨h1, h2⟩)
    rw [h5] at this; omega
  · rfl
theorem fall_ends {l : List Int} {num : Int → Int} (hn : ∀ i, inR l i → 0 ≤ stepI l i → num (stepI l i) < num i) {i : Int} : ¬ inR l (itr l i l.length) := fun h => by
  obtain ⟨a, b, hab, hb, he⟩ := itr_twice h
  have hr := itr_back h
  have := fall hn (i := itr l i a) (k := b - a) (by omega) (by rw [← itr_add, show a + (b - a) = b by omega]; exact hr b hb)
  rw [← itr_add, show a + (b - a) = b by omega, ← he] at this; omega

/-! ### the passes of graph.Reaches -/
def pass1 (l : List Int) (o : List Bool) (i : Nat) : List Bool := o.set i (o.getD i false || (decide (inR l (pAt l i)) && o.getD (pAt l i).toNat false))
def passTo (l : List Int) (o : List Bool) : Nat → List Bool
  | 0 => o
  | k + 1 => pass1 l (passTo l o k) k
def roundTo (l : List Int) (o : List Bool) : Nat → List Bool
  | 0 => o
  | k + 1 => passTo l (roundTo l o k) l.length
theorem pass1_len {l : List Int} {o : List Bool} {i : Nat} : (pass1 l o i).length = o.length := by simp [pass1]
theorem passTo_len {l : List Int} {o : List Bool} : ∀ k, (passTo l o k).length = o.length
  | 0 => rfl
  | k + 1 => by rw [passTo, pass1_len, passTo_len k]
theorem roundTo_len {l : List Int} {o : List Bool} : ∀ k, (roundTo l o k).length = o.length
  | 0 => rfl
  | k + 1 => by rw [roundTo, passTo_len, roundTo_len k]
theorem getD_set {α : Type} (o : List α) (d : α) (i j : Nat) (x : α) : (o.set i x).getD j d = if i = j ∧ i < o.length then x else o.getD j d := by
  rw [List.getD_eq_getElem?_getD, List.getD_eq_getElem?_getD, List.getElem?_set]
  by_cases h : i = j
  · subst h
    by_cases h2 : i < o.length
    · simp [h2]
    · simp [h2]
  · simp [h]
theorem pass1_mono {l : List Int} {o : List Bool} {i j : Nat} (h : o.getD j false = true) : (pass1 l o i).getD j false = true := by
  unfold pass1; rw [getD_set]; split
  · rename_i hh; rw [hh.1, h]; rfl
  · exact h
theorem passTo_mono {l : List Int} {o : List Bool} {j : Nat} (h : o.getD j false = true) : ∀ k, (passTo l o k).getD j false = true
  | 0 => h
  | k + 1 => pass1_mono (passTo_mono h k)
/-- What is marked reaches the root. -/
def Sound (l : List Int) (root : Int) (o : List Bool) : Prop := ∀ i : Nat, i < l.length → o.getD i false = true → ∃ k, itr l i k = root
theorem pass1_sound {l : List Int} {root : Int} {o : List Bool} {i : Nat} (h : Sound l root o) (hi : i < l.length) (hl : o.length = l.length) : Sound l root (pass1 l o i) := fun j hj hb => by
  unfold pass1 at hb; rw [getD_set] at hb
  split at hb
  · rename_i hh
    obtain ⟨rfl, _⟩ := hh
    rw [Bool.or_eq_true, Bool.and_eq_true, decide_eq_true_eq] at hb
    rcases hb with hb | ⟨h1, h2⟩
    · exact h i hj hb
    · have h3 : inR l (pAt l i) := h1
      obtain ⟨k, hk⟩ := h (pAt l i).toNat (by unfold inR at h3; omega) h2
      refine ⟨k + 1, ?_⟩
      rw [itr_succ, show stepI l (i : Int) = pAt l i from by unfold stepI; rw [if_pos ⟨⟨by omega, by omega⟩, by simpa using h1⟩]; simp]
      rw [show ((pAt l i).toNat : Int) = pAt l i from by unfold inR at h3; omega] at hk
      exact hk
  · exact h j hj hb
theorem passTo_sound {l : List Int} {root : Int} {o : List Bool} (h : Sound l root o) (hl : o.length = l.length) : ∀ k, k ≤ l.length → Sound l root (passTo l o k)
  | 0, _ => h
  | k + 1, hk => pass1_sound (passTo_sound h hl k (by omega)) (by omega) (by rw [passTo_len, hl])
theorem roundTo_sound {l : List Int} {root : Int} {o : List Bool} (h : Sound l root o) (hl : o.length = l.length) : ∀ k, Sound l root (roundTo l o k)
  | 0 => h
  | k + 1 => passTo_sound (roundTo_sound h hl k) (by rw [roundTo_len, hl]) _ (Nat.le_refl _)
theorem passTo_take {l : List Int} {o : List Bool} (hl : o.length = l.length) {i : Nat} (hi : i < l.length) (h1 : inR l (pAt l i)) (h2 : o.getD (pAt l i).toNat false = true) : ∀ k, i < k → k ≤ l.length → (passTo l o k).getD i false = true
  | 0, h, _ => absurd h (Nat.not_lt_zero _)
  | k + 1, h, hk => by
    rcases Nat.lt_or_ge i k with h3 | h3
    · exact pass1_mono (passTo_take hl hi h1 h2 k h3 (by omega))
    · have : i = k := by omega
      subst this
      rw [passTo]; unfold pass1; rw [getD_set, if_pos ⟨rfl, by rw [passTo_len, hl]; exact hi⟩]
      rw [passTo_mono h2, decide_eq_true h1]; simp
theorem roundTo_full {l : List Int} {root : Int} {o : List Bool} (hg : inR l root) (hl : o.length = l.length) (h0 : o.getD root.toNat false = true) : ∀ r (i : Nat), i < l.length → ∀ k, k ≤ r → itr l i k = root → (roundTo l o r).getD i false = true
  | 0, i, hi, k, hk, h => by
    have : k = 0 := by omega
    subst this
    have h' : (i : Int) = root := h
    rw [← h'] at h0; show o.getD i false = true; simpa using h0
  | r + 1, i, hi, k, hk, h => by
    cases k with
    | zero => exact passTo_mono (roundTo_full hg hl h0 r i hi 0 (by omega) h) _
    | succ k =>
      rw [itr_succ] at h
      have hs : inR l (stepI l i) := by
        have := itr_back (l := l) (i := (i : Int)) (k := k + 1) (by rw [itr_succ, h]; exact hg) 1 (by omega)
        exact this
      have he : stepI l (i : Int) = pAt l i := by
        have h1 := hs; unfold stepI at h1 ⊢
        split at h1
        · rename_i hh; rw [if_pos hh]; simp
        · exact absurd h1.1 (by omega)
      rw [he] at h hs
      rw [show pAt l i = (((pAt l i).toNat : Nat) : Int) from by unfold inR at hs; omega] at h
      have := roundTo_full hg hl h0 r (pAt l i).toNat (by unfold inR at hs; omega) k (by omega) h
      exact passTo_take (by rw [roundTo_len, hl]) hi hs this _ hi (Nat.le_refl _)
def start (l : List Int) (root : Int) : List Bool := (List.replicate l.length false).set root.toNat true
theorem rounds_reach {l : List Int} {root : Int} (hg : inR l root) (h60 : l.length ≤ 60) : roundTo l (start l root) l.length = reachL l root := by
  have hls : (start l root).length = l.length := by simp [start]
  have h0 : (start l root).getD root.toNat false = true := by unfold start; rw [getD_set, if_pos ⟨rfl, by unfold inR at hg; simp; omega⟩]
  have hsnd : Sound l root (start l root) := fun i hi hb => by
    unfold start at hb; rw [getD_set] at hb
    split at hb
    · rename_i hh; exact ⟨0, by unfold inR at hg; show (i : Int) = root; omega⟩
    · rw [List.getD_eq_getElem?_getD, List.getElem?_replicate] at hb; split at hb <;> simp at hb
  refine List.ext_getElem? fun i => ?_
  unfold reachL; rw [if_pos h60]
  by_cases hi : i < l.length
  · have hx : (roundTo l (start l root) l.length)[i]? = some ((roundTo l (start l root) l.length).getD i false) := by
      rw [List.getD_eq_getElem?_getD, List.getElem?_eq_getElem (by rw [roundTo_len, hls]; exact hi)]; rfl
    rw [hx, List.getElem?_map, List.getElem?_range hi]
    simp only [Option.map_some, Option.some.injEq]
    rw [decide_eq_true hg, Bool.true_and, Bool.eq_iff_iff, reach_iff hg]
    constructor
    · exact roundTo_sound hsnd hls _ i hi
    · rintro ⟨k, hk⟩
      obtain ⟨j, hj, he⟩ := itr_near hg hk
      exact roundTo_full hg hls h0 _ i hi j (by omega) he
  · rw [List.getElem?_eq_none (by rw [roundTo_len, hls]; omega), List.getElem?_eq_none (by simp; omega)]
end Go.Proofs.Ytkomgjkeikaigaa
