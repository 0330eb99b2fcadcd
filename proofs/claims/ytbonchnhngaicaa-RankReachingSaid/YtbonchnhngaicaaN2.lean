/- Proved: plain facts on what links reach from node 0, round by round, and on lists of offers of different peers. Conditions: those that each theorem names. -/
import Derived.Test.YtbonchnhngaicaaN1
namespace Go.Proofs.Ytbonchnhngaicaa
set_option linter.unusedVariables false
set_option linter.unusedSimpArgs false

/-- Two nodes that a link joins. -/
def nb (ls : List (Nat × Nat)) (i j : Nat) : Prop := i ≠ j ∧ ((i, j) ∈ ls ∨ (j, i) ∈ ls)
theorem nb_comm {ls : List (Nat × Nat)} {i j : Nat} (h : nb ls i j) : nb ls j i := ⟨fun e => h.1 e.symm, h.2.symm⟩
/-- What links reach in so many steps. -/
def lay (ls : List (Nat × Nat)) : Nat → Nat → Prop
  | 0, i => i = 0
  | t + 1, i => lay ls t i ∨ ∃ j, nb ls i j ∧ lay ls t j
theorem lay_zero (ls : List (Nat × Nat)) : ∀ t, lay ls t 0
  | 0 => rfl
  | t + 1 => .inl (lay_zero ls t)
theorem lay_mono {ls : List (Nat × Nat)} {i t : Nat} : ∀ {u : Nat}, t ≤ u → lay ls t i → lay ls u i
  | 0, h, hl => by rwa [show t = 0 from by omega] at hl
  | u + 1, h, hl => by
    by_cases e : t = u + 1
    · rwa [e] at hl
    · exact .inl (lay_mono (by omega) hl)
theorem lay_lt {ls : List (Nat × Nat)} {n : Nat} (hn : 0 < n) (hl : ∀ l ∈ ls, l.1 < n ∧ l.2 < n) : ∀ {t i : Nat}, lay ls t i → i < n
  | 0, i, h => by rw [show i = 0 from h]; exact hn
  | t + 1, i, h => by
    rcases h with h | ⟨j, hj, _⟩
    · exact lay_lt hn hl h
    · rcases hj.2 with h | h
      · exact (hl _ h).1
      · exact (hl _ h).2
open Classical in
noncomputable def layCnt (ls : List (Nat × Nat)) (n t : Nat) : Nat := ((List.range n).filter (fun i => decide (lay ls t i))).length
open Classical in
theorem layCnt_le (ls : List (Nat × Nat)) (n t : Nat) : layCnt ls n t ≤ n := by
  have := List.length_filter_le (fun i => decide (lay ls t i)) (List.range n)
  simpa [layCnt] using this
open Classical in
theorem layCnt_step {ls : List (Nat × Nat)} {n t i : Nat} (hi : i < n) (h1 : lay ls (t + 1) i) (h0 : ¬ lay ls t i) : layCnt ls n t < layCnt ls n (t + 1) := by
  refine filter_sub _ (fun x _ hx => ?_) ⟨i, List.mem_range.2 hi, by simpa using h1, by simpa using h0⟩
  simp only [decide_eq_true_eq] at hx ⊢
  exact .inl hx
theorem lay_stop {ls : List (Nat × Nat)} {t : Nat} (h : ∀ i, lay ls (t + 1) i → lay ls t i) : ∀ k i, lay ls (t + k) i → lay ls t i
  | 0, i, hl => hl
  | k + 1, i, hl => by
    rcases hl with hl | ⟨j, hj, hl⟩
    · exact lay_stop h k i hl
    · exact h i (.inr ⟨j, hj, lay_stop h k j hl⟩)
theorem lay_closed {ls : List (Nat × Nat)} {n : Nat} (hn : 0 < n) (hl : ∀ l ∈ ls, l.1 < n ∧ l.2 < n) {i j : Nat} (h : nb ls i j) (hj : lay ls n j) : lay ls n i := by
  by_cases hex : ∃ t, t < n ∧ ∀ i, lay ls (t + 1) i → lay ls t i
  · obtain ⟨t, ht, hs⟩ := hex
    have h1 : lay ls (n + 1) i := .inr ⟨j, h, hj⟩
    have h2 := lay_stop hs (n + 1 - t) i (by rw [show t + (n + 1 - t) = n + 1 from by omega]; exact h1)
    exact lay_mono (by omega) h2
  · exfalso
    have hgr : ∀ t, t ≤ n → t < layCnt ls n t := by
      intro t
      induction t with
      | zero =>
        intro _
        unfold layCnt
        refine List.length_pos_of_mem (a := 0) ?_
        simp [lay, hn]
      | succ t ih =>
        intro ht
        have := ih (by omega)
        have hne : ¬ ∀ i, lay ls (t + 1) i → lay ls t i := fun h => hex ⟨t, by omega, h⟩
        obtain ⟨i, hi⟩ := Classical.not_forall.1 hne
        obtain ⟨h1, h0⟩ := Classical.not_imp.1 hi
        have := layCnt_step (lay_lt hn hl h1) h1 h0
        omega
    have := hgr n (Nat.le_refl n)
    have := layCnt_le ls n n
    omega
/-! ### the row of who is joined -/
def linkJ (J : Nat → Bool) (a b : Nat) : Nat → Bool := if a = b then J else upd (upd J a (J a || J b)) b (J a || J b)
def passJ (J : Nat → Bool) : List (Nat × Nat) → Nat → Bool
  | [] => J
  | l :: ls => passJ (linkJ J l.1 l.2) ls
theorem linkJ_up {J : Nat → Bool} {a b i : Nat} (h : J i = true) : linkJ J a b i = true := by
  unfold linkJ
  split
  · exact h
  · unfold upd
    split
    · subst_vars; simp [h]
    · split
      · subst_vars; simp [h]
      · exact h
theorem passJ_up : ∀ {ls : List (Nat × Nat)} {J : Nat → Bool} {i : Nat}, J i = true → passJ J ls i = true
  | [], _, _, h => h
  | l :: ls, J, i, h => passJ_up (ls := ls) (linkJ_up h)
theorem passJ_join : ∀ {ls : List (Nat × Nat)} {J : Nat → Bool} {i j : Nat}, nb ls i j → J j = true → passJ J ls i = true
  | [], _, _, _, h, _ => by rcases h.2 with h | h <;> cases h
  | l :: ls, J, i, j, h, hj => by
    show passJ (linkJ J l.1 l.2) ls i = true
    by_cases h1 : nb ls i j
    · exact passJ_join (ls := ls) h1 (linkJ_up hj)
    · refine passJ_up (ls := ls) ?_
      have hl : l = (i, j) ∨ l = (j, i) := by
        rcases h.2 with h' | h'
        · rcases List.mem_cons.1 h' with h' | h'
          · exact .inl h'.symm
          · exact absurd ⟨h.1, .inl h'⟩ h1
        · rcases List.mem_cons.1 h' with h' | h'
          · exact .inr h'.symm
          · exact absurd ⟨h.1, .inr h'⟩ h1
      have hne := h.1
      have hne' : ¬ j = i := fun e => hne e.symm
      rcases hl with rfl | rfl
      · simp [linkJ, upd, hne, hj]
      · simp [linkJ, upd, hne', hj]
theorem passJ_lay {ls : List (Nat × Nat)} {J : Nat → Bool} {t : Nat} (h : ∀ i, lay ls t i → J i = true) : ∀ i, lay ls (t + 1) i → passJ J ls i = true := fun i hl => by
  rcases hl with hl | ⟨j, hj, hl⟩
  · exact passJ_up (h i hl)
  · exact passJ_join hj (h j hl)
theorem passJ_in {C : Nat → Prop} : ∀ {ls : List (Nat × Nat)} {J : Nat → Bool}, (∀ i j, nb ls i j → C j → C i) → (∀ i, J i = true → C i) → ∀ i, passJ J ls i = true → C i
  | [], J, _, h, i, hi => h i hi
  | l :: ls, J, hC, h, i, hi => by
    refine passJ_in (ls := ls) (J := linkJ J l.1 l.2) (fun a b hab => hC a b ⟨hab.1, hab.2.imp (List.mem_cons_of_mem _) (List.mem_cons_of_mem _)⟩) (fun i hi => ?_) i hi
    unfold linkJ at hi
    split at hi
    · exact h i hi
    · rename_i hne
      have h12 : nb (l :: ls) l.1 l.2 := ⟨hne, .inl List.mem_cons_self⟩
      have hor : (J l.1 || J l.2) = true → C l.1 ∧ C l.2 := fun ho => by
        rcases Bool.or_eq_true _ _ ▸ ho with h1 | h1
        · exact ⟨h _ h1, hC _ _ (nb_comm h12) (h _ h1)⟩
        · exact ⟨hC _ _ h12 (h _ h1), h _ h1⟩
      unfold upd at hi
      split at hi
      · subst_vars; exact (hor hi).2
      · split at hi
        · subst_vars; exact (hor hi).1
        · exact h i hi
/-! ### offers of different peers -/
def Dis (l : List Ofr) : Prop := l.Pairwise (fun a b => a.p ≠ b.p)
theorem putO_dis : ∀ {l : List Ofr} {o : Ofr}, Dis l → Dis (putO l o)
  | [], o, _ => by simp [putO, Dis]
  | x :: l, o, h => by
    obtain ⟨h1, h2⟩ := List.pairwise_cons.1 h
    unfold putO
    split
    · rename_i e; exact List.pairwise_cons.2 ⟨fun y hy => by rw [← e]; exact h1 y hy, h2⟩
    · rename_i e
      refine List.pairwise_cons.2 ⟨fun y hy => ?_, putO_dis h2⟩
      rcases putO_mem hy with rfl | hy
      · exact e
      · exact h1 y hy
theorem putO_ne : ∀ {l : List Ofr} {o x : Ofr}, Dis l → x ∈ putO l o → x = o ∨ x ∈ l ∧ x.p ≠ o.p
  | [], o, x, _, h => by simp [putO] at h; exact .inl h
  | y :: l, o, x, hd, h => by
    obtain ⟨h1, h2⟩ := List.pairwise_cons.1 hd
    unfold putO at h
    split at h
    · rename_i e
      rcases List.mem_cons.1 h with h | h
      · exact .inl h
      · exact .inr ⟨List.mem_cons_of_mem _ h, by rw [← e]; exact fun e' => h1 x h e'.symm⟩
    · rename_i e
      rcases List.mem_cons.1 h with h | h
      · subst h; exact .inr ⟨List.mem_cons_self, e⟩
      · rcases putO_ne h2 h with h | ⟨h, h'⟩
        · exact .inl h
        · exact .inr ⟨List.mem_cons_of_mem _ h, h'⟩
theorem putO_self : ∀ (l : List Ofr) (o : Ofr), o ∈ putO l o
  | [], o => by simp [putO]
  | x :: l, o => by
    unfold putO
    split
    · simp
    · exact List.mem_cons_of_mem _ (putO_self l o)
theorem putO_keep : ∀ {l : List Ofr} {o x : Ofr}, x ∈ l → x.p ≠ o.p → x ∈ putO l o
  | y :: l, o, x, h, hne => by
    unfold putO
    rcases List.mem_cons.1 h with rfl | h
    · rw [if_neg hne]; simp
    · split
      · exact List.mem_cons_of_mem _ h
      · exact List.mem_cons_of_mem _ (putO_keep h hne)
theorem offs_of_dis {l : List Ofr} (hd : Dis l) (ho : ∀ o ∈ l, offB o = true) : offsB l = true := by
  refine offs_iff.2 fun j hj => ⟨?_, fun i hi => ?_⟩
  · rw [List.getD_eq_getElem?_getD, List.getElem?_eq_getElem hj]; exact ho _ (List.getElem_mem hj)
  · have := List.pairwise_iff_getElem.1 hd i j (by omega) hj hi
    have g : ∀ k (hk : k < l.length), l.getD k default = l[k] := fun k hk => by simp [List.getD_eq_getElem?_getD, List.getElem?_eq_getElem hk]
    rw [g i (by omega), g j hj]
    exact this
end Go.Proofs.Ytbonchnhngaicaa
