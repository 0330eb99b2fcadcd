/- Proved: plain facts on a mesh and its moves: the Least of a parent is always better than that of its child. Conditions: those that each theorem names. -/
import Derived.Test.YtbonchnhngaicaaM12
namespace Go.Proofs.Ytbonchnhngaicaa
set_option linter.unusedVariables false
set_option linter.unusedSimpArgs false

/-- A move of node i, from node k. -/
def moveM (M : Msh) (d lt co : Int) (i k : Nat) : Msh :=
  if (d % 4 == 0) = true then (if (0 : Int) < i then { M with R := upd M.R i (chooseV (M.R i) (M.H i)), T := upd M.T i (M.T i ++ [(chooseV (M.R i) (M.H i)).o]) } else M)
  else if (d % 4 == 1) = true then (if ((i : Int) == (k : Int)) = true then M else { M with H := upd M.H i (putO (M.H i) ⟨k, (M.T k).getD (max 0 (((M.T k).length : Int) - 1 - lt % 8)).toNat default, 1 + co % 4096⟩) })
  else if (d % 4 == 2) = true then { M with R := upd M.R i (startV ((i : Int) == 0) (M.R i).o.s), T := upd M.T i (M.T i ++ [(startV ((i : Int) == 0) (M.R i).o.s).o]), H := upd M.H i [] }
  else { M with R := upd M.R 0 (renewV (M.R 0) ((M.R 0).o.s + 1)), T := upd M.T 0 (M.T 0 ++ [(renewV (M.R 0) ((M.R 0).o.s + 1)).o]) }
/-- What a node has told or what is heard of it is not better than its Least. -/
structure Inv (n : Nat) (M : Msh) : Prop where
  v : ∀ i, i < n → validR (M.R i) = true
  s : ∀ i, i < n → (M.R i).o.s = (M.R i).l.s
  p : ∀ i, i < n → (M.R i).p < 0 ∨ ∃ q : Nat, q < n ∧ (M.R i).p = q ∧ betterB (M.R q).l (M.R i).l = true
  t : ∀ i, i < n → ∀ d ∈ M.T i, betterB d (M.R i).l = false
  h : ∀ i, i < n → ∀ o ∈ M.H i, ∃ q : Nat, q < n ∧ q ≠ i ∧ o.p = q ∧ betterB o.t (M.R q).l = false
  ne : ∀ i, i < n → 0 < (M.T i).length
theorem le_trans' {a b c : Ds} (h1 : betterB b a = false) (h2 : betterB b c = true) : betterB a c = true := by rw [better_iff] at *; rw [better_false] at h1; omega
theorem le_trans2 {a b c : Ds} (h1 : betterB b a = false) (h2 : betterB c b = false) : betterB c a = false := by rw [better_false] at *; omega
/-- One node's route changes: its Least is not worse, what it tells further is not better than its Least, its parent's Least is better than its own. -/
theorem Inv.step {n : Nat} {M : Msh} (h : Inv n M) {i : Nat} (hi : i < n) (r : Rt) (hv : validR r = true) (hs : r.o.s = r.l.s) (hl : betterB (M.R i).l r.l = false) (ho : betterB r.o r.l = false)
    (hp : r.p < 0 ∨ ∃ q : Nat, q < n ∧ q ≠ i ∧ r.p = q ∧ betterB (M.R q).l r.l = true) (H : Nat → List Ofr) (hH : ∀ j, H j = M.H j ∨ H j = []) : Inv n { R := upd M.R i r, T := upd M.T i (M.T i ++ [r.o]), H := H } := by
  have hle : ∀ j, j < n → betterB (M.R j).l (upd M.R i r j).l = false := fun j hj => by
    by_cases hji : j = i
    · subst hji; rw [upd_same]; exact hl
    · rw [upd_ne _ _ hji]; rw [better_false]; omega
  refine ⟨fun j hj => ?_, fun j hj => ?_, fun j hj => ?_, fun j hj d hd => ?_, fun j hj o ho' => ?_, fun j hj => ?_⟩
  · by_cases hji : j = i
    · subst hji; simp only [upd_same]; exact hv
    · simp only [upd_ne _ _ hji]; exact h.v j hj
  · by_cases hji : j = i
    · subst hji; simp only [upd_same]; exact hs
    · simp only [upd_ne _ _ hji]; exact h.s j hj
  · by_cases hji : j = i
    · subst hji
      simp only [upd_same]
      rcases hp with hp | ⟨q, hq, hqi, e, hb⟩
      · exact .inl hp
      · exact .inr ⟨q, hq, e, by rw [upd_ne _ _ hqi]; exact hb⟩
    · simp only [upd_ne _ _ hji]
      rcases h.p j hj with hp' | ⟨q, hq, e, hb⟩
      · exact .inl hp'
      · exact .inr ⟨q, hq, e, le_trans' (hle q hq) hb⟩
  · by_cases hji : j = i
    · subst hji
      simp only [upd_same] at hd ⊢
      rcases List.mem_append.1 hd with hd | hd
      · exact le_trans2 hl (h.t j hj d hd)
      · simp at hd; rw [hd]; exact ho
    · simp only [upd_ne _ _ hji] at hd ⊢; exact h.t j hj d hd
  · simp only at ho'
    rcases hH j with e | e
    · rw [e] at ho'
      obtain ⟨q, hq, hqj, e, hb⟩ := h.h j hj o ho'
      exact ⟨q, hq, hqj, e, le_trans2 (hle q hq) hb⟩
    · rw [e] at ho'; cases ho'
  · by_cases hji : j = i
    · subst hji; simp only [upd_same]; simp
    · simp only [upd_ne _ _ hji]; exact h.ne j hj
theorem start_spec {b : Bool} {q : Int} (h0 : 0 ≤ q) (h1 : q ≤ 1000000000) : startV b q = ⟨⟨q, if b = true then 0 else 1000000⟩, ⟨q, 0⟩, -1⟩ := by unfold startV; rw [if_pos ⟨h0, h1⟩]
theorem choose_s {r : Rt} {l : List Ofr} (hv : validR r = true) (hs : r.o.s = r.l.s) : (chooseV r l).o.s = (chooseV r l).l.s := by
  cases ho : offsB l
  · have e : chooseV r l = r := by unfold chooseV; rw [if_neg (by rw [ho]; simp)]
    rw [e]; exact hs
  · rcases choose_spec hv ho with ⟨e, _⟩ | ⟨o, hm, e, p, _⟩
    · rw [e]; exact hs
    · rw [e]
      rw [poss_iff, better_iff] at p
      simp only [takeV]
      split
      · rfl
      · rename_i hb
        have hb := better_false.1 (by simpa using hb)
        simp only [thr] at hb ⊢
        omega
theorem Inv.choose {n : Nat} {M : Msh} (h : Inv n M) {i : Nat} (hi : i < n) : Inv n { M with R := upd M.R i (chooseV (M.R i) (M.H i)), T := upd M.T i (M.T i ++ [(chooseV (M.R i) (M.H i)).o]) } := by
  have hv := h.v i hi
  obtain ⟨c1, c2, c3, c4⟩ := choose_valid (l := M.H i) hv
  refine h.step hi _ c1 (choose_s hv (h.s i hi)) c2 c3 ?_ M.H (fun _ => .inl rfl)
  have oldp : ∀ (r : Rt), r = M.R i → r.p < 0 ∨ ∃ q : Nat, q < n ∧ q ≠ i ∧ r.p = q ∧ betterB (M.R q).l r.l = true := fun r e => by
    subst e
    rcases h.p i hi with hp | ⟨q, hq, e, hb⟩
    · exact .inl hp
    · refine .inr ⟨q, hq, fun e => ?_, e, hb⟩
      subst e
      rw [better_iff] at hb; omega
  cases ho : offsB (M.H i)
  · exact oldp _ (by unfold chooseV; rw [if_neg (by rw [ho]; simp)])
  · by_cases hp : 0 ≤ (chooseV (M.R i) (M.H i)).p
    · obtain ⟨o, hm, e⟩ := (choice_parent hv ho).1 hp
      obtain ⟨q, hq, hqi, eq, hb⟩ := h.h i hi o hm
      refine .inr ⟨q, hq, hqi, by rw [← e, eq], downhill hv ho hm e hb ?_⟩
      by_cases hpp : o.p = (M.R i).p
      · right
        rcases oldp _ rfl with h' | ⟨q', _, _, e', hb'⟩
        · omega
        · have : q = q' := by omega
          subst this; exact hb'
      · exact .inl hpp
    · exact .inl (by omega)
theorem putO_mem : ∀ {l : List Ofr} {o x : Ofr}, x ∈ putO l o → x = o ∨ x ∈ l
  | [], o, x, h => by simp [putO] at h; exact .inl h
  | y :: l, o, x, h => by
    unfold putO at h
    split at h
    · rcases List.mem_cons.1 h with h | h
      · exact .inl h
      · exact .inr (List.mem_cons_of_mem _ h)
    · rcases List.mem_cons.1 h with h | h
      · exact .inr (by rw [h]; simp)
      · rcases putO_mem h with h | h
        · exact .inl h
        · exact .inr (List.mem_cons_of_mem _ h)
theorem putO_len : ∀ (l : List Ofr) (o : Ofr), (putO l o).length ≤ l.length + 1
  | [], o => by simp [putO]
  | y :: l, o => by
    unfold putO
    split
    · simp
    · have := putO_len l o; simp; omega
theorem Inv.hear {n : Nat} {M : Msh} (h : Inv n M) {i k : Nat} (hi : i < n) (hk : k < n) (hik : k ≠ i) (t : Ds) (ht : betterB t (M.R k).l = false) (c : Int) : Inv n { M with H := upd M.H i (putO (M.H i) ⟨k, t, c⟩) } := by
  refine ⟨h.v, h.s, h.p, h.t, fun j hj o ho => ?_, h.ne⟩
  by_cases hji : j = i
  · subst hji
    simp only [upd_same] at ho
    rcases putO_mem ho with rfl | ho
    · exact ⟨k, hk, hik, rfl, ht⟩
    · exact h.h j hj o ho
  · simp only [upd_ne _ _ hji] at ho; exact h.h j hj o ho
theorem getD_mem' {l : List Ds} {j : Nat} (h : j < l.length) : l.getD j default ∈ l := by
  rw [List.getD_eq_getElem?_getD, List.getElem?_eq_getElem h]; exact List.getElem_mem h
theorem late_lt {m : Nat} {lt : Int} (h : 0 < m) (h0 : 0 ≤ lt) : (max 0 ((m : Int) - 1 - lt % 8)).toNat < m := by omega
theorem Inv.move {n : Nat} {M : Msh} (h : Inv n M) (hn : 0 < n) (d lt co : Int) (hlt : 0 ≤ lt) {i k : Nat} (hi : i < n) (hk : k < n) : Inv n (moveM M d lt co i k) := by
  unfold moveM
  split
  · split
    · exact h.choose hi
    · exact h
  · split
    · split
      · exact h
      · rename_i hik
        exact h.hear hi hk (fun e => hik (by subst e; simp)) _ (h.t k hk _ (getD_mem' (late_lt (h.ne k hk) hlt))) _
    · have hold : ∀ j, j < n → 0 ≤ (M.R j).o.s ∧ (M.R j).o.s ≤ 1000000000 ∧ 0 ≤ (M.R j).l.r := fun j hj => by
        obtain ⟨v1, v2, _, _, _⟩ := valid_iff.1 (h.v j hj)
        rw [dist_iff] at v1 v2; omega
      split
      · obtain ⟨o1, o2, o3⟩ := hold i hi
        have hs := h.s i hi
        refine h.step hi _ ?_ ?_ ?_ ?_ ?_ _ (fun j => ?_)
        all_goals (try rw [start_spec o1 o2])
        · refine valid_iff.2 ⟨dist_iff.2 ?_, dist_iff.2 (by simp only; omega), better_false.2 ?_, by simp only; omega, by simp only; omega⟩
          · simp only; split <;> omega
          · simp only; split <;> omega
        · rw [better_false]; simp only; omega
        · rw [better_false]; simp only; split <;> omega
        · exact .inl (by simp only; omega)
        · unfold upd; split
          · exact .inr rfl
          · exact .inl rfl
      · have hv := h.v 0 hn
        obtain ⟨c1, c2, c3, c4⟩ := renew_valid ((M.R 0).o.s + 1) hv
        refine h.step hn _ c1 ?_ c2 c3 ?_ M.H (fun _ => .inl rfl)
        · unfold renewV; split
          · rfl
          · exact h.s 0 hn
        · unfold renewV; split
          · exact .inl (by simp only; omega)
          · rcases h.p 0 hn with hp | ⟨q, hq, e, hb⟩
            · exact .inl hp
            · refine .inr ⟨q, hq, fun e => ?_, e, hb⟩
              subst e
              rw [better_iff] at hb; omega
theorem Inv.start (n : Nat) : Inv n (startM n) := by
  have hr : ∀ i, (startM n).R i = ⟨⟨0, if (decide (i = 0)) = true then 0 else 1000000⟩, ⟨0, 0⟩, -1⟩ := fun i => by
    show startV (decide (i = 0)) 0 = _
    exact start_spec (by omega) (by omega)
  refine ⟨fun i hi => ?_, fun i hi => ?_, fun i hi => ?_, fun i hi d hd => ?_, fun i hi o ho => ?_, fun i hi => ?_⟩
  · rw [hr]
    refine valid_iff.2 ⟨dist_iff.2 ?_, dist_iff.2 (by simp only; omega), better_false.2 ?_, by simp only; omega, by simp only; omega⟩
    · simp only; split <;> omega
    · simp only; split <;> omega
  · rw [hr]
  · rw [hr]; exact .inl (by simp only; omega)
  · have hT : (startM n).T i = [((startM n).R i).o] := by show (if i < n then _ else _) = _; rw [if_pos hi]; rfl
    rw [hT] at hd
    simp at hd
    rw [hd, hr, better_false]; simp only; split <;> omega
  · cases ho
  · show 0 < (if i < n then _ else _ : List Ds).length
    rw [if_pos hi]; simp
/-- How many nodes have a better Least. -/
def cntM (M : Msh) (n i : Nat) : Nat := ((List.range n).filter (fun k => betterB (M.R k).l (M.R i).l)).length
theorem cnt_lt (M : Msh) (n i : Nat) (hi : i < n) : cntM M n i < n := by
  have h : cntM M n i < (List.range n).length := by
    refine List.length_filter_lt_length_iff_exists.2 ⟨i, List.mem_range.2 hi, ?_⟩
    simp [better_false]
  simpa using h
theorem filter_sub {p q : Nat → Bool} : ∀ (l : List Nat), (∀ x ∈ l, p x = true → q x = true) → (∃ x ∈ l, q x = true ∧ p x = false) → (l.filter p).length < (l.filter q).length
  | [], _, ⟨x, hx, _⟩ => by cases hx
  | y :: l, h, ⟨x, hx, hq, hp⟩ => by
    have hle : (l.filter p).length ≤ (l.filter q).length := by
      have h' : ∀ (m : List Nat), (∀ x ∈ m, p x = true → q x = true) → (m.filter p).length ≤ (m.filter q).length := fun m => by
        induction m with
        | nil => intro _; simp
        | cons z m ih =>
          intro hm
          have := ih fun x hx => hm x (List.mem_cons_of_mem _ hx)
          cases hpz : p z
          · cases hqz : q z <;> simp [List.filter_cons, hpz, hqz] <;> omega
          · simp [List.filter_cons, hpz, hm z (by simp) hpz]; omega
      exact h' l fun x hx => h x (List.mem_cons_of_mem _ hx)
    rcases List.mem_cons.1 hx with rfl | hx
    · simp [List.filter_cons, hq, hp]; omega
    · have := filter_sub l (fun x hx => h x (List.mem_cons_of_mem _ hx)) ⟨x, hx, hq, hp⟩
      cases hpy : p y
      · cases hqy : q y <;> simp [List.filter_cons, hpy, hqy] <;> omega
      · simp [List.filter_cons, hpy, h y (by simp) hpy]; omega
theorem cnt_down {M : Msh} {n i q : Nat} (hq : q < n) (hb : betterB (M.R q).l (M.R i).l = true) : cntM M n q < cntM M n i := by
  refine filter_sub _ (fun x _ hx => order_3 hx hb) ⟨q, List.mem_range.2 hq, hb, ?_⟩
  rw [better_false]; omega
theorem Inv.down {n : Nat} {M : Msh} (h : Inv n M) : ∀ i, i < n → (M.R i).p < 0 ∨ ∃ q : Nat, q < n ∧ (M.R i).p = q ∧ cntM M n q < cntM M n i := fun i hi => by
  rcases h.p i hi with hp | ⟨q, hq, e, hb⟩
  · exact .inl hp
  · exact .inr ⟨q, hq, e, cnt_down hq hb⟩
/-- The lists stay short. -/
structure Short (m : Nat) (M : Msh) : Prop where
  t : ∀ j, (M.T j).length ≤ m
  h : ∀ j, (M.H j).length ≤ m
theorem Short.start (n : Nat) : Short 1 (startM n) := ⟨fun j => by show (if j < n then _ else _ : List Ds).length ≤ 1; split <;> simp, fun j => by show ([] : List Ofr).length ≤ 1; simp⟩
theorem Short.move {m : Nat} {M : Msh} (h : Short m M) (d lt co : Int) (i k : Nat) : Short (m + 1) (moveM M d lt co i k) := by
  have ht : ∀ (q : Nat) (d : Ds) j, (upd M.T q (M.T q ++ [d]) j).length ≤ m + 1 := fun q d j => by
    by_cases hj : j = q
    · subst hj; rw [upd_same]; have := h.t j; simp; omega
    · rw [upd_ne _ _ hj]; have := h.t j; omega
  have t1 : ∀ j, (M.T j).length ≤ m + 1 := fun j => by have := h.t j; omega
  have h1 : ∀ j, (M.H j).length ≤ m + 1 := fun j => by have := h.h j; omega
  unfold moveM
  split
  · split
    · exact ⟨ht _ _, h1⟩
    · exact ⟨t1, h1⟩
  · split
    · split
      · exact ⟨t1, h1⟩
      · refine ⟨t1, fun j => ?_⟩
        by_cases hj : j = i
        · subst hj; simp only [upd_same]; have := putO_len (M.H j) ⟨k, (M.T k).getD (max 0 (((M.T k).length : Int) - 1 - lt % 8)).toNat default, 1 + co % 4096⟩; have := h.h j; omega
        · simp only [upd_ne _ _ hj]; exact h1 j
    · split
      · refine ⟨ht _ _, fun j => ?_⟩
        by_cases hj : j = i
        · subst hj; simp only [upd_same]; simp
        · simp only [upd_ne _ _ hj]; exact h1 j
      · exact ⟨ht _ _, h1⟩
end Go.Proofs.Ytbonchnhngaicaa
