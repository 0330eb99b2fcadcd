/- Proved: plain facts on rounds of a mesh: after as many rounds as there are nodes, what links reach from node 0 has parents that lead to it, and nothing else has. Conditions: those that each theorem names. -/
import Derived.Test.YtbonchnhngaicaaN2
namespace Go.Proofs.Ytbonchnhngaicaa
set_option linter.unusedVariables false
set_option linter.unusedSimpArgs false

/-- No Seq is greater than the root's. -/
structure Sq (n : Nat) (M : Msh) : Prop where
  r : ∀ i, i < n → (M.R i).o.s ≤ (M.R 0).o.s
  t : ∀ i, i < n → ∀ d ∈ M.T i, d.s ≤ (M.R 0).o.s
  h : ∀ i, i < n → ∀ o ∈ M.H i, o.t.s ≤ (M.R 0).o.s
theorem Sq.start (n : Nat) : Sq n (startM n) := by
  have hr : ∀ i, ((startM n).R i).o.s = 0 := fun i => by
    show (startV (decide (i = 0)) 0).o.s = 0
    rw [start_spec (by omega) (by omega)]
  refine ⟨fun i _ => by rw [hr, hr]; exact Int.le_refl _, fun i hi d hd => ?_, fun i hi o ho => by cases ho⟩
  have hT : (startM n).T i = [((startM n).R i).o] := by show (if i < n then _ else _) = _; rw [if_pos hi]; rfl
  rw [hT] at hd
  simp at hd
  rw [hd, hr, hr]; exact Int.le_refl _
theorem choose_seq {r : Rt} {l : List Ofr} {B : Int} (hr : r.o.s ≤ B) (hl : ∀ o ∈ l, o.t.s ≤ B) (hv : validR r = true) : (chooseV r l).o.s ≤ B := by
  cases ho : offsB l
  · have e : chooseV r l = r := by unfold chooseV; rw [if_neg (by rw [ho]; simp)]
    rw [e]; exact hr
  · rcases choose_spec hv ho with ⟨e, _⟩ | ⟨o, hm, e, p, _⟩
    · rw [e]; exact hr
    · rw [e]; exact hl o hm
/-- One node's route changes, to a Seq that is not greater than the root's. -/
theorem Sq.step {n : Nat} {M : Msh} (h : Sq n M) {i : Nat} (hi : i < n) (r : Rt) (h0 : (M.R 0).o.s ≤ (upd M.R i r 0).o.s) (hr : r.o.s ≤ (upd M.R i r 0).o.s) (H : Nat → List Ofr) (hH : ∀ j, H j = M.H j ∨ H j = []) :
    Sq n { R := upd M.R i r, T := upd M.T i (M.T i ++ [r.o]), H := H } := by
  refine ⟨fun j hj => ?_, fun j hj d hd => ?_, fun j hj o ho => ?_⟩
  · by_cases hji : j = i
    · subst hji; simp only [upd_same]; exact hr
    · simp only [upd_ne _ _ hji]; exact Int.le_trans (h.r j hj) h0
  · by_cases hji : j = i
    · subst hji
      simp only [upd_same] at hd
      rcases List.mem_append.1 hd with hd | hd
      · exact Int.le_trans (h.t j hj d hd) h0
      · simp at hd; rw [hd]; exact hr
    · simp only [upd_ne _ _ hji] at hd; exact Int.le_trans (h.t j hj d hd) h0
  · simp only at ho
    rcases hH j with e | e
    · rw [e] at ho; exact Int.le_trans (h.h j hj o ho) h0
    · rw [e] at ho; cases ho
theorem Sq.move {n : Nat} {M : Msh} (h : Sq n M) (hI : Inv n M) (hn : 0 < n) (d lt co : Int) (hlt : 0 ≤ lt) {i k : Nat} (hi : i < n) (hk : k < n) :
    Sq n (moveM M d lt co i k) ∧ ((moveM M d lt co i k).R 0).o.s ≤ (M.R 0).o.s + 1 := by
  have hold : ∀ j, j < n → 0 ≤ (M.R j).o.s ∧ (M.R j).o.s ≤ 1000000000 := fun j hj => by
    obtain ⟨v1, _⟩ := valid_iff.1 (hI.v j hj)
    rw [dist_iff] at v1; omega
  unfold moveM
  split
  · split
    · rename_i hip
      have h0 : upd M.R i (chooseV (M.R i) (M.H i)) 0 = M.R 0 := upd_ne _ _ (by omega)
      refine ⟨h.step hi _ (by rw [h0]; exact Int.le_refl _) (by rw [h0]; exact choose_seq (h.r i hi) (h.h i hi) (hI.v i hi)) M.H (fun _ => .inl rfl), ?_⟩
      simp only; rw [h0]; omega
    · exact ⟨h, by omega⟩
  · split
    · split
      · exact ⟨h, by omega⟩
      · refine ⟨⟨h.r, h.t, fun j hj o ho => ?_⟩, by simp only; omega⟩
        by_cases hji : j = i
        · subst hji
          simp only [upd_same] at ho
          rcases putO_mem ho with rfl | ho
          · exact h.t k hk _ (getD_mem' (late_lt (hI.ne k hk) hlt))
          · exact h.h j hj o ho
        · simp only [upd_ne _ _ hji] at ho; exact h.h j hj o ho
    · split
      · obtain ⟨o1, o2⟩ := hold i hi
        have hs : (startV ((i : Int) == 0) (M.R i).o.s).o.s = (M.R i).o.s := by rw [start_spec o1 o2]
        have h0 : (upd M.R i (startV ((i : Int) == 0) (M.R i).o.s) 0).o.s = (M.R 0).o.s := by
          by_cases e : 0 = i
          · subst e; rw [upd_same]; exact hs
          · rw [upd_ne _ _ e]
        refine ⟨h.step hi _ (by rw [h0]; exact Int.le_refl _) (by rw [h0, hs]; exact h.r i hi) _ (fun j => ?_), by simp only; rw [h0]; omega⟩
        unfold upd; split
        · exact .inr rfl
        · exact .inl rfl
      · have hren : (renewV (M.R 0) ((M.R 0).o.s + 1)).o.s = (M.R 0).o.s ∨ (renewV (M.R 0) ((M.R 0).o.s + 1)).o.s = (M.R 0).o.s + 1 := by
          unfold renewV; split
          · exact .inr rfl
          · exact .inl rfl
        refine ⟨h.step hn _ (by rw [upd_same]; omega) (by rw [upd_same]; exact Int.le_refl _) M.H (fun _ => .inl rfl), by simp only [upd_same]; omega⟩
/-! ### links -/
def cst (a b : Nat) : Int := 1 + ((a : Int) * 7 + (b : Int) * 7) % 50 * 80
theorem cst_comm (a b : Nat) : cst a b = cst b a := by unfold cst; rw [Int.add_comm ((a : Int) * 7)]
theorem cst_bd (a b : Nat) : 1 ≤ cst a b ∧ cst a b ≤ 3921 := by unfold cst; omega
def linkM (M : Msh) (a b : Nat) : Msh := if a = b then M else
  { M with H := upd (upd M.H a (putO (M.H a) ⟨b, (M.R b).o, cst a b⟩)) b (putO (M.H b) ⟨a, (M.R a).o, cst a b⟩) }
def passM (M : Msh) : List (Nat × Nat) → Msh
  | [] => M
  | l :: ls => passM (linkM M l.1 l.2) ls
theorem passM_R : ∀ (ls : List (Nat × Nat)) (M : Msh), (passM M ls).R = M.R
  | [], _ => rfl
  | l :: ls, M => by rw [passM, passM_R ls]; unfold linkM; split <;> rfl
/-- What is heard is of neighbours, of different ones, with the link's cost. -/
def Hs (ls : List (Nat × Nat)) (n : Nat) (M : Msh) : Prop := ∀ i, i < n → Dis (M.H i) ∧ ∀ o ∈ M.H i, ∃ j, j < n ∧ nb ls i j ∧ o.p = j ∧ o.c = cst i j
/-- Over these links all was heard in this round. -/
def Fresh (Q : List (Nat × Nat)) (n : Nat) (M : Msh) : Prop := ∀ i, i < n → ∀ j, nb Q i j → (∃ o ∈ M.H i, o.p = j) ∧ ∀ o ∈ M.H i, o.p = j → o.t = (M.R j).o
theorem nb_snoc {Q : List (Nat × Nat)} {a b i j : Nat} (h : nb (Q ++ [(a, b)]) i j) : nb Q i j ∨ (i = a ∧ j = b) ∨ (i = b ∧ j = a) := by
  rcases h.2 with h' | h'
  · rcases List.mem_append.1 h' with h' | h'
    · exact .inl ⟨h.1, .inl h'⟩
    · simp at h'; exact .inr (.inl h')
  · rcases List.mem_append.1 h' with h' | h'
    · exact .inl ⟨h.1, .inr h'⟩
    · simp at h'; exact .inr (.inr ⟨h'.2, h'.1⟩)
/-- One end of a link hears the other. -/
theorem fresh_end {l : List Ofr} (hd : Dis l) (o : Ofr) (j : Nat) {t : Ds} (h : (o.p = j ∧ o.t = t) ∨ (o.p ≠ j ∧ (∃ x ∈ l, x.p = (j : Int)) ∧ ∀ x ∈ l, x.p = (j : Int) → x.t = t)) : (∃ x ∈ putO l o, x.p = (j : Int)) ∧ ∀ x ∈ putO l o, x.p = (j : Int) → x.t = t := by
  rcases h with ⟨h1, h2⟩ | ⟨h1, ⟨x, hx, hxp⟩, h3⟩
  · refine ⟨⟨o, putO_self l o, h1⟩, fun x hx hxp => ?_⟩
    rcases putO_ne hd hx with rfl | ⟨_, hne⟩
    · exact h2
    · exact absurd (hxp.trans h1.symm) hne
  · refine ⟨⟨x, putO_keep hx (by rw [hxp]; exact fun e => h1 e.symm), hxp⟩, fun y hy hyp => ?_⟩
    rcases putO_ne hd hy with rfl | ⟨hy', _⟩
    · exact absurd hyp h1
    · exact h3 y hy' hyp
theorem link_step {ls Q : List (Nat × Nat)} {n : Nat} {M : Msh} {a b : Nat} (hH : Hs ls n M) (hF : Fresh Q n M) (hm : (a, b) ∈ ls) (ha : a < n) (hb : b < n) : Hs ls n (linkM M a b) ∧ Fresh (Q ++ [(a, b)]) n (linkM M a b) := by
  by_cases hab : a = b
  · subst hab
    have e : linkM M a a = M := by simp [linkM]
    rw [e]
    refine ⟨hH, fun i hi j hj => ?_⟩
    rcases nb_snoc hj with h | ⟨h1, h2⟩ | ⟨h1, h2⟩
    · exact hF i hi j h
    · exact absurd (h1.trans h2.symm) hj.1
    · exact absurd (h1.trans h2.symm) hj.1
  have hba : ¬ b = a := fun e => hab e.symm
  have e : linkM M a b = { M with H := upd (upd M.H a (putO (M.H a) ⟨b, (M.R b).o, cst a b⟩)) b (putO (M.H b) ⟨a, (M.R a).o, cst a b⟩) } := by simp [linkM, hab]
  rw [e]
  have hHa : upd (upd M.H a (putO (M.H a) ⟨b, (M.R b).o, cst a b⟩)) b (putO (M.H b) ⟨a, (M.R a).o, cst a b⟩) a = putO (M.H a) ⟨b, (M.R b).o, cst a b⟩ := by rw [upd_ne _ _ hab, upd_same]
  have hHb : upd (upd M.H a (putO (M.H a) ⟨b, (M.R b).o, cst a b⟩)) b (putO (M.H b) ⟨a, (M.R a).o, cst a b⟩) b = putO (M.H b) ⟨a, (M.R a).o, cst a b⟩ := upd_same _ _ _
  have hHo : ∀ i, i ≠ a → i ≠ b → upd (upd M.H a (putO (M.H a) ⟨b, (M.R b).o, cst a b⟩)) b (putO (M.H b) ⟨a, (M.R a).o, cst a b⟩) i = M.H i := fun i h1 h2 => by rw [upd_ne _ _ h2, upd_ne _ _ h1]
  refine ⟨fun i hi => ?_, fun i hi j hj => ?_⟩
  · simp only
    obtain ⟨h1, h2⟩ := hH i hi
    by_cases hia : i = a
    · subst hia
      rw [hHa]
      refine ⟨putO_dis h1, fun o ho => ?_⟩
      rcases putO_mem ho with rfl | ho
      · exact ⟨b, hb, ⟨hab, .inl hm⟩, rfl, rfl⟩
      · exact h2 o ho
    · by_cases hib : i = b
      · subst hib
        rw [hHb]
        refine ⟨putO_dis h1, fun o ho => ?_⟩
        rcases putO_mem ho with rfl | ho
        · exact ⟨a, ha, ⟨hba, .inr hm⟩, rfl, cst_comm _ _⟩
        · exact h2 o ho
      · rw [hHo i hia hib]; exact ⟨h1, h2⟩
  · simp only
    obtain ⟨h1, h2⟩ := hH i hi
    have hQ := nb_snoc hj
    by_cases hia : i = a
    · subst hia
      rw [hHa]
      refine fresh_end h1 _ j ?_
      by_cases hjb : j = b
      · subst hjb; exact .inl ⟨rfl, rfl⟩
      · rcases hQ with h | ⟨_, h⟩ | ⟨h, _⟩
        · exact .inr ⟨by simp only; omega, hF i hi j h⟩
        · exact absurd h hjb
        · exact absurd h hab
    · by_cases hib : i = b
      · subst hib
        rw [hHb]
        refine fresh_end h1 _ j ?_
        by_cases hja : j = a
        · subst hja; exact .inl ⟨rfl, rfl⟩
        · rcases hQ with h | ⟨h, _⟩ | ⟨_, h⟩
          · exact .inr ⟨by simp only; omega, hF i hi j h⟩
          · exact absurd h hia
          · exact absurd h hja
      · rw [hHo i hia hib]
        rcases hQ with h | ⟨h, _⟩ | ⟨h, _⟩
        · exact hF i hi j h
        · exact absurd h hia
        · exact absurd h hib
theorem pass_step {ls : List (Nat × Nat)} {n : Nat} (hl : ∀ l ∈ ls, l.1 < n ∧ l.2 < n) : ∀ (r Q : List (Nat × Nat)) {M : Msh}, Q ++ r = ls → Hs ls n M → Fresh Q n M → Hs ls n (passM M r) ∧ Fresh ls n (passM M r)
  | [], Q, M, e, hH, hF => by rw [List.append_nil] at e; subst e; exact ⟨hH, hF⟩
  | l :: r, Q, M, e, hH, hF => by
    have hm : l ∈ ls := by rw [← e]; simp
    obtain ⟨h1, h2⟩ := link_step hH hF (a := l.1) (b := l.2) hm (hl l hm).1 (hl l hm).2
    exact pass_step hl r (Q ++ [l]) (by rw [← e]; simp) h1 h2
theorem pass_done {ls : List (Nat × Nat)} {n : Nat} (hl : ∀ l ∈ ls, l.1 < n ∧ l.2 < n) {M : Msh} (hH : Hs ls n M) : Hs ls n (passM M ls) ∧ Fresh ls n (passM M ls) :=
  pass_step hl ls [] rfl hH fun i hi j hj => by rcases hj.2 with h | h <;> cases h
/-! ### all choose -/
def chooseTo (M : Msh) : Nat → Msh
  | 0 => M
  | k + 1 => moveM (chooseTo M k) 0 0 0 (k + 1) 0
theorem moveM_choose (M : Msh) (i : Nat) : moveM M 0 0 0 (i + 1) 0 = { M with R := upd M.R (i + 1) (chooseV (M.R (i + 1)) (M.H (i + 1))), T := upd M.T (i + 1) (M.T (i + 1) ++ [(chooseV (M.R (i + 1)) (M.H (i + 1))).o]) } := by
  unfold moveM
  rw [if_pos (by decide), if_pos (by omega)]
theorem chooseTo_H (M : Msh) : ∀ k, (chooseTo M k).H = M.H
  | 0 => rfl
  | k + 1 => by rw [chooseTo, moveM_choose]; exact chooseTo_H M k
theorem chooseTo_R (M : Msh) : ∀ k i, (chooseTo M k).R i = if 1 ≤ i ∧ i ≤ k then chooseV (M.R i) (M.H i) else M.R i
  | 0, i => by rw [if_neg (by omega)]; rfl
  | k + 1, i => by
    rw [chooseTo, moveM_choose]
    simp only
    by_cases hi : i = k + 1
    · subst hi
      rw [upd_same, if_pos (by omega), chooseTo_H, chooseTo_R M k, if_neg (by omega)]
    · rw [upd_ne _ _ hi, chooseTo_R M k i]
      by_cases h : 1 ≤ i ∧ i ≤ k
      · rw [if_pos h, if_pos (by omega)]
      · rw [if_neg h, if_neg (by omega)]
/-! ### a round -/
structure Rnd (ls : List (Nat × Nat)) (n : Nat) (S : Int) (t : Nat) (M : Msh) : Prop where
  v : ∀ i, i < n → validR (M.R i) = true
  s : ∀ i, i < n → (M.R i).o.s = (M.R i).l.s
  root : (M.R 0).o = ⟨S, 0⟩
  old : ∀ i, i < n → ¬ lay ls t i → (M.R i).o.s < S
  rk : ∀ i, i < n → lay ls t i → (M.R i).o.s = S ∧ (M.R i).o.r ≤ t * 4000
  par : ∀ i, i < n → i ≠ 0 → lay ls t i → ∃ k, k < n ∧ (M.R i).p = k ∧ nb ls i k ∧ lay ls t k ∧ (M.R k).o.r + cst i k ≤ (M.R i).o.r
  out : 0 < t → ∀ i, i < n → i ≠ 0 → ¬ lay ls t i → (M.R i).p < 0 ∨ ∃ k, k < n ∧ (M.R i).p = k ∧ nb ls i k
theorem Rnd.step {ls : List (Nat × Nat)} {n : Nat} {S : Int} {t : Nat} {M : Msh} (hn : 0 < n) (hn60 : n ≤ 60) (ht : t ≤ 60) (h : Rnd ls n S t M) (hH : Hs ls n M) (hF : Fresh ls n M) : Rnd ls n S (t + 1) (chooseTo M (n - 1)) := by
  have hR : ∀ i, i < n → i ≠ 0 → (chooseTo M (n - 1)).R i = chooseV (M.R i) (M.H i) := fun i hi h0 => by rw [chooseTo_R, if_pos (by omega)]
  have hR0 : (chooseTo M (n - 1)).R 0 = M.R 0 := by rw [chooseTo_R, if_neg (by omega)]
  have hd : ∀ i, i < n → 0 ≤ (M.R i).o.s ∧ (M.R i).o.s ≤ 1000000000 ∧ 0 ≤ (M.R i).o.r ∧ (M.R i).o.r ≤ 1000000 := fun i hi => dist_iff.1 (valid_iff.1 (h.v i hi)).1
  have hle : ∀ i, i < n → (M.R i).o.s ≤ S := fun i hi => by
    by_cases hl : lay ls t i
    · have := (h.rk i hi hl).1; omega
    · have := h.old i hi hl; omega
  have ho : ∀ i, i < n → offsB (M.H i) = true := fun i hi => offs_of_dis (hH i hi).1 fun o hm => by
    obtain ⟨j, hj, hnb, hp, hc⟩ := (hH i hi).2 o hm
    have hot := (hF i hi j hnb).2 o hm hp
    have := cst_bd i j
    refine off_iff.2 ⟨by omega, by omega, ?_, by omega, by omega⟩
    rw [hot]; exact (valid_iff.1 (h.v j hj)).1
  -- an offer of a neighbour
  have hof : ∀ i, i < n → ∀ o ∈ M.H i, ∃ j, j < n ∧ nb ls i j ∧ o.p = j ∧ o.c = cst i j ∧ o.t = (M.R j).o := fun i hi o hm => by
    obtain ⟨j, hj, hnb, hp, hc⟩ := (hH i hi).2 o hm
    exact ⟨j, hj, hnb, hp, hc, (hF i hi j hnb).2 o hm hp⟩
  have hex : ∀ i, i < n → ∀ j, j < n → nb ls i j → ∃ o ∈ M.H i, o.p = j ∧ o.c = cst i j ∧ o.t = (M.R j).o := fun i hi j hj hnb => by
    obtain ⟨⟨o, hm, hp⟩, hf⟩ := hF i hi j hnb
    obtain ⟨j', _, _, hp', hc⟩ := (hH i hi).2 o hm
    have : j' = j := by omega
    subst this
    exact ⟨o, hm, hp, hc, hf o hm hp⟩
  -- who has a neighbour that is joined, and a way through it that is possible, joins or stays
  have join : ∀ i, i < n → i ≠ 0 → ∀ k, k < n → nb ls i k → lay ls t k → (lay ls t i → (M.R i).p = k ∧ (M.R k).o.r + cst i k ≤ (M.R i).o.r) →
      ∃ j, j < n ∧ nb ls i j ∧ lay ls t j ∧ chooseV (M.R i) (M.H i) = takeV (M.R i) ⟨j, (M.R j).o, cst i j⟩ ∧ (M.R j).o.r + cst i j ≤ (M.R k).o.r + cst i k := fun i hi h0 k hk hnb hlk hst => by
    obtain ⟨o, hm, hp, hc, hot⟩ := hex i hi k hk hnb
    have hrk := h.rk k hk hlk
    have hcb := cst_bd i k
    have hdk := hd k hk
    have hposs : possB (M.R i) o = true := by
      rw [poss_iff, better_iff, hot, hc]
      refine ⟨by omega, ?_⟩
      by_cases hli : lay ls t i
      · obtain ⟨e, _⟩ := hst hli
        have := (h.rk i hi hli).1
        exact .inr ⟨by omega, by omega⟩
      · have := h.old i hi hli
        have := h.s i hi
        exact .inl (.inl (by omega))
    rcases choose_spec (h.v i hi) (ho i hi) with ⟨e, hno⟩ | ⟨o', hm', e, hp', hbest⟩
    · rw [hno o hm] at hposs; cases hposs
    · obtain ⟨j, hj, hnbj, hpj, hcj, hotj⟩ := hof i hi o' hm'
      have hb := before_false.1 (hbest o hm hposs)
      rw [hot, hotj, hc, hcj] at hb
      have hsj := hle j hj
      have hlj : lay ls t j := Classical.byContradiction fun hlj => by
        have := h.old j hj hlj; omega
      have := (h.rk j hj hlj).1
      refine ⟨j, hj, hnbj, hlj, ?_, by omega⟩
      rw [e]
      obtain ⟨p', t', c'⟩ := o'
      simp only at hpj hcj hotj
      rw [hpj, hcj, hotj]
  -- ranks of who is joined do not grow
  have down : ∀ i, i < n → lay ls t i → ((chooseTo M (n - 1)).R i).o.r ≤ (M.R i).o.r := fun i hi hl => by
    by_cases h0 : i = 0
    · subst h0; rw [hR0]; exact Int.le_refl _
    · obtain ⟨k, hk, hp, hnb, hlk, hr⟩ := h.par i hi h0 hl
      obtain ⟨j, hj, _, _, e, hle'⟩ := join i hi h0 k hk hnb hlk (fun _ => ⟨hp, hr⟩)
      rw [hR i hi h0, e]
      simp only [takeV, thr]; omega
  have joined : ∀ i, i < n → i ≠ 0 → lay ls (t + 1) i → ∃ j, j < n ∧ nb ls i j ∧ lay ls t j ∧ chooseV (M.R i) (M.H i) = takeV (M.R i) ⟨j, (M.R j).o, cst i j⟩ ∧ (M.R j).o.r + cst i j ≤ (t + 1 : Nat) * 4000 := fun i hi h0 hl => by
    by_cases hli : lay ls t i
    · obtain ⟨k, hk, hp, hnb, hlk, hr⟩ := h.par i hi h0 hli
      obtain ⟨j, hj, hnbj, hlj, e, hle'⟩ := join i hi h0 k hk hnb hlk (fun _ => ⟨hp, hr⟩)
      have := (h.rk i hi hli).2
      exact ⟨j, hj, hnbj, hlj, e, by omega⟩
    · rcases hl with hl | ⟨k, hnb, hlk⟩
      · exact absurd hl hli
      · have hk : k < n := Classical.byContradiction fun hk => by
          -- a neighbour is a node
          obtain ⟨⟨o, hm, hp⟩, _⟩ := hF i hi k hnb
          obtain ⟨j', hj', _, hp', _⟩ := (hH i hi).2 o hm
          omega
        obtain ⟨j, hj, hnbj, hlj, e, hle'⟩ := join i hi h0 k hk hnb hlk (fun h' => absurd h' hli)
        have := (h.rk k hk hlk).2
        have := (cst_bd i k).2
        exact ⟨j, hj, hnbj, hlj, e, by omega⟩
  -- who is not joined has no neighbour that is
  have alone : ∀ i, i < n → i ≠ 0 → ¬ lay ls (t + 1) i → (chooseV (M.R i) (M.H i)).o.s < S ∧ ((chooseV (M.R i) (M.H i)).p < 0 ∨ ∃ k, k < n ∧ (chooseV (M.R i) (M.H i)).p = k ∧ nb ls i k) := fun i hi h0 hl => by
    rcases choose_spec (h.v i hi) (ho i hi) with ⟨e, _⟩ | ⟨o, hm, e, _, _⟩
    · rw [e]
      refine ⟨?_, .inl (by simp only [loseV]; omega)⟩
      exact h.old i hi fun h' => hl (.inl h')
    · obtain ⟨j, hj, hnbj, hpj, hcj, hotj⟩ := hof i hi o hm
      rw [e]
      refine ⟨?_, .inr ⟨j, hj, hpj, hnbj⟩⟩
      show o.t.s < S
      rw [hotj]
      exact h.old j hj fun h' => hl (.inr ⟨j, hnbj, h'⟩)
  refine ⟨fun i hi => ?_, fun i hi => ?_, by rw [hR0]; exact h.root, fun i hi hl => ?_, fun i hi hl => ?_, fun i hi h0 hl => ?_, fun _ i hi h0 hl => ?_⟩
  · by_cases h0 : i = 0
    · subst h0; rw [hR0]; exact h.v 0 hi
    · rw [hR i hi h0]; exact (choose_valid (h.v i hi)).1
  · by_cases h0 : i = 0
    · subst h0; rw [hR0]; exact h.s 0 hi
    · rw [hR i hi h0]; exact choose_s (h.v i hi) (h.s i hi)
  · have h0 : i ≠ 0 := fun e => hl (by subst e; exact lay_zero ls _)
    rw [hR i hi h0]; exact (alone i hi h0 hl).1
  · by_cases h0 : i = 0
    · subst h0; rw [hR0, h.root]; exact ⟨rfl, by simp only; omega⟩
    · obtain ⟨j, hj, hnbj, hlj, e, hle'⟩ := joined i hi h0 hl
      rw [hR i hi h0, e]
      exact ⟨(h.rk j hj hlj).1, hle'⟩
  · obtain ⟨j, hj, hnbj, hlj, e, _⟩ := joined i hi h0 hl
    refine ⟨j, hj, by rw [hR i hi h0, e]; rfl, hnbj, .inl hlj, ?_⟩
    have := down j hj hlj
    rw [hR i hi h0, e]
    simp only [takeV, thr]; omega
  · rw [hR i hi h0]; exact (alone i hi h0 hl).2
/-! ### the end -/
theorem Rnd.same {ls : List (Nat × Nat)} {n : Nat} {S : Int} {t : Nat} {M M' : Msh} (h : Rnd ls n S t M) (e : M'.R = M.R) : Rnd ls n S t M' := by
  obtain ⟨R, T, H⟩ := M'
  simp only at e
  subst e
  exact ⟨h.v, h.s, h.root, h.old, h.rk, h.par, h.out⟩
/-- The way up, step by step: -1 where it has left the mesh. -/
def up (M : Msh) : Nat → Int → Int
  | 0, a => a
  | k + 1, a => up M k (if 0 < a then (M.R a.toNat).p else a)
theorem up_zero (M : Msh) : ∀ k, up M k 0 = 0
  | 0 => rfl
  | k + 1 => by rw [up, if_neg (by omega)]; exact up_zero M k
theorem up_neg (M : Msh) : ∀ k {a : Int}, a < 0 → up M k a = a
  | 0, _, _ => rfl
  | k + 1, a, h => by rw [up, if_neg (by omega)]; exact up_neg M k h
/-- How many joined nodes have a smaller rank. -/
noncomputable def low (M : Msh) (n i : Nat) : Nat := ((List.range n).filter (fun k => decide ((M.R k).o.r < (M.R i).o.r))).length
theorem low_lt (M : Msh) (n i : Nat) (hi : i < n) : low M n i < n := by
  have h : low M n i < (List.range n).length := by
    refine List.length_filter_lt_length_iff_exists.2 ⟨i, List.mem_range.2 hi, ?_⟩
    simp
  simpa using h
theorem low_down {M : Msh} {n i k : Nat} (hk : k < n) (h : (M.R k).o.r < (M.R i).o.r) : low M n k < low M n i := by
  refine filter_sub _ (fun x _ hx => ?_) ⟨k, List.mem_range.2 hk, by simpa using h, by simp⟩
  simp only [decide_eq_true_eq] at hx ⊢; omega
theorem Rnd.reach {ls : List (Nat × Nat)} {n : Nat} {S : Int} {t : Nat} {M : Msh} (h : Rnd ls n S t M) : ∀ (m i : Nat), i < n → lay ls t i → low M n i < m + 1 → up M m i = 0
  | m, i, hi, hl, hm => by
    by_cases h0 : i = 0
    · subst h0; exact up_zero M m
    · obtain ⟨k, hk, hp, _, hlk, hr⟩ := h.par i hi h0 hl
      have hd := low_down (n := n) hk (show (M.R k).o.r < (M.R i).o.r by have := (cst_bd i k).1; omega)
      cases m with
      | zero => omega
      | succ m =>
        rw [up, if_pos (by omega), Int.toNat_natCast, hp]
        exact h.reach m k hk hlk (by omega)
theorem Rnd.never {ls : List (Nat × Nat)} {n : Nat} {S : Int} {M : Msh} (hn : 0 < n) (hls : ∀ l ∈ ls, l.1 < n ∧ l.2 < n) (h : Rnd ls n S n M) : ∀ (m i : Nat), i < n → ¬ lay ls n i → up M m i ≠ 0
  | 0, i, hi, hl => fun e => hl (by have : i = 0 := by simpa [up] using e
                                    subst this; exact lay_zero ls _)
  | m + 1, i, hi, hl => by
    have h0 : i ≠ 0 := fun e => hl (by subst e; exact lay_zero ls _)
    rw [up, if_pos (by omega), Int.toNat_natCast]
    rcases h.out hn i hi h0 hl with hp | ⟨k, hk, hp, hnb⟩
    · rw [up_neg M m hp]; omega
    · rw [hp]
      exact h.never hn hls m k hk fun hlk => hl (lay_closed hn hls hnb hlk)
theorem Rnd.first {n : Nat} {M : Msh} (ls : List (Nat × Nat)) (hI : Inv n M) (hS : Sq n M) (hn : 0 < n) (hb : (M.R 0).o.s < 1000000000) :
    Rnd ls n ((M.R 0).o.s + 1) 0 (moveM M 3 0 0 0 0) := by
  have hv := hI.v 0 hn
  have hs := hI.s 0 hn
  have hr : renewV (M.R 0) ((M.R 0).o.s + 1) = ⟨⟨(M.R 0).o.s + 1, 0⟩, ⟨(M.R 0).o.s + 1, 0⟩, -1⟩ := by
    unfold renewV
    rw [if_pos ⟨hv, by omega, by rw [better_iff]; simp only; omega⟩]
  have hI' := hI.move hn 3 0 0 (by omega) hn hn
  have e : moveM M 3 0 0 0 0 = { M with R := upd M.R 0 ⟨⟨(M.R 0).o.s + 1, 0⟩, ⟨(M.R 0).o.s + 1, 0⟩, -1⟩, T := upd M.T 0 (M.T 0 ++ [⟨(M.R 0).o.s + 1, 0⟩]) } := by
    unfold moveM
    rw [if_neg (by decide), if_neg (by decide), if_neg (by decide), hr]
  rw [e] at hI' ⊢
  refine ⟨hI'.v, hI'.s, by simp [upd_same], fun i hi hl => ?_, fun i hi hl => ?_, fun i hi h0 hl => absurd hl h0, fun h => by omega⟩
  · have h0 : i ≠ 0 := hl
    simp only [upd_ne _ _ h0]
    have := hS.r i hi; omega
  · have h0 : i = 0 := hl
    subst h0
    simp only [upd_same]; exact ⟨trivial, by omega⟩
end Go.Proofs.Ytbonchnhngaicaa
