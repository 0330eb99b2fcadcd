/- Proved: plain facts on distances, routes and offers. Conditions: those that each theorem names. -/
import Derived.Test.YtbonchnhngaicaaBox
namespace Go.Proofs.Ytbonchnhngaicaa
set_option linter.unusedVariables false
/-- A distance: its sequence number and rank. -/
structure Ds where
  s : Int
  r : Int
deriving DecidableEq, Inhabited
/-- A route: what is told, the least that was told, the parent. -/
structure Rt where
  o : Ds
  l : Ds
  p : Int
deriving DecidableEq, Inhabited
/-- An offer: the peer, what it told, the cost. -/
structure Ofr where
  p : Int
  t : Ds
  c : Int
deriving DecidableEq, Inhabited
def betterB (a b : Ds) : Bool := decide (b.s < a.s) || (decide (a.s = b.s) && decide (a.r < b.r))
def distB (d : Ds) : Bool := decide (0 ≤ d.s) && decide (d.s ≤ 1000000000) && decide (0 ≤ d.r) && decide (d.r ≤ 1000000)
def validR (r : Rt) : Bool := distB r.o && distB r.l && !betterB r.o r.l && decide (-1 ≤ r.p) && decide (r.p < 60)
def offB (o : Ofr) : Bool := decide (0 ≤ o.p) && decide (o.p < 60) && distB o.t && decide (1 ≤ o.c) && decide (o.c ≤ 4096)
/-- No earlier offer, up to a place, is of this peer. -/
def freeTo (l : List Ofr) (p : Int) : Nat → Bool
  | 0 => true
  | k + 1 => freeTo l p k && decide ((l.getD k default).p ≠ p)
def offsTo (l : List Ofr) : Nat → Bool
  | 0 => true
  | k + 1 => offsTo l k && offB (l.getD k default) && freeTo l (l.getD k default).p k
def offsB (l : List Ofr) : Bool := offsTo l l.length
def thr (o : Ofr) : Ds := ⟨o.t.s, o.t.r + o.c⟩
def possB (r : Rt) (o : Ofr) : Bool := !decide (1000000 ≤ o.t.r + o.c) && (betterB o.t r.l || (decide (o.p = r.p) && decide (r.o.s ≤ o.t.s)))
def beforeB (a b : Ofr) : Bool := betterB (thr a) (thr b) || (decide (thr a = thr b) && decide (a.p < b.p))
/-- The place of the first one of the possible offers, or -1. -/
def bestTo (r : Rt) (l : List Ofr) : Nat → Int
  | 0 => -1
  | k + 1 => if possB r (l.getD k default) = true ∧ (bestTo r l k < 0 ∨ beforeB (l.getD k default) (l.getD (bestTo r l k).toNat default) = true) then (k : Int) else bestTo r l k
def takeV (r : Rt) (o : Ofr) : Rt := ⟨thr o, if betterB (thr o) r.l = true then thr o else r.l, o.p⟩
def loseV (r : Rt) : Rt := ⟨⟨r.o.s, 1000000⟩, r.l, -1⟩
def chooseV (r : Rt) (l : List Ofr) : Rt :=
  if validR r = true ∧ offsB l = true then (if bestTo r l l.length < 0 then loseV r else takeV r (l.getD (bestTo r l l.length).toNat default)) else r
def startV (root : Bool) (q : Int) : Rt := if 0 ≤ q ∧ q ≤ 1000000000 then ⟨⟨q, if root = true then 0 else 1000000⟩, ⟨q, 0⟩, -1⟩ else ⟨⟨0, 0⟩, ⟨0, 0⟩, 0⟩
def feasB (r : Rt) (d : Ds) : Bool := decide (d.r < 1000000) && betterB d r.l
def renewV (r : Rt) (q : Int) : Rt := if validR r = true ∧ q ≤ 1000000000 ∧ betterB ⟨q, 0⟩ r.l = true then ⟨⟨q, 0⟩, ⟨q, 0⟩, -1⟩ else r

theorem better_iff {a b : Ds} : betterB a b = true ↔ b.s < a.s ∨ a.s = b.s ∧ a.r < b.r := by simp [betterB]
theorem better_false {a b : Ds} : betterB a b = false ↔ ¬ (b.s < a.s ∨ a.s = b.s ∧ a.r < b.r) := by rw [← better_iff]; simp
theorem dist_iff {d : Ds} : distB d = true ↔ 0 ≤ d.s ∧ d.s ≤ 1000000000 ∧ 0 ≤ d.r ∧ d.r ≤ 1000000 := by simp [distB, and_assoc]
theorem valid_iff {r : Rt} : validR r = true ↔ distB r.o = true ∧ distB r.l = true ∧ betterB r.o r.l = false ∧ -1 ≤ r.p ∧ r.p < 60 := by simp [validR, and_assoc]
theorem off_iff {o : Ofr} : offB o = true ↔ 0 ≤ o.p ∧ o.p < 60 ∧ distB o.t = true ∧ 1 ≤ o.c ∧ o.c ≤ 4096 := by simp [offB, and_assoc]
theorem free_iff {l : List Ofr} {p : Int} : ∀ {k : Nat}, freeTo l p k = true ↔ ∀ j, j < k → (l.getD j default).p ≠ p
  | 0 => by simp [freeTo]
  | k + 1 => by
    rw [freeTo, Bool.and_eq_true, free_iff, decide_eq_true_eq]
    constructor
    · rintro ⟨h1, h2⟩ j hj
      rcases Nat.lt_or_ge j k with h | h
      · exact h1 j h
      · rw [show j = k by omega]; exact h2
    · intro h; exact ⟨fun j hj => h j (by omega), h k (by omega)⟩
theorem offs_iff {l : List Ofr} : ∀ {k : Nat}, offsTo l k = true ↔ ∀ j, j < k → offB (l.getD j default) = true ∧ ∀ i, i < j → (l.getD i default).p ≠ (l.getD j default).p
  | 0 => by simp [offsTo]
  | k + 1 => by
    rw [offsTo, Bool.and_eq_true, Bool.and_eq_true, offs_iff, free_iff]
    constructor
    · rintro ⟨⟨h1, h2⟩, h3⟩ j hj
      rcases Nat.lt_or_ge j k with h | h
      · exact h1 j h
      · rw [show j = k by omega]; exact ⟨h2, h3⟩
    · intro h; exact ⟨⟨fun j hj => h j (by omega), (h k (by omega)).1⟩, (h k (by omega)).2⟩
theorem offsTo_le {l : List Ofr} {k n : Nat} (h : offsTo l k = false) (hk : k ≤ n) : offsTo l n = false := by
  cases hn : offsTo l n
  · rfl
  · have := (offs_iff (k := k)).2 fun j hj => offs_iff.1 hn j (by omega)
    rw [h] at this; cases this
theorem before_iff {a b : Ofr} : beforeB a b = true ↔ b.t.s < a.t.s ∨ a.t.s = b.t.s ∧ (a.t.r + a.c < b.t.r + b.c ∨ a.t.r + a.c = b.t.r + b.c ∧ a.p < b.p) := by
  rw [beforeB]
  simp only [Bool.or_eq_true, Bool.and_eq_true, decide_eq_true_eq, better_iff]
  simp only [thr, Ds.mk.injEq]
  constructor
  · rintro ((h | h) | h) <;> omega
  · rintro (h | ⟨h, h' | h'⟩)
    · exact .inl (.inl h)
    · exact .inl (.inr ⟨h, h'⟩)
    · exact .inr ⟨⟨h, h'.1⟩, h'.2⟩
theorem before_false {a b : Ofr} : beforeB a b = false ↔ ¬ (b.t.s < a.t.s ∨ a.t.s = b.t.s ∧ (a.t.r + a.c < b.t.r + b.c ∨ a.t.r + a.c = b.t.r + b.c ∧ a.p < b.p)) := by
  rw [← before_iff]; simp
theorem poss_iff {r : Rt} {o : Ofr} : possB r o = true ↔ o.t.r + o.c < 1000000 ∧ (betterB o.t r.l = true ∨ o.p = r.p ∧ r.o.s ≤ o.t.s) := by
  simp [possB]
/-- The place of the best is one of the possible ones, and none is before it. -/
theorem best_spec (r : Rt) (l : List Ofr) : ∀ k : Nat, (bestTo r l k = -1 ∧ ∀ j, j < k → possB r (l.getD j default) = false) ∨
    (∃ b : Nat, bestTo r l k = b ∧ b < k ∧ possB r (l.getD b default) = true ∧ ∀ j, j < k → possB r (l.getD j default) = true → beforeB (l.getD j default) (l.getD b default) = false)
  | 0 => .inl ⟨rfl, fun j hj => absurd hj (Nat.not_lt_zero _)⟩
  | k + 1 => by
    have ih := best_spec r l k
    unfold bestTo
    by_cases hp : possB r (l.getD k default) = true
    · rcases ih with ⟨h1, h2⟩ | ⟨b, h1, hb, h2, h3⟩
      · right
        rw [h1, if_pos ⟨hp, .inl (by omega)⟩]
        refine ⟨k, rfl, by omega, hp, fun j hj hpj => ?_⟩
        rcases Nat.lt_or_ge j k with h | h
        · rw [h2 j h] at hpj; cases hpj
        · rw [show j = k by omega, before_false]; omega
      · right
        rw [h1]
        by_cases hbf : beforeB (l.getD k default) (l.getD b default) = true
        · rw [if_pos ⟨hp, .inr (by simpa using hbf)⟩]
          refine ⟨k, rfl, by omega, hp, fun j hj hpj => ?_⟩
          rcases Nat.lt_or_ge j k with h | h
          · have := h3 j h hpj
            rw [before_false] at this ⊢
            rw [before_iff] at hbf
            omega
          · rw [show j = k by omega, before_false]; omega
        · rw [if_neg (by rintro ⟨_, h | h⟩; omega; exact hbf (by simpa using h))]
          refine ⟨b, rfl, by omega, h2, fun j hj hpj => ?_⟩
          rcases Nat.lt_or_ge j k with h | h
          · exact h3 j h hpj
          · rw [show j = k by omega]; simpa using hbf
    · rw [if_neg (fun h => hp h.1)]
      rcases ih with ⟨h1, h2⟩ | ⟨b, h1, hb, h2, h3⟩
      · left
        refine ⟨h1, fun j hj => ?_⟩
        rcases Nat.lt_or_ge j k with h | h
        · exact h2 j h
        · rw [show j = k by omega]; simpa using hp
      · right
        refine ⟨b, h1, by omega, h2, fun j hj hpj => ?_⟩
        rcases Nat.lt_or_ge j k with h | h
        · exact h3 j h hpj
        · rw [show j = k by omega] at hpj; exact absurd hpj hp
/-- What is chosen, said by the offers as a set. -/
theorem choose_spec {r : Rt} {l : List Ofr} (hv : validR r = true) (ho : offsB l = true) :
    (chooseV r l = loseV r ∧ ∀ o ∈ l, possB r o = false) ∨
    (∃ o, o ∈ l ∧ chooseV r l = takeV r o ∧ possB r o = true ∧ ∀ x ∈ l, possB r x = true → beforeB x o = false) := by
  have mem : ∀ o, o ∈ l ↔ ∃ j, j < l.length ∧ l.getD j default = o := fun o => by
    constructor
    · intro h
      obtain ⟨j, hj, rfl⟩ := List.mem_iff_getElem.1 h
      exact ⟨j, hj, by simp [List.getD_eq_getElem?_getD, List.getElem?_eq_getElem hj]⟩
    · rintro ⟨j, hj, rfl⟩
      rw [List.getD_eq_getElem?_getD, List.getElem?_eq_getElem hj]; exact List.getElem_mem hj
  unfold chooseV
  rw [if_pos ⟨hv, ho⟩]
  rcases best_spec r l l.length with ⟨h1, h2⟩ | ⟨b, h1, hb, h2, h3⟩
  · left
    rw [h1, if_pos (by omega)]
    refine ⟨rfl, fun o h => ?_⟩
    obtain ⟨j, hj, rfl⟩ := (mem o).1 h
    exact h2 j hj
  · right
    rw [h1, if_neg (by omega)]
    refine ⟨l.getD b default, (mem _).2 ⟨b, hb, rfl⟩, rfl, h2, fun x hx hp => ?_⟩
    obtain ⟨j, hj, rfl⟩ := (mem x).1 hx
    exact h3 j hj hp
theorem offs_mem {l : List Ofr} (ho : offsB l = true) : ∀ o ∈ l, offB o = true := fun o h => by
  obtain ⟨j, hj, rfl⟩ := List.mem_iff_getElem.1 h
  have := (offs_iff.1 ho j hj).1
  rwa [List.getD_eq_getElem?_getD, List.getElem?_eq_getElem hj] at this
theorem offs_peer {l : List Ofr} (ho : offsB l = true) {a b : Ofr} (ha : a ∈ l) (hb : b ∈ l) (hp : a.p = b.p) : a = b := by
  obtain ⟨i, hi, rfl⟩ := List.mem_iff_getElem.1 ha
  obtain ⟨j, hj, rfl⟩ := List.mem_iff_getElem.1 hb
  have g : ∀ k (hk : k < l.length), l.getD k default = l[k] := fun k hk => by simp [List.getD_eq_getElem?_getD, List.getElem?_eq_getElem hk]
  rcases Nat.lt_trichotomy i j with h | h | h
  · have := (offs_iff.1 ho j hj).2 i h; rw [g i hi, g j hj] at this; exact absurd hp this
  · subst h; rfl
  · have := (offs_iff.1 ho i hi).2 j h; rw [g i hi, g j hj] at this; exact absurd hp.symm this
/-- Two lists of the same offers: the same choice. -/
theorem choose_same {r : Rt} {l m : List Ofr} (hv : validR r = true) (hl : offsB l = true) (hm : offsB m = true) (h : ∀ o, possB r o = true → (o ∈ l ↔ o ∈ m)) : chooseV r l = chooseV r m := by
  rcases choose_spec hv hl with ⟨e1, n1⟩ | ⟨a, ha, e1, p1, b1⟩ <;> rcases choose_spec hv hm with ⟨e2, n2⟩ | ⟨b, hb, e2, p2, b2⟩
  · rw [e1, e2]
  · have := n1 b ((h b p2).2 hb); rw [p2] at this; cases this
  · have := n2 a ((h a p1).1 ha); rw [p1] at this; cases this
  · have h1 := b1 b ((h b p2).2 hb) p2
    have h2 := b2 a ((h a p1).1 ha) p1
    rw [before_false] at h1 h2
    rw [e1, e2, offs_peer hm ((h a p1).1 ha) hb (by omega)]
theorem choose_fewer {r : Rt} {l m : List Ofr} {x : Ofr} (hv : validR r = true) (hl : offsB l = true) (hm : offsB m = true) (hx : x.p ≠ (chooseV r l).p) (h : ∀ o, o ∈ l ↔ o ∈ m ∨ o = x) (hxm : x ∉ m) : chooseV r m = chooseV r l := by
  rcases choose_spec hv hl with ⟨e1, n1⟩ | ⟨a, ha, e1, p1, b1⟩ <;> rcases choose_spec hv hm with ⟨e2, n2⟩ | ⟨b, hb, e2, p2, b2⟩
  · rw [e1, e2]
  · have := n1 b ((h b).2 (.inl hb)); rw [p2] at this; cases this
  · rcases (h a).1 ha with h' | h'
    · have := n2 a h'; rw [p1] at this; cases this
    · subst h'; rw [e1] at hx; exact absurd rfl hx
  · rcases (h a).1 ha with h' | h'
    · have h1 := b1 b ((h b).2 (.inl hb)) p2
      have h2 := b2 a h' p1
      rw [before_false] at h1 h2
      rw [e1, e2, offs_peer hm hb h' (by omega)]
    · subst h'; rw [e1] at hx; exact absurd rfl hx
theorem choose_valid {r : Rt} {l : List Ofr} (hv : validR r = true) : validR (chooseV r l) = true ∧ betterB r.l (chooseV r l).l = false ∧ betterB (chooseV r l).o (chooseV r l).l = false ∧ r.o.s ≤ (chooseV r l).o.s := by
  obtain ⟨v1, v2, v3, v4, v5⟩ := valid_iff.1 hv
  rw [dist_iff] at v1 v2
  rw [better_false] at v3
  cases ho : offsB l
  · have e : chooseV r l = r := by unfold chooseV; rw [if_neg (by rw [ho]; simp)]
    rw [e]
    exact ⟨hv, better_false.2 (by omega), better_false.2 v3, Int.le_refl _⟩
  · rcases choose_spec hv ho with ⟨e, _⟩ | ⟨o, hm, e, p, _⟩
    · rw [e]
      have h3 : betterB (loseV r).o (loseV r).l = false := better_false.2 (by simp only [loseV]; omega)
      exact ⟨valid_iff.2 ⟨dist_iff.2 (by simp only [loseV]; omega), dist_iff.2 v2, h3, by simp only [loseV]; omega, by simp only [loseV]; omega⟩, better_false.2 (by simp only [loseV]; omega), h3, Int.le_refl _⟩
    · obtain ⟨q1, q2, q3, q4, q5⟩ := off_iff.1 (offs_mem ho o hm)
      rw [dist_iff] at q3
      rw [poss_iff, better_iff] at p
      rw [e]
      have hlst : betterB (takeV r o).o (takeV r o).l = false ∧ betterB r.l (takeV r o).l = false ∧ distB (takeV r o).l = true := by
        simp only [takeV]
        split
        · rename_i hb
          rw [better_iff] at hb
          simp only [thr] at hb ⊢
          exact ⟨better_false.2 (by simp only; omega), better_false.2 (by simp only; omega), dist_iff.2 (by simp only; omega)⟩
        · rename_i hb
          exact ⟨by simpa using hb, better_false.2 (by omega), dist_iff.2 v2⟩
      exact ⟨valid_iff.2 ⟨dist_iff.2 (by simp only [takeV, thr]; omega), hlst.2.2, hlst.1, by simp only [takeV]; omega, by simp only [takeV]; omega⟩, hlst.2.1, hlst.1, by simp only [takeV, thr]; omega⟩
theorem renew_valid {r : Rt} (q : Int) (hv : validR r = true) : validR (renewV r q) = true ∧ betterB r.l (renewV r q).l = false ∧ betterB (renewV r q).o (renewV r q).l = false ∧ r.o.s ≤ (renewV r q).o.s := by
  obtain ⟨v1, v2, v3, v4, v5⟩ := valid_iff.1 hv
  rw [dist_iff] at v1 v2
  have v3' := v3
  rw [better_false] at v3
  unfold renewV
  split
  · rename_i h
    obtain ⟨_, h1, h2⟩ := h
    rw [better_iff] at h2
    simp only at h2
    have h3 : betterB ⟨q, 0⟩ ⟨q, 0⟩ = false := better_false.2 (by simp)
    exact ⟨valid_iff.2 ⟨dist_iff.2 (by simp only; omega), dist_iff.2 (by simp only; omega), h3, by simp, by simp⟩, better_false.2 (by simp only; omega), h3, by simp only; omega⟩
  · exact ⟨hv, better_false.2 (by omega), v3', Int.le_refl _⟩
theorem order_1 (a b : Ds) : (betterB a b && betterB b a) = false := by
  cases h : betterB a b
  · rfl
  · have : betterB b a = false := by rw [better_iff] at h; rw [better_false]; omega
    rw [this]; rfl
theorem order_2 (a b : Ds) : (decide (a = b)) = (!betterB a b && !betterB b a) := by
  obtain ⟨s1, r1⟩ := a; obtain ⟨s2, r2⟩ := b
  rw [Bool.eq_iff_iff]
  simp only [decide_eq_true_eq, Ds.mk.injEq, Bool.and_eq_true, Bool.not_eq_true', better_false]
  omega
theorem order_3 {a b c : Ds} (h1 : betterB a b = true) (h2 : betterB b c = true) : betterB a c = true := by
  rw [better_iff] at *; omega
theorem order_4 (r s : Rt) (a : Ds) : (!feasB r a || betterB s.l r.l || feasB s a) = true := by
  cases h1 : feasB r a
  · rfl
  · cases h2 : betterB s.l r.l
    · have : feasB s a = true := by
        simp only [feasB, Bool.and_eq_true, decide_eq_true_eq] at h1 ⊢
        refine ⟨h1.1, ?_⟩
        have := h1.2
        rw [better_iff] at this ⊢
        rw [better_false] at h2
        omega
      rw [this]; rfl
    · rfl
theorem downhill {r : Rt} {l : List Ofr} {least : Ds} (hv : validR r = true) (ho : offsB l = true) {o : Ofr} (hm : o ∈ l) (hp : o.p = (chooseV r l).p) (h1 : betterB o.t least = false) (h2 : o.p ≠ r.p ∨ betterB least r.l = true) : betterB least (chooseV r l).l = true := by
  rcases choose_spec hv ho with ⟨e, _⟩ | ⟨a, ha, e, p, _⟩
  · rw [e] at hp
    have := (off_iff.1 (offs_mem ho o hm)).1
    simp only [loseV] at hp; omega
  · rw [e] at hp ⊢
    have hoa := offs_peer ho hm ha hp
    subst hoa
    obtain ⟨q1, q2, q3, q4, q5⟩ := off_iff.1 (offs_mem ho o hm)
    rw [poss_iff] at p
    rw [better_false] at h1
    simp only [takeV]
    split
    · rw [better_iff]; simp only [thr]; omega
    · rcases p.2 with h | h
      · rw [better_iff] at h ⊢; omega
      · rcases h2 with h' | h'
        · exact absurd h.1 h'
        · exact h'
theorem choice_of {r : Rt} {l : List Ofr} (hv : validR r = true) (ho : offsB l = true) {o : Ofr} (hm : o ∈ l) (hp : o.p = (chooseV r l).p) :
    possB r o = true ∧ (chooseV r l).o = thr o ∧ ∀ x ∈ l, (possB r x && beforeB x o) = false := by
  rcases choose_spec hv ho with ⟨e, _⟩ | ⟨a, ha, e, p, hb⟩
  · rw [e] at hp
    have := (off_iff.1 (offs_mem ho o hm)).1
    simp only [loseV] at hp; omega
  · rw [e] at hp ⊢
    have hoa := offs_peer ho hm ha hp
    subst hoa
    refine ⟨p, rfl, fun x hx => ?_⟩
    cases hpx : possB r x
    · rfl
    · rw [hb x hx hpx]; rfl
theorem choice_parent {r : Rt} {l : List Ofr} (hv : validR r = true) (ho : offsB l = true) : 0 ≤ (chooseV r l).p ↔ ∃ o ∈ l, o.p = (chooseV r l).p := by
  rcases choose_spec hv ho with ⟨e, _⟩ | ⟨a, ha, e, p, hb⟩
  · rw [e]
    constructor
    · intro h; simp [loseV] at h
    · rintro ⟨o, h1, h2⟩; have := (off_iff.1 (offs_mem ho o h1)).1; omega
  · rw [e]
    exact ⟨fun _ => ⟨a, ha, rfl⟩, fun _ => (off_iff.1 (offs_mem ho a ha)).1⟩
theorem offs_of_mem {l m : List Ofr} (ho : offsB l = true) (hm : ∀ o ∈ m, o ∈ l) (hd : m.Nodup) : offsB m = true := by
  refine offs_iff.2 fun j hj => ?_
  have g : ∀ k (hk : k < m.length), m.getD k default = m[k] := fun k hk => by simp [List.getD_eq_getElem?_getD, List.getElem?_eq_getElem hk]
  rw [g j hj]
  refine ⟨offs_mem ho _ (hm _ (List.getElem_mem hj)), fun i hi => ?_⟩
  rw [g i (by omega)]
  intro hp
  have := offs_peer ho (hm _ (List.getElem_mem (by omega))) (hm _ (List.getElem_mem hj)) hp
  have := (List.getElem_inj hd).1 this
  omega
theorem offs_nodup {l : List Ofr} (ho : offsB l = true) : l.Nodup := by
  rw [List.nodup_iff_pairwise_ne, List.pairwise_iff_getElem]
  intro i j hi hj hij h
  have g : ∀ k (hk : k < l.length), l.getD k default = l[k] := fun k hk => by simp [List.getD_eq_getElem?_getD, List.getElem?_eq_getElem hk]
  have := (offs_iff.1 ho j hj).2 i hij
  rw [g i hi, g j hj, h] at this
  exact this rfl
theorem turned_mem (l : List Ofr) (k : Nat) (o : Ofr) : o ∈ l.drop k ++ l.take k ↔ o ∈ l := by
  rw [List.mem_append, or_comm, ← List.mem_append, List.take_append_drop]
theorem turned_ok {l : List Ofr} (ho : offsB l = true) (k : Nat) : offsB (l.drop k ++ l.take k) = true :=
  offs_of_mem ho (fun o h => (turned_mem l k o).1 h) ((List.perm_append_comm.nodup_iff).1 (by rw [List.take_append_drop]; exact offs_nodup ho))
theorem choose_turned {r : Rt} {l : List Ofr} (hv : validR r = true) (ho : offsB l = true) (k : Nat) : chooseV r (l.drop k ++ l.take k) = chooseV r l :=
  choose_same hv (turned_ok ho k) ho fun o _ => turned_mem l k o
theorem fewer_ok {l : List Ofr} (ho : offsB l = true) (i : Nat) : offsB (l.take i ++ l.drop (i + 1)) = true := by
  have hs : (l.take i ++ l.drop (i + 1)).Sublist l := by
    rw [← List.eraseIdx_eq_take_drop_succ]; exact List.eraseIdx_sublist _ _
  exact offs_of_mem ho (fun o h => hs.subset h) (hs.nodup (offs_nodup ho))
theorem choose_left {r : Rt} {l : List Ofr} (hv : validR r = true) (ho : offsB l = true) {i : Nat} (hi : i < l.length) (hp : (l.getD i default).p ≠ (chooseV r l).p) : chooseV r (l.take i ++ l.drop (i + 1)) = chooseV r l := by
  have g : l.getD i default = l[i] := by simp [List.getD_eq_getElem?_getD, List.getElem?_eq_getElem hi]
  have hl : l = l.take i ++ l[i] :: l.drop (i + 1) := by rw [← List.drop_eq_getElem_cons hi, List.take_append_drop]
  have hnd := offs_nodup ho
  refine choose_fewer (x := l[i]) hv ho (fewer_ok ho i) (by rw [← g]; exact hp) (fun o => ?_) (fun h => ?_)
  · constructor
    · intro h
      rw [hl, List.mem_append, List.mem_cons] at h
      rw [List.mem_append]
      rcases h with h | h | h
      · exact .inl (.inl h)
      · exact .inr h
      · exact .inl (.inr h)
    · rintro (h | h)
      · rw [hl, List.mem_append, List.mem_cons]
        rw [List.mem_append] at h
        rcases h with h | h
        · exact .inl h
        · exact .inr (.inr h)
      · rw [h]; exact List.getElem_mem hi
  · rw [hl] at hnd
    rw [List.nodup_append] at hnd
    obtain ⟨_, h2, h3⟩ := hnd
    rw [List.mem_append] at h
    rcases h with h | h
    · exact h3 _ h _ (List.mem_cons_self) rfl
    · exact (List.nodup_cons.1 h2).1 h
/-- Some offer is greater than a sequence number. -/
def greatB (q : Int) (o : Ofr) : Bool := decide (q < o.t.s) && decide (o.t.r + o.c < 1000000)
theorem restart_of {r : Rt} {l : List Ofr} (hv : validR r = true) (ho : offsB l = true) :
    (decide (0 ≤ (chooseV (startV false r.o.s) l).p) = l.any (greatB r.o.s)) ∧ (l.any (greatB r.o.s) = false → chooseV (startV false r.o.s) l = startV false r.o.s ∧ betterB (chooseV (startV false r.o.s) l).o r.o = false) := by
  obtain ⟨v1, v2, v3, v4, v5⟩ := valid_iff.1 hv
  rw [dist_iff] at v1
  have es : startV false r.o.s = ⟨⟨r.o.s, 1000000⟩, ⟨r.o.s, 0⟩, -1⟩ := by unfold startV; rw [if_pos ⟨v1.1, v1.2.1⟩]; rfl
  rw [es]
  have hvs : validR ⟨⟨r.o.s, 1000000⟩, ⟨r.o.s, 0⟩, -1⟩ = true := valid_iff.2 ⟨dist_iff.2 (by simp only; omega), dist_iff.2 (by simp only; omega), better_false.2 (by simp), by simp, by simp⟩
  have hp : ∀ o ∈ l, possB ⟨⟨r.o.s, 1000000⟩, ⟨r.o.s, 0⟩, -1⟩ o = greatB r.o.s o := fun o h => by
    obtain ⟨q1, q2, q3, q4, q5⟩ := off_iff.1 (offs_mem ho o h)
    rw [dist_iff] at q3
    rw [Bool.eq_iff_iff, poss_iff, better_iff]
    simp only [greatB, Bool.and_eq_true, decide_eq_true_eq]
    omega
  rcases choose_spec hvs ho with ⟨e, hn⟩ | ⟨a, ha, e, p, hb⟩
  · have hany : l.any (greatB r.o.s) = false := by
      rw [List.any_eq_false]; intro o h; rw [← hp o h, hn o h]; simp
    rw [e, hany]
    refine ⟨by simp [loseV], fun _ => ⟨rfl, better_false.2 (by simp only [loseV]; omega)⟩⟩
  · have hany : l.any (greatB r.o.s) = true := by
      rw [List.any_eq_true]; exact ⟨a, ha, by rw [← hp a ha]; exact p⟩
    rw [e, hany]
    have := (off_iff.1 (offs_mem ho a ha)).1
    exact ⟨by simp [takeV, this], fun h => by cases h⟩
end Go.Proofs.Ytbonchnhngaicaa
