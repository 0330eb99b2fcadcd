/- Proved: a region that draws its order, walked once for each of its operations under a fact on what has been done, the values that were yielded, and the world, for whatever program. Conditions: those that each theorem names. -/
import Derived.Test.YtgmabjlehjpboaaDoorMix
namespace Go.Proofs.YtgmabjlehjpboaaDoor.K
open Go.RowKit Go.Sort
set_option linter.unusedVariables false

section
variable {P : Program} {l : List Oper} {Q : Exit → Act → World → Prop}

/-- A slot's value: what was yielded, if that has been done. -/
@[irreducible] def pickV (d : Dn) (k : Nat) (v old : Value) : Value := if d k = true then v else old
theorem pickV_t {d : Dn} {k : Nat} {v old : Value} (h : d k = true) : pickV d k v old = v := by unfold pickV; rw [if_pos h]
theorem pickV_f {d : Dn} {k : Nat} {v old : Value} (h : d k = false) : pickV d k v old = old := by unfold pickV; rw [if_neg (by rw [h]; simp)]
abbrev Vs := Nat → Value
def Vs.upd (vs : Vs) (i : Nat) (v : Value) : Vs := fun j => if j = i then v else vs j
theorem Vs.upd_same (vs : Vs) (i : Nat) (v : Value) : vs.upd i v i = v := by simp [Vs.upd]
theorem Vs.upd_ne (vs : Vs) {i j : Nat} (v : Value) (h : j ≠ i) : vs.upd i v j = vs j := by simp [Vs.upd, h]
theorem Dn.set_back {d : Dn} {i j : Nat} (hne : j ≠ i) (h : d.set i j = true) : d j = true := by rwa [Dn.set_ne d hne] at h
theorem Dn.set_back' {d : Dn} {i j : Nat} (hne : j ≠ i) (h : d.set i j = false) : d j = false := by rwa [Dn.set_ne d hne] at h

/-- The activation, the values of what has been done laid into their slots. -/
def laidA (d : Dn) (vs : Vs) : Nat → List Oper → Act → Act
  | _, [], a => a
  | k, o :: l, a => laidA d vs (k + 1) l (match o.dst with | some t => { a with tmps := a.tmps.setIfInBounds t (pickV d k (vs k) (a.tmps.getD t undef)) } | none => a)
/-- All laid. -/
def allA (vs : Vs) : Nat → List Oper → Act → Act
  | _, [], a => a
  | k, o :: l, a => allA vs (k + 1) l (a.put o.dst (vs k))
abbrev Apart (l : List Oper) : Prop := l.Pairwise fun x y => ∀ t, x.dst = some t → y.dst ≠ some t
theorem laid_other (d : Dn) (vs : Vs) : ∀ (l : List Oper) (k : Nat) (a : Act) (t : Tmp), (∀ o ∈ l, o.dst ≠ some t) → (laidA d vs k l a).tmps[t]? = a.tmps[t]?
  | [], _, _, _, _ => rfl
  | o :: l, k, a, t, h => by
    unfold laidA
    rw [laid_other d vs l (k + 1) _ t fun o ho => h o (List.mem_cons_of_mem _ ho)]
    cases hd : o.dst with
    | none => rfl
    | some u =>
      have : u ≠ t := fun e => h o List.mem_cons_self (by rw [hd, e])
      simp only [Array.getElem?_setIfInBounds_ne this]
theorem laid_at (d : Dn) (vs : Vs) : ∀ (l : List Oper) (k : Nat) (a : Act) (t : Tmp) (i : Nat) (o : Oper), Apart l → l[i]? = some o → o.dst = some t → (laidA d vs k l a).tmps[t]? = a.tmps[t]?.map fun old => pickV d (k + i) (vs (k + i)) old
  | [], _, _, _, _, _, _, h, _ => by simp at h
  | x :: l, k, a, t, 0, o, hp, h, hd => by
    simp only [List.getElem?_cons_zero, Option.some.injEq] at h
    subst h
    obtain ⟨hx, -⟩ := List.pairwise_cons.1 hp
    unfold laidA
    rw [laid_other d vs l (k + 1) _ t fun y hy => hx y hy t hd, hd, Nat.add_zero]
    simp only
    rcases Nat.lt_or_ge t a.tmps.size with hl | hl
    · simp [hl]
    · simp [hl]
  | x :: l, k, a, t, i + 1, o, hp, h, hd => by
    obtain ⟨hx, hp'⟩ := List.pairwise_cons.1 hp
    have h' : l[i]? = some o := by simpa using h
    unfold laidA
    rw [laid_at d vs l (k + 1) _ t i o hp' h' hd, show k + 1 + i = k + (i + 1) from by omega]
    congr 1
    cases hx' : x.dst with
    | none => rfl
    | some u =>
      have : u ≠ t := fun e => hx o (List.mem_of_getElem? h') u hx' (by rw [hd, e])
      simp only [Array.getElem?_setIfInBounds_ne this]
theorem laid_defers (d : Dn) (vs : Vs) : ∀ (l : List Oper) (k : Nat) (a : Act), (laidA d vs k l a).defers = a.defers
  | [], _, _ => rfl
  | o :: l, k, a => by unfold laidA; rw [laid_defers d vs l (k + 1)]; cases o.dst <;> rfl
theorem all_other (vs : Vs) : ∀ (l : List Oper) (k : Nat) (a : Act) (t : Tmp), (∀ o ∈ l, o.dst ≠ some t) → (allA vs k l a).tmps[t]? = a.tmps[t]?
  | [], _, _, _, _ => rfl
  | o :: l, k, a, t, h => by
    unfold allA
    rw [all_other vs l (k + 1) _ t fun o ho => h o (List.mem_cons_of_mem _ ho), put_get, if_neg (h o List.mem_cons_self)]
theorem all_at (vs : Vs) : ∀ (l : List Oper) (k : Nat) (a : Act) (t : Tmp) (i : Nat) (o : Oper), Apart l → l[i]? = some o → o.dst = some t → (allA vs k l a).tmps[t]? = a.tmps[t]?.map fun _ => vs (k + i)
  | [], _, _, _, _, _, _, h, _ => by simp at h
  | x :: l, k, a, t, 0, o, hp, h, hd => by
    simp only [List.getElem?_cons_zero, Option.some.injEq] at h
    subst h
    obtain ⟨hx, -⟩ := List.pairwise_cons.1 hp
    unfold allA
    rw [all_other vs l (k + 1) _ t fun y hy => hx y hy t hd, put_get, if_pos hd, Nat.add_zero]
  | x :: l, k, a, t, i + 1, o, hp, h, hd => by
    obtain ⟨hx, hp'⟩ := List.pairwise_cons.1 hp
    have h' : l[i]? = some o := by simpa using h
    unfold allA
    rw [all_at vs l (k + 1) _ t i o hp' h' hd, show k + 1 + i = k + (i + 1) from by omega, put_get, if_neg (fun e => hx o (List.mem_of_getElem? h') t e hd)]
theorem all_defers (vs : Vs) : ∀ (l : List Oper) (k : Nat) (a : Act), (allA vs k l a).defers = a.defers
  | [], _, _ => rfl
  | o :: l, k, a => by unfold allA; rw [all_defers vs l (k + 1), put_defers']
theorem dst_or (l : List Oper) (t : Tmp) : (∀ o ∈ l, o.dst ≠ some t) ∨ ∃ (i : Nat) (o : Oper), l[i]? = some o ∧ o.dst = some t := by
  by_cases h : ∀ o ∈ l, o.dst ≠ some t
  · exact .inl h
  · right
    obtain ⟨o, h⟩ := Classical.not_forall.1 h
    obtain ⟨ho, hd⟩ := Classical.not_imp.1 h
    replace hd := Classical.not_not.1 hd
    obtain ⟨i, hi⟩ := List.mem_iff_getElem?.1 ho
    exact ⟨i, o, hi, hd⟩
theorem laid_none (vs : Vs) (a : Act) (l : List Oper) (hp : Apart l) : laidA (fun _ => false) vs 0 l a = a := by
  refine act_ext (laid_defers _ _ _ _ _) fun t => ?_
  rcases dst_or l t with h | ⟨i, o, hi, hd⟩
  · exact laid_other _ _ _ _ _ _ h
  · rw [laid_at _ _ l 0 a t i o hp hi hd]
    have : (fun old => pickV (fun _ => false) (0 + i) (vs (0 + i)) old) = id := by funext old; exact pickV_f rfl
    rw [this, Option.map_id]; rfl
theorem laid_all {d : Dn} (vs : Vs) (a : Act) (l : List Oper) (hp : Apart l) (h : ∀ i, i < l.length → d i = true) : laidA d vs 0 l a = allA vs 0 l a := by
  refine act_ext (by rw [laid_defers, all_defers]) fun t => ?_
  rcases dst_or l t with h' | ⟨i, o, hi, hd⟩
  · rw [laid_other _ _ _ _ _ _ h', all_other _ _ _ _ _ h']
  · rw [laid_at _ _ l 0 a t i o hp hi hd, all_at _ l 0 a t i o hp hi hd]
    have hl : i < l.length := (List.getElem?_eq_some_iff.1 hi).1
    congr 1
    funext old
    exact pickV_t (by rw [Nat.zero_add]; exact h i hl)
theorem apart_ne {l : List Oper} (hp : Apart l) {i j : Nat} {o o' : Oper} {t : Tmp} (hi : l[i]? = some o) (hj : l[j]? = some o') (hd : o.dst = some t) (hd' : o'.dst = some t) : i = j := by
  rcases Nat.lt_trichotomy i j with h | h | h
  · exfalso
    obtain ⟨h1, e1⟩ := List.getElem?_eq_some_iff.1 hi
    obtain ⟨h2, e2⟩ := List.getElem?_eq_some_iff.1 hj
    exact (List.pairwise_iff_getElem.1 hp i j h1 h2 h) t (by rw [e1]; exact hd) (by rw [e2]; exact hd')
  · exact h
  · exfalso
    obtain ⟨h1, e1⟩ := List.getElem?_eq_some_iff.1 hi
    obtain ⟨h2, e2⟩ := List.getElem?_eq_some_iff.1 hj
    exact (List.pairwise_iff_getElem.1 hp j i h2 h1 h) t (by rw [e2]; exact hd') (by rw [e1]; exact hd)
theorem laid_put {d : Dn} (vs : Vs) (a : Act) (l : List Oper) (hp : Apart l) {i : Nat} {o : Oper} (hi : l[i]? = some o) (v : Value) : (laidA d vs 0 l a).put o.dst v = laidA (d.set i) (vs.upd i v) 0 l a := by
  refine act_ext (by rw [put_defers', laid_defers, laid_defers]) fun t => ?_
  rw [put_get]
  rcases dst_or l t with h' | ⟨j, o', hj, hd⟩
  · rw [if_neg (h' o (List.mem_of_getElem? hi)), laid_other _ _ _ _ _ _ h', laid_other _ _ _ _ _ _ h']
  · rw [laid_at _ _ l 0 a t j o' hp hj hd, laid_at _ _ l 0 a t j o' hp hj hd, Nat.zero_add]
    by_cases hji : j = i
    · subst hji
      rw [hi] at hj
      cases hj
      rw [if_pos hd, Option.map_map]
      congr 1
      funext old
      rw [pickV_t (Dn.set_same _ _), Vs.upd_same]; rfl
    · rw [if_neg (fun e => hji (apart_ne hp hj hi hd e))]
      congr 1
      funext old
      rw [Vs.upd_ne _ _ hji]
      unfold pickV
      rw [Dn.set_ne _ hji]

/-- What an activation holds: the values of what has been done; all other slots as before. -/
structure Holds (l : List Oper) (a : Act) (d : Dn) (vs : Vs) (b : Act) : Prop where
  done : ∀ (j : Nat) (t : Tmp), (l[j]?.bind (·.dst)) = some t → t < a.tmps.size → d j = true → b.tmps[t]? = some (vs j)
  rest : ∀ t : Tmp, (l.all fun o => decide (o.dst ≠ some t)) = true → b.tmps[t]? = a.tmps[t]?
  kept : ∀ (j : Nat) (t : Tmp), (l[j]?.bind (·.dst)) = some t → d j = false → b.tmps[t]? = a.tmps[t]?
theorem Holds.at {a : Act} {d : Dn} {vs : Vs} {b : Act} (h : Holds l a d vs b) (j : Nat) (t : Tmp) (ht : (l[j]?.bind (·.dst)) = some t) (hs : t < a.tmps.size) (hd : d j = true) {v : Value} (hv : vs j = v) : b.tmps.getD t undef = v := by
  rw [Array.getD_eq_getD_getElem?, h.done j t ht hs hd]; exact hv
theorem Holds.old {a : Act} {d : Dn} {vs : Vs} {b : Act} (h : Holds l a d vs b) (t : Tmp) (ht : (l.all fun o => decide (o.dst ≠ some t)) = true) : b.tmps.getD t undef = a.tmps.getD t undef := by
  rw [Array.getD_eq_getD_getElem?, Array.getD_eq_getD_getElem?, h.rest t ht]
theorem Holds.not {a : Act} {d : Dn} {vs : Vs} {b : Act} (h : Holds l a d vs b) (j : Nat) (t : Tmp) (ht : (l[j]?.bind (·.dst)) = some t) (hd : d j = false) : b.tmps.getD t undef = a.tmps.getD t undef := by
  rw [Array.getD_eq_getD_getElem?, Array.getD_eq_getD_getElem?, h.kept j t ht hd]
/-- One operation under the fact. -/
def StepJ (P : Program) (l : List Oper) (Q : Exit → Act → World → Prop) (a : Act) (J : Dn → Vs → World → Prop) (i : Nat) (o : Oper) : Prop :=
  ∀ (d : Dn) (vs : Vs) (w : World), J d vs w → d i = false → (∀ e ∈ o.after.toList, Region.binds .any e = true → d e.on = true) →
    ∀ b, Holds l a d vs b → ∀ K : Act → World → Prop, (∀ v b' w', b' = b.put o.dst v → J (d.set i) (vs.upd i v) w' → K b' w') →
      if Region.wanted o (yielded l.toArray b.tmps) = true then o.wp P b w K Q else K (b.put o.dst undef) w
/-- An operation without a guard. -/
theorem stepJ_of {a : Act} {J : Dn → Vs → World → Prop} {i : Nat} {o : Oper} (hg : o.guard = none)
    (h : ∀ (d : Dn) (vs : Vs) (w : World), J d vs w → d i = false → (∀ e ∈ o.after.toList, Region.binds .any e = true → d e.on = true) → ∀ b, Holds l a d vs b →
      ∀ K : Act → World → Prop, (∀ v b' w', b' = b.put o.dst v → J (d.set i) (vs.upd i v) w' → K b' w') → o.wp P b w K Q) : StepJ P l Q a J i o := fun d vs w hJ hd hp b hb K hK => by
  rw [if_pos (show Region.wanted o (yielded l.toArray b.tmps) = true from by unfold Region.wanted; rw [hg])]
  exact h d vs w hJ hd hp b hb K hK
/-- An operation behind a guard that is met. -/
theorem stepJ_on {a : Act} {J : Dn → Vs → World → Prop} {i : Nat} {o : Oper} (j : Nat) (t : Tmp) (b0 : Bool) (hg : o.guard = some (j, b0)) (ht : (l[j]?.bind (·.dst)) = some t) (hs : t < a.tmps.size)
    (hon : (o.after.toList.any fun e => Region.binds .any e && decide (e.on = j)) = true) (hv : ∀ d vs w, J d vs w → d j = true → vs j = .bool b0)
    (h : ∀ (d : Dn) (vs : Vs) (w : World), J d vs w → d i = false → (∀ e ∈ o.after.toList, Region.binds .any e = true → d e.on = true) → ∀ b, Holds l a d vs b →
      ∀ K : Act → World → Prop, (∀ v b' w', b' = b.put o.dst v → J (d.set i) (vs.upd i v) w' → K b' w') → o.wp P b w K Q) : StepJ P l Q a J i o := fun d vs w hJ hd hp b hb K hK => by
  simp only [List.any_eq_true, Bool.and_eq_true, decide_eq_true_eq] at hon
  obtain ⟨e, he, hb1, hb2⟩ := hon
  have hdj : d j = true := by rw [← hb2]; exact hp e he hb1
  have hy : yielded l.toArray b.tmps j = some b0 := by
    unfold yielded
    have e1 : (l.toArray[j]?).bind (·.dst) = some t := by simpa using ht
    rw [e1, Option.bind_some, hb.done j t ht hs hdj, hv d vs w hJ hdj]
  rw [if_pos (show Region.wanted o (yielded l.toArray b.tmps) = true from by unfold Region.wanted; rw [hg]; simp [hy])]
  exact h d vs w hJ hd hp b hb K hK
/-- An operation behind a guard that is not met. -/
theorem stepJ_off {a : Act} {J : Dn → Vs → World → Prop} {i : Nat} {o : Oper} (j : Nat) (t : Tmp) (b0 b1 : Bool) (hg : o.guard = some (j, b0)) (hne : b1 ≠ b0) (ht : (l[j]?.bind (·.dst)) = some t) (hs : t < a.tmps.size)
    (hon : (o.after.toList.any fun e => Region.binds .any e && decide (e.on = j)) = true) (hv : ∀ d vs w, J d vs w → d j = true → vs j = .bool b1)
    (h : ∀ (d : Dn) (vs : Vs) (w : World), J d vs w → d i = false → J (d.set i) (vs.upd i undef) w) : StepJ P l Q a J i o := fun d vs w hJ hd hp b hb K hK => by
  simp only [List.any_eq_true, Bool.and_eq_true, decide_eq_true_eq] at hon
  obtain ⟨e, he, hb1, hb2⟩ := hon
  have hdj : d j = true := by rw [← hb2]; exact hp e he hb1
  have hy : yielded l.toArray b.tmps j = some b1 := by
    unfold yielded
    have e1 : (l.toArray[j]?).bind (·.dst) = some t := by simpa using ht
    rw [e1, Option.bind_some, hb.done j t ht hs hdj, hv d vs w hJ hdj]
  rw [if_neg (show ¬ Region.wanted o (yielded l.toArray b.tmps) = true from by unfold Region.wanted; rw [hg]; simp [hy, hne])]
  exact hK _ _ _ rfl (h d vs w hJ hd)
def StepsJ (P : Program) (l : List Oper) (Q : Exit → Act → World → Prop) (a : Act) (J : Dn → Vs → World → Prop) : Nat → List Oper → Prop
  | _, [] => True
  | k, o :: r => StepJ P l Q a J k o ∧ StepsJ P l Q a J (k + 1) r
theorem StepsJ.get {a : Act} {J : Dn → Vs → World → Prop} : ∀ {r : List Oper} {k : Nat}, StepsJ P l Q a J k r → ∀ {i : Nat} {o : Oper}, r[i]? = some o → StepJ P l Q a J (k + i) o
  | [], _, _, i, o, h => by simp at h
  | x :: r, k, hs, 0, o, h => by simp at h; subst h; exact hs.1
  | x :: r, k, hs, i + 1, o, h => by
    have := StepsJ.get hs.2 (i := i) (by simpa using h)
    rwa [show k + 1 + i = k + (i + 1) from by omega] at this
def apartB : List Oper → Bool
  | [] => true
  | o :: l => (match o.dst with | some t => l.all fun y => decide (y.dst ≠ some t) | none => true) && apartB l
theorem apart_of : ∀ {l : List Oper}, apartB l = true → Apart l
  | [], _ => List.Pairwise.nil
  | o :: l, h => by
    unfold apartB at h
    rw [Bool.and_eq_true] at h
    refine List.pairwise_cons.2 ⟨fun y hy t ht => ?_, apart_of h.2⟩
    have h1 := h.1
    rw [ht] at h1
    simp only [List.all_eq_true, decide_eq_true_eq] at h1
    exact h1 y hy
theorem wp_region_steps {id : Nat} {a : Act} {w : World} (hm : P.follows .mixedOrders = true) (he : (early 0 l && apartB l) = true) (J : Dn → Vs → World → Prop)
    (h0 : J (fun _ => false) (fun _ => undef) w.drew) (hs : StepsJ P l Q a J 0 l)
    (hend : ∀ (d : Dn) (vs : Vs) (w' : World), (∀ i, i < l.length → d i = true) → J d vs w' → Q .normal (allA vs 0 l a) w') : (Code.region id l.toArray true).wp P Q a w := by
  rw [Bool.and_eq_true] at he
  have hp := apart_of he.2
  refine wp_region_inv hm he.1 (fun d b w' => ∃ vs, b = laidA d vs 0 l a ∧ J d vs w') ⟨fun _ => undef, (laid_none _ _ _ hp).symm, h0⟩ ?_ ?_
  · have steps : ∀ (k : Nat) (r : List Oper), (∀ i o, r[i]? = some o → l[k + i]? = some o) → InvSteps P l.toArray Q (fun d b w' => ∃ vs, b = laidA d vs 0 l a ∧ J d vs w') k r := by
      intro k r
      induction r generalizing k with
      | nil => intro _; trivial
      | cons o r ih =>
        intro hr
        refine ⟨?_, ih (k + 1) fun i o' h => by rw [show k + 1 + i = k + (i + 1) from by omega]; exact hr (i + 1) o' (by simpa using h)⟩
        have ho : l[k]? = some o := by simpa using hr 0 o (by simp)
        rintro d b w' ⟨vs, rfl, hJ⟩ hdk hpre
        have hst := hs.get (i := k) ho
        rw [Nat.zero_add] at hst
        have next : ∀ v b' w'', b' = (laidA d vs 0 l a).put o.dst v → J (d.set k) (vs.upd k v) w'' → ∃ vs', b' = laidA (d.set k) vs' 0 l a ∧ J (d.set k) vs' w'' := by
          rintro v b' w'' rfl hj
          exact ⟨_, laid_put vs a l hp ho v, hj⟩
        have hh : Holds l a d vs (laidA d vs 0 l a) := by
          refine ⟨fun j t ht hs hdj => ?_, fun t ht => laid_other _ _ _ _ _ _ fun o ho => ?_, fun j t ht hdj => ?_⟩
          · cases hj : l[j]? with
            | none => rw [hj] at ht; simp at ht
            | some o' =>
              rw [hj] at ht
              rw [laid_at _ _ l 0 a t j o' hp hj (by simpa using ht), Nat.zero_add, Array.getElem?_eq_getElem hs, Option.map_some, pickV_t hdj]
          · simp only [List.all_eq_true, decide_eq_true_eq] at ht; exact ht o ho
          · cases hj : l[j]? with
            | none => rw [hj] at ht; simp at ht
            | some o' =>
              rw [hj] at ht
              rw [laid_at _ _ l 0 a t j o' hp hj (by simpa using ht), Nat.zero_add]
              have : (fun old => pickV d j (vs j) old) = _root_.id := by funext old; exact pickV_f hdj
              rw [this, Option.map_id]; rfl
        have h := hst d vs w' hJ hdk hpre _ hh _ next
        unfold wpOp
        simp only [show l.toArray[k]? = some o from by simpa using ho]
        split
        · rename_i hw; rw [if_pos hw] at h; exact .inl h
        · rename_i hw; rw [if_neg hw] at h; exact h
    exact steps 0 l fun i o h => by rwa [Nat.zero_add]
  · rintro d b w' ⟨vs, rfl, hJ⟩ hall
    rw [laid_all vs a l hp hall]
    exact hend d vs w' hall hJ
end
end Go.Proofs.YtgmabjlehjpboaaDoor.K
