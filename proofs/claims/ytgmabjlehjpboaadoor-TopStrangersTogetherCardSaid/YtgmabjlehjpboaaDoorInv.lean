/- Proved: a region that draws its order, walked once for each of its operations under an invariant over what has been done, for whatever program. Conditions: those that each theorem names. -/
import Derived.Test.YtgmabjlehjpboaaDoorKit
import Derived.Orders
namespace Go.Proofs.YtgmabjlehjpboaaDoor.K
open Go.RowKit Go.Sort
set_option linter.unusedVariables false

section
variable {P : Program} {ops : Array Oper} {Q : Exit → Act → World → Prop}

/-- What has been done: operation j is listed. -/
abbrev Dn := Nat → Bool
def Dn.set (d : Dn) (i : Nat) : Dn := fun j => decide (j = i) || d j
theorem Dn.set_same (d : Dn) (i : Nat) : d.set i i = true := by simp [Dn.set]
theorem Dn.set_ne (d : Dn) {i j : Nat} (h : j ≠ i) : d.set i j = d j := by simp [Dn.set, h]

/-- One operation under the invariant. -/
def InvStep (P : Program) (ops : Array Oper) (Q : Exit → Act → World → Prop) (I : Dn → Act → World → Prop) (i : Nat) (o : Oper) : Prop :=
  ∀ (d : Dn) (a : Act) (w : World), I d a w → d i = false → (∀ e ∈ o.after.toList, Region.binds .any e = true → d e.on = true) → wpOp P ops Q i (I (d.set i)) a w

theorem wpOp_want {I : Act → World → Prop} {i : Nat} {o : Oper} {a : Act} {w : World} (ho : ops[i]? = some o) (hw : Region.wanted o (yielded ops a.tmps) = true)
    (h : ∀ K : Act → World → Prop, (∀ a' w', I a' w' → K a' w') → o.wp P a w K Q) : wpOp P ops Q i I a w := by
  unfold wpOp; simp only [ho, hw, if_true]; exact .inl (h _ fun _ _ h => h)
theorem wpOp_skip {I : Act → World → Prop} {i : Nat} {o : Oper} {a : Act} {w : World} (ho : ops[i]? = some o) (hw : Region.wanted o (yielded ops a.tmps) = false)
    (h : I (a.put o.dst undef) w) : wpOp P ops Q i I a w := by
  unfold wpOp; simp only [ho, hw]; exact h

def InvSteps (P : Program) (ops : Array Oper) (Q : Exit → Act → World → Prop) (I : Dn → Act → World → Prop) : Nat → List Oper → Prop
  | _, [] => True
  | k, o :: l => InvStep P ops Q I k o ∧ InvSteps P ops Q I (k + 1) l

theorem InvSteps.get {I : Dn → Act → World → Prop} : ∀ {l : List Oper} {k : Nat}, InvSteps P ops Q I k l → ∀ {i : Nat} {o : Oper}, l[i]? = some o → InvStep P ops Q I (k + i) o
  | [], _, _, i, o, h => by simp at h
  | x :: l, k, hs, 0, o, h => by simp at h; subst h; exact hs.1
  | x :: l, k, hs, i + 1, o, h => by
    have := InvSteps.get hs.2 (i := i) (by simpa using h)
    rwa [show k + 1 + i = k + (i + 1) from by omega] at this

def early : Nat → List Oper → Bool
  | _, [] => true
  | k, o :: l => o.after.toList.all (fun e => !Region.binds .any e || decide (e.on < k)) && early (k + 1) l
theorem early_get : ∀ {l : List Oper} {k : Nat}, early k l = true → ∀ {i : Nat} {o : Oper}, l[i]? = some o → ∀ e ∈ o.after.toList, Region.binds .any e = true → e.on < k + i
  | [], _, _, i, o, h, _, _, _ => by simp at h
  | x :: l, k, hs, 0, o, h, e, he, hb => by
    simp at h; subst h
    simp only [early, Bool.and_eq_true, List.all_eq_true] at hs
    simpa [hb] using hs.1 e he
  | x :: l, k, hs, i + 1, o, h, e, he, hb => by
    simp only [early, Bool.and_eq_true] at hs
    have := early_get hs.2 (i := i) (by simpa using h) e he hb
    omega

theorem wp_region_inv {id : Nat} {a : Act} {w : World} {l : List Oper} (hm : P.follows .mixedOrders = true) (he : early 0 l = true) (I : Dn → Act → World → Prop)
    (h0 : I (fun _ => false) a { w with drawn := w.drawn + 1 }) (hs : InvSteps P l.toArray Q I 0 l)
    (hend : ∀ (d : Dn) a w, I d a w → (∀ i, i < l.length → d i = true) → Q .normal a w) : (Code.region id l.toArray true).wp P Q a w := by
  refine wp_region_any hm ?_
  have key : ∀ (fuel : Nat) (listed : Array Bool) (d : Dn) (a : Act) (w : World), listed.size = l.length → (∀ i, i < l.length → d i = listed.getD i false) → I d a w →
      listed.toList.count false ≤ fuel → wpAny P .any l.toArray Q fuel listed a w := by
    intro fuel
    have hall : ∀ (listed : Array Bool), listed.size = l.length → Region.ready .any l.toArray listed = [] → ∀ i, i < l.length → listed.getD i false = true := by
      intro listed hsz hr i
      induction i using Nat.strongRecOn with
      | _ i ih =>
        intro hi
        by_cases hl : listed.getD i false = true
        · exact hl
        · exfalso
          have hmem : i ∈ Region.ready .any l.toArray listed := by
            rw [mem_ready]
            refine ⟨?_, l[i], by simp [hi], fun e he' hb => ?_⟩
            · have h1 : i < listed.size := by omega
              simp [h1] at hl ⊢; exact hl
            · have := early_get he (i := i) (o := l[i]) (by simp [hi]) e (by simpa using he') hb
              exact ih e.on (by omega) (by omega)
          rw [hr] at hmem; cases hmem
    induction fuel with
    | zero =>
      intro listed d a w hsz hd hI hc
      have hnil : Region.ready .any l.toArray listed = [] := by
        cases hr : Region.ready .any l.toArray listed with
        | nil => rfl
        | cons x xs =>
          exfalso
          have hx : x ∈ Region.ready .any l.toArray listed := by rw [hr]; simp
          obtain ⟨h1, o, ho, _⟩ := mem_ready.1 hx
          have hlt : x < listed.size := by
            have := (Array.getElem?_eq_some_iff.1 ho).1; simp at this; omega
          have h2 : listed[x] = false := by simpa [hlt] using h1
          have : false ∈ listed.toList := by rw [← h2]; simp
          have := List.count_pos_iff.2 this
          omega
      exact ⟨hnil, hend d a w hI fun i hi => by rw [hd i hi]; exact hall listed hsz hnil i hi⟩
    | succ fuel ih =>
      intro listed d a w hsz hd hI hc
      refine ⟨fun hnil => hend d a w hI fun i hi => by rw [hd i hi]; exact hall listed hsz hnil i hi, fun i hi => ?_⟩
      obtain ⟨h1, o, ho, haft⟩ := mem_ready.1 hi
      have hlt : i < l.length := by have := (Array.getElem?_eq_some_iff.1 ho).1; simpa using this
      have hlt' : i < listed.size := by omega
      have hfalse : listed[i] = false := by simpa [hlt'] using h1
      have hstep := hs.get (i := i) (o := o) (by simpa using ho)
      rw [Nat.zero_add] at hstep
      have hst := hstep d a w hI (by rw [hd i hlt]; simp [hlt', hfalse]) (fun e he' hb => by
        have h3 := haft e (by simpa using he') hb
        have h4 := early_get he (i := i) (o := o) (by simpa using ho) e he' hb
        rw [hd e.on (by omega)]; exact h3)
      have next : ∀ a' w', I (d.set i) a' w' → wpAny P .any l.toArray Q fuel (listed.setIfInBounds i true) a' w' := by
        intro a' w' hI'
        refine ih _ (d.set i) a' w' (by simp [hsz]) (fun j hj => ?_) hI' ?_
        · by_cases hji : j = i
          · subst hji; rw [Dn.set_same]; simp [hlt']
          · rw [Dn.set_ne d hji, hd j hj]; simp [Array.getElem?_setIfInBounds_ne (Ne.symm hji)]
        · have hc2 : (listed.setIfInBounds i true).toList.count false + 1 = listed.toList.count false := by
            rw [Array.toList_setIfInBounds, List.count_set (by simpa using hlt')]
            have : listed.toList[i]'(by simpa using hlt') = false := by simpa using hfalse
            rw [this]
            have hp : 0 < listed.toList.count false := List.count_pos_iff.2 (by rw [← hfalse]; simp)
            simp only [beq_self_eq_true, if_true, Bool.true_beq, Bool.false_eq_true]
            simp only [if_false]
            omega
          omega
      exact wpOp_mono next hst
  have hsz : l.toArray.size = l.length := by simp
  refine key _ _ (fun _ => false) _ _ (by simp) (fun i hi => by simp [hi]) h0 ?_
  simp
end
end Go.Proofs.YtgmabjlehjpboaaDoor.K
