/- Proved: the same as the text that it stands on, of a region that is walked inside a fence that lets everything in, in a round of a range over a function too. Conditions: those that each theorem names. -/
import Derived.Test.YtgmabjlehjpboaaDoorMix
import Derived.OrdersIn
import Derived.TacticsIn
import Derived.RangeFuncCalls
namespace Go.Proofs.YtgmabjlehjpboaaDoor.K
open Go.RowKit Go.Sort
set_option linter.unusedVariables false

section
variable {F : Fence} {m : Nat} {P : Program} {ops : Array Oper} {Q : Exit → Act → World → Prop}

/-- One operation under the invariant. -/
def InvStepI (F : Fence) (m : Nat) (P : Program) (ops : Array Oper) (Q : Exit → Act → World → Prop) (I : Dn → Act → World → Prop) (i : Nat) (o : Oper) : Prop :=
  ∀ (d : Dn) (a : Act) (w : World), I d a w → d i = false → (∀ e ∈ o.after.toList, Region.binds .any e = true → d e.on = true) → wpOpIn F m P ops Q i (I (d.set i)) a w

theorem wpOpI_want {I : Act → World → Prop} {i : Nat} {o : Oper} {a : Act} {w : World} (ho : ops[i]? = some o) (hw : Region.wanted o (yielded ops a.tmps) = true)
    (h : ∀ K : Act → World → Prop, (∀ a' w', I a' w' → K a' w') → o.wpIn F m P a w K Q) : wpOpIn F m P ops Q i I a w := by
  unfold wpOpIn; simp only [ho, hw, if_true]; exact h _ fun _ _ h => h
theorem wpOpI_skip {I : Act → World → Prop} {i : Nat} {o : Oper} {a : Act} {w : World} (ho : ops[i]? = some o) (hw : Region.wanted o (yielded ops a.tmps) = false)
    (hF : ∀ f, F.fn f) (h : I (a.put o.dst undef) w) : wpOpIn F m P ops Q i I a w := by
  unfold wpOpIn; simp only [ho, hw]; exact ⟨fun f _ => hF f, h⟩

def InvStepsI (F : Fence) (m : Nat) (P : Program) (ops : Array Oper) (Q : Exit → Act → World → Prop) (I : Dn → Act → World → Prop) : Nat → List Oper → Prop
  | _, [] => True
  | k, o :: l => InvStepI F m P ops Q I k o ∧ InvStepsI F m P ops Q I (k + 1) l

theorem InvStepsI.get {I : Dn → Act → World → Prop} : ∀ {l : List Oper} {k : Nat}, InvStepsI F m P ops Q I k l → ∀ {i : Nat} {o : Oper}, l[i]? = some o → InvStepI F m P ops Q I (k + i) o
  | [], _, _, i, o, h => by simp at h
  | x :: l, k, hs, 0, o, h => by simp at h; subst h; exact hs.1
  | x :: l, k, hs, i + 1, o, h => by
    have := InvStepsI.get hs.2 (i := i) (by simpa using h)
    rwa [show k + 1 + i = k + (i + 1) from by omega] at this

theorem wpIn_region_inv {id : Nat} {a : Act} {w : World} {l : List Oper} (hm : P.follows .mixedOrders = true) (he : early 0 l = true) (I : Dn → Act → World → Prop)
    (h0 : I (fun _ => false) a { w with drawn := w.drawn + 1 }) (hs : InvStepsI F m P l.toArray Q I 0 l)
    (hend : ∀ (d : Dn) a w, I d a w → (∀ i, i < l.length → d i = true) → Q .normal a w) : (Code.region id l.toArray true).wpIn F m P Q a w := by
  refine wpIn_region_any hm ?_
  have key : ∀ (fuel : Nat) (listed : Array Bool) (d : Dn) (a : Act) (w : World), listed.size = l.length → (∀ i, i < l.length → d i = listed.getD i false) → I d a w →
      listed.toList.count false ≤ fuel → wpAnyIn F m P .any l.toArray Q fuel listed a w := by
    intro fuel
    have hall : ∀ (listed : Array Bool), listed.size = l.length → Region.ready .any l.toArray listed = [] → ∀ i, i < l.length → listed.getD i false = true := by
      intro listed hsz hr i
      induction i using Nat.strongRecOn with
      | _ i ih =>
        intro hi
        by_cases hl : listed.getD i false = true
        · exact hl
        · exfalso
          have hmem : i ∈ Region.ready .any l.toArray listed := by
            rw [mem_ready]
            refine ⟨?_, l[i], by simp [hi], fun e he' hb => ?_⟩
            · have h1 : i < listed.size := by omega
              simp [h1] at hl ⊢; exact hl
            · have := early_get he (i := i) (o := l[i]) (by simp [hi]) e (by simpa using he') hb
              exact ih e.on (by omega) (by omega)
          rw [hr] at hmem; cases hmem
    induction fuel with
    | zero =>
      intro listed d a w hsz hd hI hc
      have hnil : Region.ready .any l.toArray listed = [] := by
        cases hr : Region.ready .any l.toArray listed with
        | nil => rfl
        | cons x xs =>
          exfalso
          have hx : x ∈ Region.ready .any l.toArray listed := by rw [hr]; simp
          obtain ⟨h1, o, ho, _⟩ := mem_ready.1 hx
          have hlt : x < listed.size := by
            have := (Array.getElem?_eq_some_iff.1 ho).1; simp at this; omega
          have h2 : listed[x] = false := by simpa [hlt] using h1
          have : false ∈ listed.toList := by rw [← h2]; simp
          have := List.count_pos_iff.2 this
          omega
      exact ⟨hnil, hend d a w hI fun i hi => by rw [hd i hi]; exact hall listed hsz hnil i hi⟩
    | succ fuel ih =>
      intro listed d a w hsz hd hI hc
      refine ⟨fun hnil => hend d a w hI fun i hi => by rw [hd i hi]; exact hall listed hsz hnil i hi, fun i hi => ?_⟩
      obtain ⟨h1, o, ho, haft⟩ := mem_ready.1 hi
      have hlt : i < l.length := by have := (Array.getElem?_eq_some_iff.1 ho).1; simpa using this
      have hlt' : i < listed.size := by omega
      have hfalse : listed[i] = false := by simpa [hlt'] using h1
      have hstep := hs.get (i := i) (o := o) (by simpa using ho)
      rw [Nat.zero_add] at hstep
      have hst := hstep d a w hI (by rw [hd i hlt]; simp [hlt', hfalse]) (fun e he' hb => by
        have h3 := haft e (by simpa using he') hb
        have h4 := early_get he (i := i) (o := o) (by simpa using ho) e he' hb
        rw [hd e.on (by omega)]; exact h3)
      have next : ∀ a' w', I (d.set i) a' w' → wpAnyIn F m P .any l.toArray Q fuel (listed.setIfInBounds i true) a' w' := by
        intro a' w' hI'
        refine ih _ (d.set i) a' w' (by simp [hsz]) (fun j hj => ?_) hI' ?_
        · by_cases hji : j = i
          · subst hji; rw [Dn.set_same]; simp [hlt']
          · rw [Dn.set_ne d hji, hd j hj]; simp [Array.getElem?_setIfInBounds_ne (Ne.symm hji)]
        · have hc2 : (listed.setIfInBounds i true).toList.count false + 1 = listed.toList.count false := by
            rw [Array.toList_setIfInBounds, List.count_set (by simpa using hlt')]
            have : listed.toList[i]'(by simpa using hlt') = false := by simpa using hfalse
            rw [this]
            have hp : 0 < listed.toList.count false := List.count_pos_iff.2 (by rw [← hfalse]; simp)
            simp only [beq_self_eq_true, if_true, Bool.true_beq, Bool.false_eq_true]
            simp only [if_false]
            omega
          omega
      exact wpOpIn_mono next hst
  have hsz : l.toArray.size = l.length := by simp
  refine key _ _ (fun _ => false) _ _ (by simp) (fun i hi => by simp [hi]) h0 ?_
  simp
end

/-! ### the region -/
section
variable {P : Program} {l : List Oper} {Q : Exit → Act → World → Prop}
def noDeferB (l : List Oper) : Bool := l.all fun o => match o.op with | .defer _ => false | _ => true
theorem noDefer_at {i : Nat} {o : Oper} (h : noDeferB l = true) (ho : l[i]? = some o) : ∀ c, o.op ≠ .defer c := fun c hc => by
  have := List.all_eq_true.1 h o (List.mem_of_getElem? ho)
  simp [hc] at this
theorem sem_plain {r : Option Nat} {ρ : Operand → Value} {o : Oper} (h : ∀ c, o.op ≠ .defer c) : o.semAt r ρ = execOp ρ o := by
  cases r with
  | none => exact Oper.semAt_none ..
  | some l => exact Oper.semAt_some l ρ o h

theorem wpIn_region_mixed {F : Fence} {m : Nat} {id : Nat} {a : Act} {W : World} (qs al ts : List Nat) (hm : P.follows .mixedOrders = true) (hB : mixedB l qs al ts = true) (hF : ∀ f, F.fn f) (hdep : F.depth = none) (hC : ∀ {f : FuncId} {args : Array Value} {w : World} {R : Ending → World → Prop} (k : Nat), Calls P f args w R → CallsIn F k P f args w R) (hnd : noDeferB l = true) (A : Act)
    (hq : ∀ Z, Closed Z → Nonempty (RegX W Z) → wpQuiet P l.toArray (fun w' => ∃ p : RegX W Z, w' = grow (redrawn W p.d) p.os) (fun b => b = A) (qs.filterMap (l[·]?)) a)
    (obj : Nat → Obj) (mk : Nat → Nat → Value)
    (hal : ∀ i ∈ al, ∀ o, l[i]? = some o → ∀ w, Below W.heap.size W w → (execOp A.eval o).run P w = .ok (.value (mk i w.heap.size)) (w.alloc (obj i)))
    (ht : ∀ (π : Nat → Nat) w, Below W.heap.size W w → (∀ i ∈ al, w.heap[π i]? = some (obj i) ∧ W.heap.size ≤ π i) → (∀ i ∈ al, ∀ j ∈ al, π i = π j → i = j) →
      wpListIn F m P l.toArray Q (ts.filterMap (l[·]?)) (putsA l mk π al A) w) : (Code.region id l.toArray true).wpIn F m P Q a W := by
  simp only [mixedB, Bool.and_eq_true] at hB
  obtain ⟨⟨⟨⟨⟨⟨⟨⟨⟨hearly, hsel⟩, hcount⟩, hlt⟩, hdist⟩, hsort⟩, hag⟩, hlook⟩, htail⟩, hchain⟩ := hB
  have hsort := sortedB_spec hsort
  have mem_all : ∀ i, i < l.length → i ∈ qs ∨ i ∈ al ∨ i ∈ ts := fun i hi => by
    have := List.all_eq_true.1 hcount i (List.mem_range.2 hi)
    simp only [beq_iff_eq] at this
    have h2 : i ∈ qs ++ al ++ ts := List.count_pos_iff.1 (by omega)
    simpa [or_assoc] using h2
  have once : ∀ i, (qs ++ al ++ ts).count i ≤ 1 := fun i => by
    by_cases hi : i < l.length
    · have := List.all_eq_true.1 hcount i (List.mem_range.2 hi)
      simp only [beq_iff_eq] at this; omega
    · have : i ∉ qs ++ al ++ ts := fun hm => hi (by simpa using List.all_eq_true.1 hlt i hm)
      rw [List.count_eq_zero.2 this]; omega
  have qa : ∀ i, i ∈ qs → i ∉ al := fun i h1 h2 => by
    have := once i; rw [List.count_append, List.count_append] at this
    have := List.count_pos_iff.2 h1; have := List.count_pos_iff.2 h2; omega
  have qt : ∀ i, i ∈ qs → i ∉ ts := fun i h1 h2 => by
    have := once i; rw [List.count_append, List.count_append] at this
    have := List.count_pos_iff.2 h1; have := List.count_pos_iff.2 h2; omega
  have at_ : ∀ i, i ∈ al → i ∉ ts := fun i h1 h2 => by
    have := once i; rw [List.count_append, List.count_append] at this
    have := List.count_pos_iff.2 h1; have := List.count_pos_iff.2 h2; omega
  have tnd : ts.Nodup := List.nodup_iff_count.2 fun i => by
    have := once i; rw [List.count_append, List.count_append] at this; omega
  have ind : ∀ i, i ∈ qs ++ al ++ ts → i < l.length := fun i hm => by simpa using List.all_eq_true.1 hlt i hm
  have dist : ∀ (i j : Nat) (x y : Oper) (t : Nat), l[i]? = some x → l[j]? = some y → x.dst = some t → y.dst = some t → i = j := fun i j x y t hi hj hx hy => by
    have h1 : i < l.length := (List.getElem?_eq_some_iff.1 hi).1
    have h2 : j < l.length := (List.getElem?_eq_some_iff.1 hj).1
    have := List.all_eq_true.1 (List.all_eq_true.1 hdist i (List.mem_range.2 h1)) j (List.mem_range.2 h2)
    rcases Bool.or_eq_true _ _ ▸ this with h | h
    · simpa using h
    · simp only [hi, hj, Option.bind_some, hx, hy] at h; simp at h
  have earl : ∀ (i : Nat) (o : Oper), l[i]? = some o → ∀ e ∈ o.after.toList, Region.binds .any e = true → e.on < i := fun i o ho e he hb => by simpa using early_get hearly ho e he hb
  have look : ∀ (j : Nat) (o : Oper), j ∈ qs ++ al → l[j]? = some o → ∀ t ∈ o.looksAt l.toArray, ∀ (i : Nat) (x : Oper), l[i]? = some x → x.dst = some t →
      (i ∈ qs ∧ depOn o i = true) ∨ (depOn x j = true ∧ ¬ (j ∈ al ∧ i ∈ qs)) := fun j o hj ho t htl i x hx hxt => by
    have h := List.all_eq_true.1 hlook j hj
    simp only [looksB, ho] at h
    have h2 := List.all_eq_true.1 (List.all_eq_true.1 h t htl) i (List.mem_range.2 (List.getElem?_eq_some_iff.1 hx).1)
    simp only [hx, hxt, bne_self_eq_false, Bool.false_or, Bool.or_eq_true, Bool.and_eq_true, Bool.not_eq_true', Bool.and_eq_false_iff] at h2
    rcases h2 with h2 | h2
    · exact .inl ⟨by simpa using h2.1, h2.2⟩
    · refine .inr ⟨h2.1, fun hh => ?_⟩
      simp at h2
      exact h2.2.elim (fun h => h hh.1) (fun h => h hh.2)
  have qpw : (qs.filterMap (l[·]?)).Pairwise (fun x y => ∀ t, x.dst = some t → y.dst ≠ some t) := by
    rw [List.pairwise_filterMap]
    exact hsort.imp fun {i j} hij x hx y hy t hxt hyt => by
      have := dist i j x y t hx hy hxt hyt; omega
  -- what A holds
  obtain ⟨⟨hAd, hAo⟩, _⟩ := quiet_spec _ _ (hq (fun _ => True) (fun _ _ _ _ => trivial) ⟨⟨0, #[], trivial⟩⟩) qpw
  have hAo' : ∀ t : Nat, (∀ i ∈ qs, ∀ o, l[i]? = some o → o.dst ≠ some t) → A.tmps[t]? = a.tmps[t]? := fun t h => hAo t fun o ho => by
    obtain ⟨i, hi, hio⟩ := List.mem_filterMap.1 ho
    exact h i hi o hio
  let Head : Dn → Act → World → Prop := fun d b w =>
    (∀ t ∈ ts, d t = false) ∧ b.defers = a.defers ∧ (∀ t : Nat, (∀ i o, l[i]? = some o → d i = true → o.dst ≠ some t) → b.tmps[t]? = a.tmps[t]?) ∧
    (∀ i ∈ qs, ∀ o, l[i]? = some o → d i = true → ∀ t, o.dst = some t → b.tmps[t]? = A.tmps[t]?) ∧ Below W.heap.size W w ∧
    ∃ π : Nat → Nat, (∀ i ∈ al, ∀ o, l[i]? = some o → d i = true → ∀ t, o.dst = some t → b.tmps[t]? = a.tmps[t]?.map fun _ => mk i (π i)) ∧
      (∀ i ∈ al, d i = true → w.heap[π i]? = some (obj i) ∧ W.heap.size ≤ π i) ∧ (∀ i ∈ al, ∀ j ∈ al, d i = true → d j = true → π i = π j → i = j)
  let Tail : Dn → Act → World → Prop := fun d b w => (∀ i, i ∈ qs ++ al → d i = true) ∧ ∃ pre post, ts = pre ++ post ∧ (∀ t ∈ pre, d t = true) ∧ (∀ t ∈ post, d t = false) ∧ wpListIn F m P l.toArray Q (post.filterMap (l[·]?)) b w
  -- the head is done
  have headDone : ∀ d b w, Head d b w → (∀ i, i ∈ qs ++ al → d i = true) → wpListIn F m P l.toArray Q (ts.filterMap (l[·]?)) b w := by
    rintro d b w ⟨h0, h1, h2, h3, h4, π, h5, h6, h7⟩ hall
    have : b = putsA l mk π al A := by
      refine act_ext (by rw [h1, putsA_defers, hAd]) fun t => ?_
      by_cases hta : ∃ i ∈ al, ∃ o, l[i]? = some o ∧ o.dst = some t
      · obtain ⟨i, hi, o, ho, hot⟩ := hta
        rw [h5 i hi o ho (hall i (List.mem_append_right _ hi)) t hot, putsA_at al A hi (by simp [ho, hot]) (fun j hj hjt => by
          cases hjo : l[j]? with
          | none => simp [hjo] at hjt
          | some oj => simp only [hjo, Option.bind_some] at hjt; exact dist j i oj o t hjo ho hjt hot)]
        rw [hAo' t fun k hk ok hok hokt => qa k hk (by rw [dist k i ok o t hok ho hokt hot]; exact hi)]
      · rw [putsA_other al A (fun i hi hit => hta (by
          cases hio : l[i]? with
          | none => simp [hio] at hit
          | some o => exact ⟨i, hi, o, hio, by simpa [hio] using hit⟩))]
        by_cases htq : ∃ i ∈ qs, ∃ o, l[i]? = some o ∧ o.dst = some t
        · obtain ⟨i, hi, o, ho, hot⟩ := htq
          exact h3 i hi o ho (hall i (List.mem_append_left _ hi)) t hot
        · rw [hAo' t fun k hk ok hok hokt => htq ⟨k, hk, ok, hok, hokt⟩]
          refine h2 t fun i o ho hd hot => ?_
          rcases mem_all i (List.getElem?_eq_some_iff.1 ho).1 with h | h | h
          · exact htq ⟨i, h, o, ho, hot⟩
          · exact hta ⟨i, h, o, ho, hot⟩
          · rw [h0 i h] at hd; cases hd
    rw [this]
    exact ht π w h4 (fun i hi => h6 i hi (hall i (List.mem_append_right _ hi))) (fun i hi j hj => h7 i hi j hj (hall i (List.mem_append_right _ hi)) (hall j (List.mem_append_right _ hj)))
  have closedSet : ∀ (d : Dn) (j : Nat) (o : Oper), ClosedD l d → l[j]? = some o → (∀ e ∈ o.after.toList, Region.binds .any e = true → d e.on = true) → ClosedD l (d.set j) := fun d j o hc ho hp i x hx hd e he hb => by
    by_cases hij : i = j
    · subst hij
      have : x = o := Option.some.inj (hx.symm.trans ho)
      subst this
      by_cases h : e.on = i
      · rw [h]; exact Dn.set_same _ _
      · rw [Dn.set_ne d h]; exact hp e he hb
    · rw [Dn.set_ne d hij] at hd
      by_cases h : e.on = j
      · rw [h]; exact Dn.set_same _ _
      · rw [Dn.set_ne d h]; exact hc i x hx hd e he hb
  -- one step of the tail
  have tailStep : ∀ (d : Dn) (b : Act) (w : World) (j : Nat) (o : Oper) (pre post : List Nat), l[j]? = some o → ts = pre ++ j :: post → (∀ i, i ∈ qs ++ al → d i = true) → (∀ t ∈ pre, d t = true) → (∀ t ∈ post, d t = false) →
      wpListIn F m P l.toArray Q ((j :: post).filterMap (l[·]?)) b w → wpOpIn F m P l.toArray Q j (Tail (d.set j)) b w := by
    intro d b w j o pre post ho hts hall hpre hpost h
    have hnd := hts ▸ tnd
    rw [List.filterMap_cons_some ho] at h
    have next : ∀ b' w', wpListIn F m P l.toArray Q (post.filterMap (l[·]?)) b' w' → Tail (d.set j) b' w' := fun b' w' h' => by
      refine ⟨fun i hi => ?_, pre ++ [j], post, by rw [hts]; simp, fun t htm => ?_, fun t htm => ?_, h'⟩
      · by_cases hij : i = j
        · rw [hij]; exact Dn.set_same _ _
        · rw [Dn.set_ne d hij]; exact hall i hi
      · rcases List.mem_append.1 htm with h1 | h1
        · by_cases hij : t = j
          · rw [hij]; exact Dn.set_same _ _
          · rw [Dn.set_ne d hij]; exact hpre t h1
        · simp at h1; rw [h1]; exact Dn.set_same _ _
      · have : t ≠ j := fun e => by
          subst e
          have := (List.nodup_append.1 hnd).2.1
          exact (List.nodup_cons.1 this).1 htm
        rw [Dn.set_ne d this]; exact hpost t htm
    have ho' : l.toArray[j]? = some o := by simpa using ho
    unfold wpOpIn
    simp only [ho']
    unfold wpListIn at h
    split
    · rename_i hw
      rw [if_pos hw] at h
      exact Oper.wpIn_mono next h
    · rename_i hw
      rw [if_neg hw] at h
      exact ⟨h.1, next _ _ h.2⟩
  refine wpIn_region_inv hm hearly (fun d b w => ClosedD l d ∧ (Head d b w ∨ Tail d b w)) ?_ ?_ ?_
  · refine ⟨fun i o ho hd => (by cases hd), .inl ⟨fun _ _ => rfl, rfl, fun _ _ => rfl, fun _ _ _ _ hd => (by cases hd), (Below.refl _ W).drew, fun _ => 0, fun _ _ _ _ hd => (by cases hd), fun _ _ hd => (by cases hd), fun _ _ _ _ hd => (by cases hd)⟩⟩
  · have steps : ∀ (k : Nat) (r : List Oper), (∀ i o, r[i]? = some o → l[k + i]? = some o) → InvStepsI F m P l.toArray Q (fun d b w => ClosedD l d ∧ (Head d b w ∨ Tail d b w)) k r := by
      intro k r
      induction r generalizing k with
      | nil => intro _; trivial
      | cons o r ih =>
        intro hr
        refine ⟨?_, ih (k + 1) fun i x hx => by have := hr (i + 1) x (by simpa using hx); rwa [show k + (i + 1) = k + 1 + i from by omega] at this⟩
        have ho : l[k]? = some o := by simpa using hr 0 o rfl
        have hkl : k < l.length := (List.getElem?_eq_some_iff.1 ho).1
        have ho' : l.toArray[k]? = some o := by simpa using ho
        clear ih hr
        rintro d b w ⟨hc, hI⟩ hdk hp
        have hcs := closedSet d k o hc ho hp
        have pred : ∀ i, depOn o i = true → d i = true := fun i h => by
          obtain ⟨e, he, hb, rfl⟩ := depOn_iff.1 h; exact hp e he hb
        have succ : ∀ (i : Nat) (x : Oper), l[i]? = some x → depOn x k = true → d i = false := fun i x hx h => by
          cases hd : d i with
          | false => rfl
          | true =>
            obtain ⟨e, he, hb, hon⟩ := depOn_iff.1 h
            have := hc i x hx hd e he hb
            rw [hon, hdk] at this; cases this
        rcases hI with hH | hT
        · have hH' := hH
          obtain ⟨h0, h1, h2, h3, h4, π, h5, h6, h7⟩ := hH
          rcases mem_all k hkl with hk | hk | hk
          · -- a quiet one
            obtain ⟨pre, post, hqs⟩ := List.append_of_mem hk
            have hZ : Closed (fun w' => Below w.heap.size w w') := fun u v hu hv => hu.trans (hv.mono hu.size)
            obtain ⟨_, hsp⟩ := quiet_spec _ _ (hq _ hZ ((clsX_of h4 (Below.refl _ _) : ClsX W (fun w' => Below w.heap.size w w') w).elim fun p _ => ⟨p⟩)) qpw
            obtain ⟨c, v, hc1, hc2, hy, hv⟩ := hsp (pre.filterMap (l[·]?)) o (post.filterMap (l[·]?)) (by rw [hqs, List.filterMap_append, List.filterMap_cons_some ho])
            have hpre : ∀ i ∈ pre, i < k := fun i hi => by
              rw [hqs] at hsort
              exact (List.pairwise_append.1 hsort).2.2 i hi k List.mem_cons_self
            have hprq : ∀ i ∈ qs, i < k → i ∈ pre := fun i hi hik => by
              rw [hqs] at hi hsort
              rcases List.mem_append.1 hi with h | h
              · exact h
              · rcases List.mem_cons.1 h with h | h
                · omega
                · have := (List.pairwise_cons.1 (List.pairwise_append.1 hsort).2.1).1 i h; omega
            have agree : ∀ t ∈ o.looksAt l.toArray, b.tmps[t]? = c.tmps[t]? := fun t htl => by
              by_cases hex : ∃ (i : Nat) (x : Oper), l[i]? = some x ∧ x.dst = some t
              · obtain ⟨i, x, hx, hxt⟩ := hex
                rcases look k o (List.mem_append_left _ hk) ho t htl i x hx hxt with ⟨hiq, hdep⟩ | ⟨hdep, _⟩
                · have hik : i < k := by obtain ⟨e, he, hb, rfl⟩ := depOn_iff.1 hdep; exact earl k o ho e he hb
                  rw [h3 i hiq x hx (pred i hdep) t hxt, hc1 t ⟨x, List.mem_filterMap.2 ⟨i, hprq i hiq hik, hx⟩, hxt⟩]
                · have hdi := succ i x hx hdep
                  have hki : k < i := by obtain ⟨e, he, hb, rfl⟩ := depOn_iff.1 hdep; exact earl i x hx e he hb
                  have e1 : b.tmps[t]? = a.tmps[t]? := h2 t fun i' o' ho'' hd' hot => by
                    have := dist i' i o' x t ho'' hx hot hxt
                    rw [this, hdi] at hd'; cases hd'
                  have e2 : c.tmps[t]? = a.tmps[t]? := hc2 t fun y hy' hyt => by
                    obtain ⟨i', hi', hio⟩ := List.mem_filterMap.1 hy'
                    have := dist i' i y x t hio hx hyt hxt
                    have := hpre i' hi'; omega
                  rw [e1, e2]
              · rw [h2 t fun i x hx _ hxt => hex ⟨i, x, hx, hxt⟩, hc2 t fun y hy' hyt => by
                  obtain ⟨i', _, hio⟩ := List.mem_filterMap.1 hy'
                  exact hex ⟨i', y, hio, hyt⟩]
            have hns := Region.noSelect_spec hsel
            have hy' : YieldsIn P l.toArray (ClsX W fun w' => Below w.heap.size w w') o v b :=
              hy.of_same (exec_congr (fun cs bb => hns k o cs bb ho') agree) (wanted_congr agree)
            have next : ∀ w', Below w.heap.size w w' → ClosedD l (d.set k) ∧ (Head (d.set k) (b.put o.dst v) w' ∨ Tail (d.set k) (b.put o.dst v) w') := fun w' hw' => by
              have bdst : ∀ t, o.dst = some t → b.tmps[t]? = a.tmps[t]? := fun t hot => h2 t fun i x hx hd hxt => by
                have := dist i k x o t hx ho hxt hot
                rw [this, hdk] at hd; cases hd
              refine ⟨hcs, .inl ⟨fun t htm => ?_, put_defers'.trans h1, fun t hh => ?_, fun i hi x hx hd t hxt => ?_, h4.trans (hw'.mono h4.size), π, fun i hi x hx hd t hxt => ?_, fun i hi hd => ?_, fun i hi j hj hdi hdj => ?_⟩⟩
              · rw [Dn.set_ne d (fun e => qt k hk (by rw [← e]; exact htm))]; exact h0 t htm
              · rw [put_get, if_neg (hh k o ho (Dn.set_same _ _))]
                refine h2 t fun i x hx hd => hh i x hx ?_
                by_cases hik : i = k
                · rw [hik]; exact Dn.set_same _ _
                · rw [Dn.set_ne d hik]; exact hd
              · by_cases hik : i = k
                · subst hik
                  have : x = o := Option.some.inj (hx.symm.trans ho)
                  subst this
                  rw [put_get, if_pos hxt, bdst t hxt, hv t hxt]
                · rw [Dn.set_ne d hik] at hd
                  rw [put_get, if_neg (fun hot => hik (dist i k x o t hx ho hxt hot))]
                  exact h3 i hi x hx hd t hxt
              · have hik : i ≠ k := fun e => qa k hk (by rw [← e]; exact hi)
                rw [Dn.set_ne d hik] at hd
                rw [put_get, if_neg (fun hot => hik (dist i k x o t hx ho hxt hot))]
                exact h5 i hi x hx hd t hxt
              · have hik : i ≠ k := fun e => qa k hk (by rw [← e]; exact hi)
                rw [Dn.set_ne d hik] at hd
                obtain ⟨g1, g2⟩ := h6 i hi hd
                exact ⟨(hw'.block _ (Array.getElem?_eq_some_iff.1 g1).1).trans g1, g2⟩
              · have hik : i ≠ k := fun e => qa k hk (by rw [← e]; exact hi)
                have hjk : j ≠ k := fun e => qa k hk (by rw [← e]; exact hj)
                rw [Dn.set_ne d hik] at hdi; rw [Dn.set_ne d hjk] at hdj
                exact h7 i hi j hj hdi hdj
            rcases hy' with ⟨hw, hall⟩ | ⟨hw, rfl⟩
            · refine wpOpI_want ho' hw fun K hK => ?_
              have hcl : ClsX W (fun w' => Below w.heap.size w w') w := clsX_of h4 (Below.refl _ _)
              have h := hall w hcl
              unfold Oper.quietAt at h
              unfold Oper.wpIn
              refine ⟨fun f _ => hF f, ?_⟩
              rw [sem_plain (noDefer_at hnd ho)]
              generalize (execOp b.eval o).run P w = r at *
              cases r with
              | ok nx w1 =>
                cases nx <;> simp only [Oper.quietUpon] at h <;> simp only [Oper.uponIn]
                case value u => obtain ⟨e1, e2⟩ := h; rw [e1, e2]; exact hK _ _ (next w (Below.refl _ _))
                case skip => obtain ⟨e1, e2⟩ := h; rw [e1, ← e2]; exact hK _ _ (next w (Below.refl _ _))
                case enter f args =>
                  obtain ⟨e1, hcall⟩ := h
                  rw [e1]
                  refine ⟨fun hh => (by rw [hdep] at hh; cases hh), hC _ ?_⟩
                  exact hcall.mono fun e w'' ⟨he, p, hp⟩ => by subst he; exact hK _ _ (next w'' (by rw [hp]; exact p.ok))
              | halt x w1 => simp only [Oper.quietUpon] at h
            · exact wpOpI_skip ho' hw hF (next w (Below.refl _ _))
          · -- an allocation
            have hns := Region.noSelect_spec hsel
            have agree : ∀ t ∈ o.looksAt l.toArray, b.tmps[t]? = A.tmps[t]? := fun t htl => by
              by_cases hex : ∃ (i : Nat) (x : Oper), l[i]? = some x ∧ x.dst = some t
              · obtain ⟨i, x, hx, hxt⟩ := hex
                rcases look k o (List.mem_append_right _ hk) ho t htl i x hx hxt with ⟨hiq, hdep⟩ | ⟨hdep, hno⟩
                · exact h3 i hiq x hx (pred i hdep) t hxt
                · have hdi := succ i x hx hdep
                  have hiq : i ∉ qs := fun h => hno ⟨hk, h⟩
                  have e1 : b.tmps[t]? = a.tmps[t]? := h2 t fun i' o' ho'' hd' hot => by
                    have := dist i' i o' x t ho'' hx hot hxt
                    rw [this, hdi] at hd'; cases hd'
                  have e2 : A.tmps[t]? = a.tmps[t]? := hAo' t fun i' hi' o' ho'' hot => by
                    have := dist i' i o' x t ho'' hx hot hxt
                    exact hiq (by rw [← this]; exact hi')
                  rw [e1, e2]
              · rw [h2 t fun i x hx _ hxt => hex ⟨i, x, hx, hxt⟩, hAo' t fun i _ x hx hxt => hex ⟨i, x, hx, hxt⟩]
            have hg : o.guard = none := by
              have := List.all_eq_true.1 hag k hk
              simpa [ho] using this
            refine wpOpI_want ho' (by simp [Region.wanted, hg]) fun K hK => ?_
            have hrun := hal k hk o ho w h4
            unfold Oper.wpIn
            refine ⟨fun f _ => hF f, ?_⟩
            rw [sem_plain (noDefer_at hnd ho), exec_congr (fun cs bb => hns k o cs bb ho') agree, hrun, Oper.uponIn_value]
            refine hK _ _ ⟨hcs, .inl ⟨fun t htm => ?_, put_defers'.trans h1, fun t hh => ?_, fun i hi x hx hd t hxt => ?_, h4.alloc h4.size _, fun i => if i = k then w.heap.size else π i, fun i hi x hx hd t hxt => ?_, fun i hi hd => ?_, fun i hi j hj hdi hdj hij => ?_⟩⟩
            · rw [Dn.set_ne d (fun e => at_ k hk (by rw [← e]; exact htm))]; exact h0 t htm
            · rw [put_get, if_neg (hh k o ho (Dn.set_same _ _))]
              refine h2 t fun i x hx hd => hh i x hx ?_
              by_cases hik : i = k
              · rw [hik]; exact Dn.set_same _ _
              · rw [Dn.set_ne d hik]; exact hd
            · have hik : i ≠ k := fun e => qa i hi (by rw [e]; exact hk)
              rw [Dn.set_ne d hik] at hd
              rw [put_get, if_neg (fun hot => hik (dist i k x o t hx ho hxt hot))]
              exact h3 i hi x hx hd t hxt
            · dsimp only
              by_cases hik : i = k
              · subst hik
                have : x = o := Option.some.inj (hx.symm.trans ho)
                subst this
                have e1 : b.tmps[t]? = a.tmps[t]? := h2 t fun i' o' ho'' hd' hot => by
                  have := dist i' i o' x t ho'' ho hot hxt
                  rw [this, hdk] at hd'; cases hd'
                rw [put_get, if_pos hxt, if_pos rfl, e1]
              · rw [Dn.set_ne d hik] at hd
                rw [put_get, if_neg (fun hot => hik (dist i k x o t hx ho hxt hot)), if_neg hik]
                exact h5 i hi x hx hd t hxt
            · dsimp only
              by_cases hik : i = k
              · subst hik
                rw [if_pos rfl]
                exact ⟨alloc_new_heap w _, h4.size⟩
              · rw [Dn.set_ne d hik] at hd
                rw [if_neg hik]
                obtain ⟨g1, g2⟩ := h6 i hi hd
                exact ⟨(Below.heap_alloc w _ _ (Array.getElem?_eq_some_iff.1 g1).1).trans g1, g2⟩
            · by_cases hik : i = k
              · by_cases hjk : j = k
                · rw [hik, hjk]
                · rw [Dn.set_ne d hjk] at hdj
                  simp only [hik, hjk, if_true, if_false] at hij
                  have := (Array.getElem?_eq_some_iff.1 (h6 j hj hdj).1).1
                  omega
              · rw [Dn.set_ne d hik] at hdi
                by_cases hjk : j = k
                · simp only [hik, hjk, if_true, if_false] at hij
                  have := (Array.getElem?_eq_some_iff.1 (h6 i hi hdi).1).1
                  omega
                · rw [Dn.set_ne d hjk] at hdj
                  simp only [hik, hjk, if_false] at hij
                  exact h7 i hi j hj hdi hdj hij
          · -- the first of the tail
            cases ts with
            | nil => cases hk
            | cons t0 tr =>
              have hkt : k = t0 := by
                rcases List.mem_cons.1 hk with h | h
                · exact h
                · exfalso
                  obtain ⟨pre, post, he⟩ := List.append_of_mem h
                  have chainAt : ∀ (r : List Nat) (t : Nat) (pre : List Nat), chainB l (t :: r) = true → t :: r = pre ++ k :: post → pre ≠ [] → ∃ x ∈ t :: r, depOn o x = true := by
                    intro r
                    induction r with
                    | nil => intro t pre _ he hne; cases pre with
                      | nil => exact absurd rfl hne
                      | cons y ys => simp at he
                    | cons u r ih =>
                      intro t pre hch he hne
                      simp only [chainB, Bool.and_eq_true] at hch
                      cases pre with
                      | nil => exact absurd rfl hne
                      | cons y ys =>
                        simp only [List.cons_append, List.cons.injEq] at he
                        by_cases hys : ys = []
                        · subst hys
                          simp only [List.nil_append, List.cons.injEq] at he
                          obtain ⟨_, rfl, _⟩ := he
                          rw [ho] at hch
                          exact ⟨t, List.mem_cons_self, hch.1⟩
                        · obtain ⟨x, hx, hd⟩ := ih u ys hch.2 he.2 hys
                          exact ⟨x, List.mem_cons_of_mem _ hx, hd⟩
                  obtain ⟨x, hx, hd⟩ := chainAt tr t0 (t0 :: pre) hchain (by rw [he]; rfl) (by simp)
                  have := pred x hd
                  rw [h0 x hx] at this; cases this
              subst hkt
              have hall : ∀ i, i ∈ qs ++ al → d i = true := fun i hi => reach_done hc _ k i o ho hp (List.all_eq_true.1 htail i hi)
              refine wpOpIn_mono (fun b' w' h' => ⟨hcs, .inr h'⟩) (tailStep d b w k o [] tr ho rfl hall (fun _ h => by cases h) (fun t htm => h0 t (List.mem_cons_of_mem _ htm)) (headDone d b w hH' hall))
        · -- within the tail
          obtain ⟨hall, pre, post, hts, hpre, hpost, hw⟩ := hT
          have hkt : k ∈ ts := by
            rcases mem_all k hkl with h | h | h
            · have := hall k (List.mem_append_left _ h); rw [hdk] at this; cases this
            · have := hall k (List.mem_append_right _ h); rw [hdk] at this; cases this
            · exact h
          have hkp : k ∈ post := by
            rw [hts] at hkt
            rcases List.mem_append.1 hkt with h | h
            · have := hpre k h; rw [hdk] at this; cases this
            · exact h
          cases post with
          | nil => cases hkp
          | cons u r =>
            have hku : k = u := by
              rcases List.mem_cons.1 hkp with h | h
              · exact h
              · exfalso
                obtain ⟨p1, p2, he⟩ := List.append_of_mem h
                have chainAt : ∀ (r : List Nat) (t : Nat), chainB l (t :: r) = true → k ∈ r → ∃ x ∈ t :: r, depOn o x = true ∧ ((x :: [k]).Sublist (t :: r)) := by
                  intro r
                  induction r with
                  | nil => intro t _ hkr; cases hkr
                  | cons u r ih =>
                    intro t hch hkr
                    simp only [chainB, Bool.and_eq_true] at hch
                    rcases List.mem_cons.1 hkr with h | h
                    · subst h
                      rw [ho] at hch
                      exact ⟨t, List.mem_cons_self, hch.1, by simp⟩
                    · obtain ⟨x, hx, hd, hs⟩ := ih u hch.2 h
                      exact ⟨x, List.mem_cons_of_mem _ hx, hd, hs.cons _⟩
                have chainDrop : ∀ (p q : List Nat), chainB l (p ++ q) = true → chainB l q = true := by
                  intro p
                  induction p with
                  | nil => intro q h; exact h
                  | cons x p ih =>
                    intro q h
                    refine ih q ?_
                    cases hpq : p ++ q with
                    | nil => rfl
                    | cons y ys => rw [List.cons_append, hpq] at h; simp only [chainB, Bool.and_eq_true] at h; exact h.2
                obtain ⟨x, hx, hd, _⟩ := chainAt r u (chainDrop pre _ (hts ▸ hchain)) h
                have := pred x hd
                rw [hpost x hx] at this; cases this
            subst hku
            exact wpOpIn_mono (fun b' w' h' => ⟨hcs, .inr h'⟩) (tailStep d b w k o pre r ho hts hall hpre (fun t htm => hpost t (List.mem_cons_of_mem _ htm)) hw)
    exact steps 0 l fun i o ho => by rw [Nat.zero_add]; exact ho
  · rintro d b w ⟨hc, hH | hT⟩ hall
    · have hall' : ∀ i, i ∈ qs ++ al → d i = true := fun i hi => hall i (ind i (by simpa using (by rcases List.mem_append.1 hi with h | h; exact .inl h; exact .inr (.inl h) : i ∈ qs ∨ i ∈ al ∨ i ∈ ts)))
      have h := headDone d b w hH hall'
      cases ts with
      | nil => exact h
      | cons t r =>
        have := hH.1 t List.mem_cons_self
        rw [hall t (ind t (by simp))] at this; cases this
    · obtain ⟨_, pre, post, hts, _, hpost, hw⟩ := hT
      cases post with
      | nil => exact hw
      | cons t r =>
        have := hpost t List.mem_cons_self
        rw [hall t (ind t (by rw [hts]; simp))] at this; cases this
end
end Go.Proofs.YtgmabjlehjpboaaDoor.K
