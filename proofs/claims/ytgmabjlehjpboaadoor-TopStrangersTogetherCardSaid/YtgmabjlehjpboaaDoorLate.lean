/- Proved: the same as the text that it stands on, where quiet operations may come late, between those of the tail. Conditions: those that the theorem names. -/
import Derived.Test.YtgmabjlehjpboaaDoorMix
namespace Go.Proofs.YtgmabjlehjpboaaDoor.K
open Go.RowKit Go.Sort
set_option linter.unusedVariables false
section
variable {P : Program} {l : List Oper} {Q : Exit → Act → World → Prop}

/-! ### quiet operations that may come late: between the operations of the tail -/
def wpListS (P : Program) (ops : Array Oper) (Q : Exit → Act → World → Prop) (S : World → Prop) : List Oper → Act → World → Prop
  | [], a, w => Q .normal a w
  | o :: rest, a, w => if Region.wanted o (yielded ops a.tmps) then o.wp P a w (fun a' w' => S w' ∧ wpListS P ops Q S rest a' w') Q else wpListS P ops Q S rest (a.put o.dst undef) w
theorem listS_step {ops : Array Oper} {S : World → Prop} {o : Oper} {rest : List Oper} {a : Act} {w : World} (hg : o.guard = none)
    (h : ∀ K : Act → World → Prop, (∀ a' w', S w' → wpListS P ops Q S rest a' w' → K a' w') → o.wp P a w K Q) : wpListS P ops Q S (o :: rest) a w := by
  unfold wpListS
  rw [if_pos (by simp [Region.wanted, hg])]
  exact h _ fun _ _ h1 h2 => ⟨h1, h2⟩
def lateB (l : List Oper) (qs al ts ls : List Nat) : Bool :=
  early 0 l && Region.noSelect l.toArray && (List.range l.length).all (fun i => (qs ++ al ++ ts).count i == 1) && (qs ++ al ++ ts).all (fun i => decide (i < l.length)) &&
  distinctB l && sortedB qs && al.all (fun j => match l[j]? with | some o => o.guard.isNone | none => false) && (qs ++ al).all (looksB l qs al) &&
  (match ts with | [] => true | t :: _ => (qs ++ al).all (fun i => ls.contains i || reach l l.length t i)) && chainB l ts &&
  (ls.all fun j => qs.contains j && match l[j]? with
    | some o => o.guard.isNone && (o.looksAt l.toArray).all fun t => (List.range l.length).all fun i => match l[i]? with | some x => x.dst != some t || (qs.contains i && (!ls.contains i || depOn o i)) | none => true
    | none => false) &&
  (ts.all fun k => match l[k]? with
    | some o => (o.looksAt l.toArray).all fun t => ls.all fun j => match l[j]? with | some x => x.dst != some t || depOn o j | none => true
    | none => false)

theorem wp_agree {ops : Array Oper} {o : Oper} {a b : Act} {w : World} {K : Act → World → Prop} (hs : ∀ cs b, o.op ≠ .select cs b)
    (hQ : ∀ c a b w, Q (.panic c) a w → Q (.panic c) b w) (h : ∀ t ∈ o.looksAt ops, b.tmps[t]? = a.tmps[t]?) (hw : o.wp P a w K Q) :
    o.wp P b w (fun b' w' => ∃ a' v, K a' w' ∧ (b.defers = a.defers → b'.defers = a'.defers) ∧ (∀ t : Nat, b'.tmps[t]? = (b.put o.dst v).tmps[t]?) ∧ (∀ t : Nat, a'.tmps[t]? = (a.put o.dst v).tmps[t]?)) Q := by
  unfold Oper.wp at *
  rw [exec_congr (ops := ops) hs h]
  generalize (execOp a.eval o).run P w = r at *
  have pd : ∀ (c : Act) (d : Deferred) (v : Value), ({ c with defers := d :: c.defers }.put o.dst v : Act).tmps = (c.put o.dst v).tmps := fun c d v => by cases o.dst <;> rfl
  cases r with
  | ok n w' =>
    cases n <;> simp only [Oper.upon] at hw ⊢
    case value v => exact ⟨_, v, hw, fun h => by rw [put_defers', put_defers', h], fun _ => rfl, fun _ => rfl⟩
    case skip => exact ⟨_, undef, hw, fun h => by rw [put_defers', put_defers', h], fun _ => rfl, fun _ => rfl⟩
    case defer d => exact ⟨_, undef, hw, fun h => by rw [put_defers', put_defers', h], fun _ => by rw [pd], fun _ => by rw [pd]⟩
    case enter f args =>
      refine Calls.mono hw fun e w'' he => ?_
      cases e with
      | returned v => exact ⟨_, v, he, fun h => by rw [put_defers', put_defers', h], fun _ => rfl, fun _ => rfl⟩
      | panicked c => exact hQ _ _ _ _ he
      | outgrown => exact he
    case row row args => exact Rows.mono hw fun v w'' he => ⟨_, v, he, fun h => by rw [put_defers', put_defers', h], fun _ => rfl, fun _ => rfl⟩
  | halt x w' =>
    cases x <;> simp only [Oper.upon] at hw ⊢
    case panic u => exact hQ _ _ _ _ hw

theorem wp_region_late {id : Nat} {a : Act} {W : World} (qs al ts ls : List Nat) (hm : P.follows .mixedOrders = true) (hB : lateB l qs al ts ls = true) (A : Act) (S : World → Prop) (lv : Nat → Value) (hQ : ∀ c a b w, Q (.panic c) a w → Q (.panic c) b w)
    (hq : ∀ Z, Closed Z → Nonempty (RegX W Z) → wpQuiet P l.toArray (fun w' => ∃ p : RegX W Z, w' = grow (redrawn W p.d) p.os) (fun b => b = A) (qs.filterMap (l[·]?)) a)
    (obj : Nat → Obj) (mk : Nat → Nat → Value)
    (hal : ∀ i ∈ al, ∀ o, l[i]? = some o → ∀ w, Below W.heap.size W w → (execOp A.eval o).run P w = .ok (.value (mk i w.heap.size)) (w.alloc (obj i)))
    (hlate : ∀ j ∈ ls, ∀ o, l[j]? = some o → (∀ w, S w → (execOp A.eval o).run P w = .ok (.value (lv j)) w) ∧ ∀ t, o.dst = some t → A.tmps[t]? = a.tmps[t]?.map fun _ => lv j)
    (ht : ∀ (π : Nat → Nat) w, Below W.heap.size W w → (∀ i ∈ al, w.heap[π i]? = some (obj i) ∧ W.heap.size ≤ π i) → (∀ i ∈ al, ∀ j ∈ al, π i = π j → i = j) →
      S w ∧ wpListS P l.toArray Q S (ts.filterMap (l[·]?)) (putsA l mk π al A) w) : (Code.region id l.toArray true).wp P Q a W := by
  simp only [lateB, Bool.and_eq_true] at hB
  obtain ⟨⟨⟨⟨⟨⟨⟨⟨⟨⟨⟨hearly, hsel⟩, hcount⟩, hlt⟩, hdist⟩, hsort⟩, hag⟩, hlook⟩, htail⟩, hchain⟩, hls⟩, htl⟩ := hB
  have hsort := sortedB_spec hsort
  have mem_all : ∀ i, i < l.length → i ∈ qs ∨ i ∈ al ∨ i ∈ ts := fun i hi => by
    have := List.all_eq_true.1 hcount i (List.mem_range.2 hi)
    simp only [beq_iff_eq] at this
    have h2 : i ∈ qs ++ al ++ ts := List.count_pos_iff.1 (by omega)
    simpa [or_assoc] using h2
  have once : ∀ i, (qs ++ al ++ ts).count i ≤ 1 := fun i => by
    by_cases hi : i < l.length
    · have := List.all_eq_true.1 hcount i (List.mem_range.2 hi)
      simp only [beq_iff_eq] at this; omega
    · have : i ∉ qs ++ al ++ ts := fun hm => hi (by simpa using List.all_eq_true.1 hlt i hm)
      rw [List.count_eq_zero.2 this]; omega
  have qa : ∀ i, i ∈ qs → i ∉ al := fun i h1 h2 => by
    have := once i; rw [List.count_append, List.count_append] at this
    have := List.count_pos_iff.2 h1; have := List.count_pos_iff.2 h2; omega
  have qt : ∀ i, i ∈ qs → i ∉ ts := fun i h1 h2 => by
    have := once i; rw [List.count_append, List.count_append] at this
    have := List.count_pos_iff.2 h1; have := List.count_pos_iff.2 h2; omega
  have at_ : ∀ i, i ∈ al → i ∉ ts := fun i h1 h2 => by
    have := once i; rw [List.count_append, List.count_append] at this
    have := List.count_pos_iff.2 h1; have := List.count_pos_iff.2 h2; omega
  have tnd : ts.Nodup := List.nodup_iff_count.2 fun i => by
    have := once i; rw [List.count_append, List.count_append] at this; omega
  have ind : ∀ i, i ∈ qs ++ al ++ ts → i < l.length := fun i hm => by simpa using List.all_eq_true.1 hlt i hm
  have dist : ∀ (i j : Nat) (x y : Oper) (t : Nat), l[i]? = some x → l[j]? = some y → x.dst = some t → y.dst = some t → i = j := fun i j x y t hi hj hx hy => by
    have h1 : i < l.length := (List.getElem?_eq_some_iff.1 hi).1
    have h2 : j < l.length := (List.getElem?_eq_some_iff.1 hj).1
    have := List.all_eq_true.1 (List.all_eq_true.1 hdist i (List.mem_range.2 h1)) j (List.mem_range.2 h2)
    rcases Bool.or_eq_true _ _ ▸ this with h | h
    · simpa using h
    · simp only [hi, hj, Option.bind_some, hx, hy] at h; simp at h
  have earl : ∀ (i : Nat) (o : Oper), l[i]? = some o → ∀ e ∈ o.after.toList, Region.binds .any e = true → e.on < i := fun i o ho e he hb => by simpa using early_get hearly ho e he hb
  have look : ∀ (j : Nat) (o : Oper), j ∈ qs ++ al → l[j]? = some o → ∀ t ∈ o.looksAt l.toArray, ∀ (i : Nat) (x : Oper), l[i]? = some x → x.dst = some t →
      (i ∈ qs ∧ depOn o i = true) ∨ (depOn x j = true ∧ ¬ (j ∈ al ∧ i ∈ qs)) := fun j o hj ho t htl i x hx hxt => by
    have h := List.all_eq_true.1 hlook j hj
    simp only [looksB, ho] at h
    have h2 := List.all_eq_true.1 (List.all_eq_true.1 h t htl) i (List.mem_range.2 (List.getElem?_eq_some_iff.1 hx).1)
    simp only [hx, hxt, bne_self_eq_false, Bool.false_or, Bool.or_eq_true, Bool.and_eq_true, Bool.not_eq_true', Bool.and_eq_false_iff] at h2
    rcases h2 with h2 | h2
    · exact .inl ⟨by simpa using h2.1, h2.2⟩
    · refine .inr ⟨h2.1, fun hh => ?_⟩
      simp at h2
      exact h2.2.elim (fun h => h hh.1) (fun h => h hh.2)
  have lateQ : ∀ j ∈ ls, j ∈ qs := fun j hj => by
    have := List.all_eq_true.1 hls j hj
    simp only [Bool.and_eq_true] at this
    simpa using this.1
  have lateL : ∀ j ∈ ls, ∀ o, l[j]? = some o → o.guard = none ∧ ∀ t ∈ o.looksAt l.toArray, ∀ (i : Nat) (x : Oper), l[i]? = some x → x.dst = some t → i ∈ qs ∧ (i ∉ ls ∨ depOn o i = true) := fun j hj o ho => by
    have := List.all_eq_true.1 hls j hj
    simp only [Bool.and_eq_true, ho] at this
    obtain ⟨_, h1, h2⟩ := this
    refine ⟨by simpa using h1, fun t ht i x hx hxt => ?_⟩
    have := List.all_eq_true.1 (List.all_eq_true.1 h2 t ht) i (List.mem_range.2 (List.getElem?_eq_some_iff.1 hx).1)
    simpa [hx, hxt] using this
  have lateT : ∀ k ∈ ts, ∀ o, l[k]? = some o → ∀ t ∈ o.looksAt l.toArray, ∀ j ∈ ls, ∀ x, l[j]? = some x → x.dst = some t → depOn o j = true := fun k hk o ho t ht j hj x hx hxt => by
    have := List.all_eq_true.1 htl k hk
    simp only [ho] at this
    have := List.all_eq_true.1 (List.all_eq_true.1 this t ht) j hj
    simpa [hx, hxt] using this
  have qpw : (qs.filterMap (l[·]?)).Pairwise (fun x y => ∀ t, x.dst = some t → y.dst ≠ some t) := by
    rw [List.pairwise_filterMap]
    exact hsort.imp fun {i j} hij x hx y hy t hxt hyt => by
      have := dist i j x y t hx hy hxt hyt; omega
  -- what A holds
  obtain ⟨⟨hAd, hAo⟩, _⟩ := quiet_spec _ _ (hq (fun _ => True) (fun _ _ _ _ => trivial) ⟨⟨0, #[], trivial⟩⟩) qpw
  have hAo' : ∀ t : Nat, (∀ i ∈ qs, ∀ o, l[i]? = some o → o.dst ≠ some t) → A.tmps[t]? = a.tmps[t]? := fun t h => hAo t fun o ho => by
    obtain ⟨i, hi, hio⟩ := List.mem_filterMap.1 ho
    exact h i hi o hio
  let Head : Dn → Act → World → Prop := fun d b w =>
    (∀ t ∈ ts, d t = false) ∧ b.defers = a.defers ∧ (∀ t : Nat, (∀ i o, l[i]? = some o → d i = true → o.dst ≠ some t) → b.tmps[t]? = a.tmps[t]?) ∧
    (∀ i ∈ qs, ∀ o, l[i]? = some o → d i = true → ∀ t, o.dst = some t → b.tmps[t]? = A.tmps[t]?) ∧ Below W.heap.size W w ∧
    ∃ π : Nat → Nat, (∀ i ∈ al, ∀ o, l[i]? = some o → d i = true → ∀ t, o.dst = some t → b.tmps[t]? = a.tmps[t]?.map fun _ => mk i (π i)) ∧
      (∀ i ∈ al, d i = true → w.heap[π i]? = some (obj i) ∧ W.heap.size ≤ π i) ∧ (∀ i ∈ al, ∀ j ∈ al, d i = true → d j = true → π i = π j → i = j)
  let Like : Dn → Act → Act → Prop := fun d b F => b.defers = F.defers ∧ (∀ t : Nat, (∀ j ∈ ls, d j = false → ∀ o, l[j]? = some o → o.dst ≠ some t) → b.tmps[t]? = F.tmps[t]?) ∧
    (∀ j ∈ ls, d j = false → ∀ o, l[j]? = some o → ∀ t, o.dst = some t → b.tmps[t]? = a.tmps[t]? ∧ F.tmps[t]? = a.tmps[t]?.map fun _ => lv j) ∧
    (∀ t : Nat, (∀ (i : Nat) o, l[i]? = some o → o.dst = some t → i ∈ qs ∧ (i ∉ ls ∨ d i = true)) → b.tmps[t]? = A.tmps[t]?)
  let Tail : Dn → Act → World → Prop := fun d b w => (∀ i, i ∈ qs ++ al → i ∉ ls → d i = true) ∧ S w ∧ ∃ pre post F, ts = pre ++ post ∧ (∀ t ∈ pre, d t = true) ∧ (∀ t ∈ post, d t = false) ∧ Like d b F ∧ wpListS P l.toArray Q S (post.filterMap (l[·]?)) F w
  -- the head is done
  have headDone : ∀ d b w, Head d b w → (∀ i, i ∈ qs ++ al → i ∉ ls → d i = true) → S w ∧ ∃ F, Like d b F ∧ wpListS P l.toArray Q S (ts.filterMap (l[·]?)) F w := by
    rintro d b w ⟨h0, h1, h2, h3, h4, π, h5, h6, h7⟩ hall
    have hala : ∀ i ∈ al, d i = true := fun i hi => hall i (List.mem_append_right _ hi) fun hl => qa i (lateQ i hl) hi
    obtain ⟨hS, hL⟩ := ht π w h4 (fun i hi => h6 i hi (hala i hi)) (fun i hi j hj => h7 i hi j hj (hala i hi) (hala j hj))
    have pA : ∀ t : Nat, (∀ i ∈ al, ∀ o, l[i]? = some o → o.dst ≠ some t) → (putsA l mk π al A).tmps[t]? = A.tmps[t]? := fun t hta => putsA_other al A (fun i hi hit => by
      cases hio : l[i]? with
      | none => simp [hio] at hit
      | some o => exact hta i hi o hio (by simpa [hio] using hit))
    refine ⟨hS, putsA l mk π al A, ⟨by rw [h1, putsA_defers, hAd], fun t hno => ?_, fun j hj hdj o ho t hot => ?_, fun t hno => ?_⟩, hL⟩
    · by_cases hta : ∃ i ∈ al, ∃ o, l[i]? = some o ∧ o.dst = some t
      · obtain ⟨i, hi, o, ho, hot⟩ := hta
        rw [h5 i hi o ho (hala i hi) t hot, putsA_at al A hi (by simp [ho, hot]) (fun j hj hjt => by
          cases hjo : l[j]? with
          | none => simp [hjo] at hjt
          | some oj => simp only [hjo, Option.bind_some] at hjt; exact dist j i oj o t hjo ho hjt hot)]
        rw [hAo' t fun k hk ok hok hokt => qa k hk (by rw [dist k i ok o t hok ho hokt hot]; exact hi)]
      · rw [pA t fun i hi o ho hot => hta ⟨i, hi, o, ho, hot⟩]
        by_cases htq : ∃ i ∈ qs, ∃ o, l[i]? = some o ∧ o.dst = some t
        · obtain ⟨i, hi, o, ho, hot⟩ := htq
          by_cases hdi : d i = true
          · exact h3 i hi o ho hdi t hot
          · have hil : i ∈ ls := Classical.byContradiction fun hil => hdi (hall i (List.mem_append_left _ hi) hil)
            exact absurd hot (hno i hil (by simpa using hdi) o ho)
        · rw [hAo' t fun k hk ok hok hokt => htq ⟨k, hk, ok, hok, hokt⟩]
          refine h2 t fun i o ho hd hot => ?_
          rcases mem_all i (List.getElem?_eq_some_iff.1 ho).1 with h | h | h
          · exact htq ⟨i, h, o, ho, hot⟩
          · exact hta ⟨i, h, o, ho, hot⟩
          · rw [h0 i h] at hd; cases hd
    · refine ⟨h2 t fun i x hx hd hxt => ?_, ?_⟩
      · have := dist i j x o t hx ho hxt hot
        rw [this, hdj] at hd; cases hd
      · rw [pA t fun i hi x hx hxt => qa j (lateQ j hj) (by rw [← dist i j x o t hx ho hxt hot]; exact hi)]
        exact (hlate j hj o ho).2 t hot
    · by_cases hex : ∃ (i : Nat) (x : Oper), l[i]? = some x ∧ x.dst = some t
      · obtain ⟨i, x, hx, hxt⟩ := hex
        obtain ⟨hiq, hil⟩ := hno i x hx hxt
        exact h3 i hiq x hx (hil.elim (fun hil => hall i (List.mem_append_left _ hiq) hil) (fun h => h)) t hxt
      · rw [h2 t fun i x hx _ hxt => hex ⟨i, x, hx, hxt⟩, hAo' t fun i _ x hx hxt => hex ⟨i, x, hx, hxt⟩]
  have closedSet : ∀ (d : Dn) (j : Nat) (o : Oper), ClosedD l d → l[j]? = some o → (∀ e ∈ o.after.toList, Region.binds .any e = true → d e.on = true) → ClosedD l (d.set j) := fun d j o hc ho hp i x hx hd e he hb => by
    by_cases hij : i = j
    · subst hij
      have : x = o := Option.some.inj (hx.symm.trans ho)
      subst this
      by_cases h : e.on = i
      · rw [h]; exact Dn.set_same _ _
      · rw [Dn.set_ne d h]; exact hp e he hb
    · rw [Dn.set_ne d hij] at hd
      by_cases h : e.on = j
      · rw [h]; exact Dn.set_same _ _
      · rw [Dn.set_ne d h]; exact hc i x hx hd e he hb
  -- one step of the tail
  have tailStep : ∀ (d : Dn) (b F : Act) (w : World) (j : Nat) (o : Oper) (pre post : List Nat), l[j]? = some o → ts = pre ++ j :: post → (∀ i, i ∈ qs ++ al → i ∉ ls → d i = true) → (∀ t ∈ pre, d t = true) → (∀ t ∈ post, d t = false) →
      (∀ i, depOn o i = true → d i = true) → Like d b F → S w → wpListS P l.toArray Q S ((j :: post).filterMap (l[·]?)) F w → wpOp P l.toArray Q j (Tail (d.set j)) b w := by
    intro d b F w j o pre post ho hts hall hpre hpost hdep hlike hSw h
    have hnd := hts ▸ tnd
    have hjt : j ∈ ts := by rw [hts]; simp
    have hjl : j ∉ ls := fun hl => qt j (lateQ j hl) hjt
    rw [List.filterMap_cons_some ho] at h
    obtain ⟨k1, k2, k3, k4⟩ := hlike
    have next : ∀ b' F' w' v, S w' → wpListS P l.toArray Q S (post.filterMap (l[·]?)) F' w' → b'.defers = F'.defers → (∀ t : Nat, b'.tmps[t]? = (b.put o.dst v).tmps[t]?) → (∀ t : Nat, F'.tmps[t]? = (F.put o.dst v).tmps[t]?) → Tail (d.set j) b' w' := fun b' F' w' v hS' h' hdf hb hF => by
      refine ⟨fun i hi hil => ?_, hS', pre ++ [j], post, F', by rw [hts]; simp, fun t htm => ?_, fun t htm => ?_, ⟨hdf, fun t hno => ?_, fun i hi hdi x hx t hxt => ?_, fun t hno => ?_⟩, h'⟩
      · by_cases hij : i = j
        · rw [hij]; exact Dn.set_same _ _
        · rw [Dn.set_ne d hij]; exact hall i hi hil
      · rcases List.mem_append.1 htm with h1 | h1
        · by_cases hij : t = j
          · rw [hij]; exact Dn.set_same _ _
          · rw [Dn.set_ne d hij]; exact hpre t h1
        · simp at h1; rw [h1]; exact Dn.set_same _ _
      · have : t ≠ j := fun e => by
          subst e
          have := (List.nodup_append.1 hnd).2.1
          exact (List.nodup_cons.1 this).1 htm
        rw [Dn.set_ne d this]; exact hpost t htm
      · have hk := k2 t fun i hi hdi x hx => hno i hi (by rw [Dn.set_ne d (fun e => hjl (by rw [← e]; exact hi))]; exact hdi) x hx
        rw [hb t, hF t, put_get, put_get, hk]
      · have hij : i ≠ j := fun e => hjl (by rw [← e]; exact hi)
        rw [Dn.set_ne d hij] at hdi
        have hk := k3 i hi hdi x hx t hxt
        have hne : o.dst ≠ some t := fun hot => hij (dist i j x o t hx ho hxt hot)
        rw [hb t, hF t, put_get, put_get, if_neg hne, if_neg hne]
        exact hk
      · rw [hb t, put_get, if_neg (fun hot => qt j (hno j o ho hot).1 hjt)]
        refine k4 t fun i x hx hxt => ?_
        obtain ⟨q1, q2⟩ := hno i x hx hxt
        rw [Dn.set_ne d (fun e => qt i q1 (by rw [e]; exact hjt))] at q2
        exact ⟨q1, q2⟩
    have agree : ∀ t ∈ o.looksAt l.toArray, b.tmps[t]? = F.tmps[t]? := fun t htl => k2 t fun i hi hdi x hx hxt => by
      have := hdep i (lateT j hjt o ho t htl i hi x hx hxt)
      rw [hdi] at this; cases this
    have ho' : l.toArray[j]? = some o := by simpa using ho
    unfold wpOp
    simp only [ho']
    unfold wpListS at h
    rw [wanted_congr agree]
    split
    · rename_i hw
      rw [if_pos hw] at h
      exact .inl (Oper.wp_mono (fun b' w' ⟨F', v, ⟨hS', h'⟩, h1, h2, h3⟩ => next b' F' w' v hS' h' (h1 k1) h2 h3) (wp_agree (fun cs bb => Region.noSelect_spec hsel j o cs bb ho') hQ agree h))
    · rename_i hw
      rw [if_neg hw] at h
      exact next _ _ _ undef hSw h (by rw [put_defers', put_defers', k1]) (fun _ => rfl) (fun _ => rfl)
  -- a late one
  have lateStep : ∀ (d : Dn) (b F : Act) (w : World) (j : Nat) (o : Oper) (pre post : List Nat), l[j]? = some o → j ∈ ls → d j = false → ts = pre ++ post → (∀ i, i ∈ qs ++ al → i ∉ ls → d i = true) → (∀ t ∈ pre, d t = true) → (∀ t ∈ post, d t = false) → (∀ i, depOn o i = true → d i = true) →
      Like d b F → S w → wpListS P l.toArray Q S (post.filterMap (l[·]?)) F w → wpOp P l.toArray Q j (Tail (d.set j)) b w := by
    intro d b F w j o pre post ho hjl hdj hts hall hpre hpost hpr hlike hSw h
    obtain ⟨k1, k2, k3, k4⟩ := hlike
    obtain ⟨hg, hlk⟩ := lateL j hjl o ho
    obtain ⟨hrun, _⟩ := hlate j hjl o ho
    have ho' : l.toArray[j]? = some o := by simpa using ho
    have agree : ∀ t ∈ o.looksAt l.toArray, b.tmps[t]? = A.tmps[t]? := fun t htl => k4 t fun i x hx hxt => ⟨(hlk t htl i x hx hxt).1, (hlk t htl i x hx hxt).2.imp_right (hpr i)⟩
    have hjt : j ∉ ts := qt j (lateQ j hjl)
    refine wpOp_want ho' (by simp [Region.wanted, hg]) fun K hK => ?_
    unfold Oper.wp
    rw [exec_congr (fun cs bb => Region.noSelect_spec hsel j o cs bb ho') agree, hrun w hSw, Oper.upon_value]
    refine hK _ _ ⟨fun i hi hil => ?_, hSw, pre, post, F, hts, fun t htm => ?_, fun t htm => ?_, ⟨put_defers'.trans k1, fun t hno => ?_, fun i hi hdi x hx t hxt => ?_, fun t hno => ?_⟩, h⟩
    · by_cases hij : i = j
      · rw [hij]; exact Dn.set_same _ _
      · rw [Dn.set_ne d hij]; exact hall i hi hil
    · rw [Dn.set_ne d (fun e => hjt (by rw [← e, hts]; exact List.mem_append_left _ htm))]; exact hpre t htm
    · rw [Dn.set_ne d (fun e => hjt (by rw [← e, hts]; exact List.mem_append_right _ htm))]; exact hpost t htm
    · rw [put_get]
      by_cases hot : o.dst = some t
      · rw [if_pos hot, (k3 j hjl hdj o ho t hot).1, (k3 j hjl hdj o ho t hot).2]
      · rw [if_neg hot]
        refine k2 t fun i hi hdi x hx hxt => ?_
        by_cases hij : i = j
        · subst hij
          have : x = o := Option.some.inj (hx.symm.trans ho)
          subst this
          exact hot hxt
        · exact hno i hi (by rw [Dn.set_ne d hij]; exact hdi) x hx hxt
    · have hij : i ≠ j := fun e => by rw [e, Dn.set_same] at hdi; cases hdi
      rw [Dn.set_ne d hij] at hdi
      have hne : o.dst ≠ some t := fun hot => hij (dist i j x o t hx ho hxt hot)
      rw [put_get, if_neg hne]
      exact k3 i hi hdi x hx t hxt
    · rw [put_get]
      by_cases hot : o.dst = some t
      · rw [if_pos hot, (k3 j hjl hdj o ho t hot).1, (hlate j hjl o ho).2 t hot]
      · rw [if_neg hot]
        refine k4 t fun i x hx hxt => ?_
        obtain ⟨q1, q2⟩ := hno i x hx hxt
        rw [Dn.set_ne d (fun e => hot (by subst e; rw [Option.some.inj (hx.symm.trans ho)] at hxt; exact hxt))] at q2
        exact ⟨q1, q2⟩
  refine wp_region_inv hm hearly (fun d b w => ClosedD l d ∧ (Head d b w ∨ Tail d b w)) ?_ ?_ ?_
  · refine ⟨fun i o ho hd => (by cases hd), .inl ⟨fun _ _ => rfl, rfl, fun _ _ => rfl, fun _ _ _ _ hd => (by cases hd), (Below.refl _ W).drew, fun _ => 0, fun _ _ _ _ hd => (by cases hd), fun _ _ hd => (by cases hd), fun _ _ _ _ hd => (by cases hd)⟩⟩
  · have steps : ∀ (k : Nat) (r : List Oper), (∀ i o, r[i]? = some o → l[k + i]? = some o) → InvSteps P l.toArray Q (fun d b w => ClosedD l d ∧ (Head d b w ∨ Tail d b w)) k r := by
      intro k r
      induction r generalizing k with
      | nil => intro _; trivial
      | cons o r ih =>
        intro hr
        refine ⟨?_, ih (k + 1) fun i x hx => by have := hr (i + 1) x (by simpa using hx); rwa [show k + (i + 1) = k + 1 + i from by omega] at this⟩
        have ho : l[k]? = some o := by simpa using hr 0 o rfl
        have hkl : k < l.length := (List.getElem?_eq_some_iff.1 ho).1
        have ho' : l.toArray[k]? = some o := by simpa using ho
        clear ih hr
        rintro d b w ⟨hc, hI⟩ hdk hp
        have hcs := closedSet d k o hc ho hp
        have pred : ∀ i, depOn o i = true → d i = true := fun i h => by
          obtain ⟨e, he, hb, rfl⟩ := depOn_iff.1 h; exact hp e he hb
        have succ : ∀ (i : Nat) (x : Oper), l[i]? = some x → depOn x k = true → d i = false := fun i x hx h => by
          cases hd : d i with
          | false => rfl
          | true =>
            obtain ⟨e, he, hb, hon⟩ := depOn_iff.1 h
            have := hc i x hx hd e he hb
            rw [hon, hdk] at this; cases this
        rcases hI with hH | hT
        · have hH' := hH
          obtain ⟨h0, h1, h2, h3, h4, π, h5, h6, h7⟩ := hH
          rcases mem_all k hkl with hk | hk | hk
          · -- a quiet one
            obtain ⟨pre, post, hqs⟩ := List.append_of_mem hk
            have hZ : Closed (fun w' => Below w.heap.size w w') := fun u v hu hv => hu.trans (hv.mono hu.size)
            obtain ⟨_, hsp⟩ := quiet_spec _ _ (hq _ hZ ((clsX_of h4 (Below.refl _ _) : ClsX W (fun w' => Below w.heap.size w w') w).elim fun p _ => ⟨p⟩)) qpw
            obtain ⟨c, v, hc1, hc2, hy, hv⟩ := hsp (pre.filterMap (l[·]?)) o (post.filterMap (l[·]?)) (by rw [hqs, List.filterMap_append, List.filterMap_cons_some ho])
            have hpre : ∀ i ∈ pre, i < k := fun i hi => by
              rw [hqs] at hsort
              exact (List.pairwise_append.1 hsort).2.2 i hi k List.mem_cons_self
            have hprq : ∀ i ∈ qs, i < k → i ∈ pre := fun i hi hik => by
              rw [hqs] at hi hsort
              rcases List.mem_append.1 hi with h | h
              · exact h
              · rcases List.mem_cons.1 h with h | h
                · omega
                · have := (List.pairwise_cons.1 (List.pairwise_append.1 hsort).2.1).1 i h; omega
            have agree : ∀ t ∈ o.looksAt l.toArray, b.tmps[t]? = c.tmps[t]? := fun t htl => by
              by_cases hex : ∃ (i : Nat) (x : Oper), l[i]? = some x ∧ x.dst = some t
              · obtain ⟨i, x, hx, hxt⟩ := hex
                rcases look k o (List.mem_append_left _ hk) ho t htl i x hx hxt with ⟨hiq, hdep⟩ | ⟨hdep, _⟩
                · have hik : i < k := by obtain ⟨e, he, hb, rfl⟩ := depOn_iff.1 hdep; exact earl k o ho e he hb
                  rw [h3 i hiq x hx (pred i hdep) t hxt, hc1 t ⟨x, List.mem_filterMap.2 ⟨i, hprq i hiq hik, hx⟩, hxt⟩]
                · have hdi := succ i x hx hdep
                  have hki : k < i := by obtain ⟨e, he, hb, rfl⟩ := depOn_iff.1 hdep; exact earl i x hx e he hb
                  have e1 : b.tmps[t]? = a.tmps[t]? := h2 t fun i' o' ho'' hd' hot => by
                    have := dist i' i o' x t ho'' hx hot hxt
                    rw [this, hdi] at hd'; cases hd'
                  have e2 : c.tmps[t]? = a.tmps[t]? := hc2 t fun y hy' hyt => by
                    obtain ⟨i', hi', hio⟩ := List.mem_filterMap.1 hy'
                    have := dist i' i y x t hio hx hyt hxt
                    have := hpre i' hi'; omega
                  rw [e1, e2]
              · rw [h2 t fun i x hx _ hxt => hex ⟨i, x, hx, hxt⟩, hc2 t fun y hy' hyt => by
                  obtain ⟨i', _, hio⟩ := List.mem_filterMap.1 hy'
                  exact hex ⟨i', y, hio, hyt⟩]
            have hns := Region.noSelect_spec hsel
            have hy' : YieldsIn P l.toArray (ClsX W fun w' => Below w.heap.size w w') o v b :=
              hy.of_same (exec_congr (fun cs bb => hns k o cs bb ho') agree) (wanted_congr agree)
            have next : ∀ w', Below w.heap.size w w' → ClosedD l (d.set k) ∧ (Head (d.set k) (b.put o.dst v) w' ∨ Tail (d.set k) (b.put o.dst v) w') := fun w' hw' => by
              have bdst : ∀ t, o.dst = some t → b.tmps[t]? = a.tmps[t]? := fun t hot => h2 t fun i x hx hd hxt => by
                have := dist i k x o t hx ho hxt hot
                rw [this, hdk] at hd; cases hd
              refine ⟨hcs, .inl ⟨fun t htm => ?_, put_defers'.trans h1, fun t hh => ?_, fun i hi x hx hd t hxt => ?_, h4.trans (hw'.mono h4.size), π, fun i hi x hx hd t hxt => ?_, fun i hi hd => ?_, fun i hi j hj hdi hdj => ?_⟩⟩
              · rw [Dn.set_ne d (fun e => qt k hk (by rw [← e]; exact htm))]; exact h0 t htm
              · rw [put_get, if_neg (hh k o ho (Dn.set_same _ _))]
                refine h2 t fun i x hx hd => hh i x hx ?_
                by_cases hik : i = k
                · rw [hik]; exact Dn.set_same _ _
                · rw [Dn.set_ne d hik]; exact hd
              · by_cases hik : i = k
                · subst hik
                  have : x = o := Option.some.inj (hx.symm.trans ho)
                  subst this
                  rw [put_get, if_pos hxt, bdst t hxt, hv t hxt]
                · rw [Dn.set_ne d hik] at hd
                  rw [put_get, if_neg (fun hot => hik (dist i k x o t hx ho hxt hot))]
                  exact h3 i hi x hx hd t hxt
              · have hik : i ≠ k := fun e => qa k hk (by rw [← e]; exact hi)
                rw [Dn.set_ne d hik] at hd
                rw [put_get, if_neg (fun hot => hik (dist i k x o t hx ho hxt hot))]
                exact h5 i hi x hx hd t hxt
              · have hik : i ≠ k := fun e => qa k hk (by rw [← e]; exact hi)
                rw [Dn.set_ne d hik] at hd
                obtain ⟨g1, g2⟩ := h6 i hi hd
                exact ⟨(hw'.block _ (Array.getElem?_eq_some_iff.1 g1).1).trans g1, g2⟩
              · have hik : i ≠ k := fun e => qa k hk (by rw [← e]; exact hi)
                have hjk : j ≠ k := fun e => qa k hk (by rw [← e]; exact hj)
                rw [Dn.set_ne d hik] at hdi; rw [Dn.set_ne d hjk] at hdj
                exact h7 i hi j hj hdi hdj
            rcases hy' with ⟨hw, hall⟩ | ⟨hw, rfl⟩
            · refine wpOp_want ho' hw fun K hK => ?_
              have hcl : ClsX W (fun w' => Below w.heap.size w w') w := clsX_of h4 (Below.refl _ _)
              have h := hall w hcl
              unfold Oper.quietAt at h
              unfold Oper.wp
              generalize (execOp b.eval o).run P w = r at *
              cases r with
              | ok nx w1 =>
                cases nx <;> simp only [Oper.quietUpon] at h <;> simp only [Oper.upon]
                case value u => obtain ⟨e1, e2⟩ := h; rw [e1, e2]; exact hK _ _ (next w (Below.refl _ _))
                case skip => obtain ⟨e1, e2⟩ := h; rw [e1, ← e2]; exact hK _ _ (next w (Below.refl _ _))
                case enter f args =>
                  obtain ⟨e1, hcall⟩ := h
                  rw [e1]
                  exact hcall.mono fun e w'' ⟨he, p, hp⟩ => by subst he; exact hK _ _ (next w'' (by rw [hp]; exact p.ok))
              | halt x w1 => simp only [Oper.quietUpon] at h
            · exact wpOp_skip ho' hw (next w (Below.refl _ _))
          · -- an allocation
            have hns := Region.noSelect_spec hsel
            have agree : ∀ t ∈ o.looksAt l.toArray, b.tmps[t]? = A.tmps[t]? := fun t htl => by
              by_cases hex : ∃ (i : Nat) (x : Oper), l[i]? = some x ∧ x.dst = some t
              · obtain ⟨i, x, hx, hxt⟩ := hex
                rcases look k o (List.mem_append_right _ hk) ho t htl i x hx hxt with ⟨hiq, hdep⟩ | ⟨hdep, hno⟩
                · exact h3 i hiq x hx (pred i hdep) t hxt
                · have hdi := succ i x hx hdep
                  have hiq : i ∉ qs := fun h => hno ⟨hk, h⟩
                  have e1 : b.tmps[t]? = a.tmps[t]? := h2 t fun i' o' ho'' hd' hot => by
                    have := dist i' i o' x t ho'' hx hot hxt
                    rw [this, hdi] at hd'; cases hd'
                  have e2 : A.tmps[t]? = a.tmps[t]? := hAo' t fun i' hi' o' ho'' hot => by
                    have := dist i' i o' x t ho'' hx hot hxt
                    exact hiq (by rw [← this]; exact hi')
                  rw [e1, e2]
              · rw [h2 t fun i x hx _ hxt => hex ⟨i, x, hx, hxt⟩, hAo' t fun i _ x hx hxt => hex ⟨i, x, hx, hxt⟩]
            have hg : o.guard = none := by
              have := List.all_eq_true.1 hag k hk
              simpa [ho] using this
            refine wpOp_want ho' (by simp [Region.wanted, hg]) fun K hK => ?_
            have hrun := hal k hk o ho w h4
            unfold Oper.wp
            rw [exec_congr (fun cs bb => hns k o cs bb ho') agree, hrun, Oper.upon_value]
            refine hK _ _ ⟨hcs, .inl ⟨fun t htm => ?_, put_defers'.trans h1, fun t hh => ?_, fun i hi x hx hd t hxt => ?_, h4.alloc h4.size _, fun i => if i = k then w.heap.size else π i, fun i hi x hx hd t hxt => ?_, fun i hi hd => ?_, fun i hi j hj hdi hdj hij => ?_⟩⟩
            · rw [Dn.set_ne d (fun e => at_ k hk (by rw [← e]; exact htm))]; exact h0 t htm
            · rw [put_get, if_neg (hh k o ho (Dn.set_same _ _))]
              refine h2 t fun i x hx hd => hh i x hx ?_
              by_cases hik : i = k
              · rw [hik]; exact Dn.set_same _ _
              · rw [Dn.set_ne d hik]; exact hd
            · have hik : i ≠ k := fun e => qa i hi (by rw [e]; exact hk)
              rw [Dn.set_ne d hik] at hd
              rw [put_get, if_neg (fun hot => hik (dist i k x o t hx ho hxt hot))]
              exact h3 i hi x hx hd t hxt
            · dsimp only
              by_cases hik : i = k
              · subst hik
                have : x = o := Option.some.inj (hx.symm.trans ho)
                subst this
                have e1 : b.tmps[t]? = a.tmps[t]? := h2 t fun i' o' ho'' hd' hot => by
                  have := dist i' i o' x t ho'' ho hot hxt
                  rw [this, hdk] at hd'; cases hd'
                rw [put_get, if_pos hxt, if_pos rfl, e1]
              · rw [Dn.set_ne d hik] at hd
                rw [put_get, if_neg (fun hot => hik (dist i k x o t hx ho hxt hot)), if_neg hik]
                exact h5 i hi x hx hd t hxt
            · dsimp only
              by_cases hik : i = k
              · subst hik
                rw [if_pos rfl]
                exact ⟨alloc_new_heap w _, h4.size⟩
              · rw [Dn.set_ne d hik] at hd
                rw [if_neg hik]
                obtain ⟨g1, g2⟩ := h6 i hi hd
                exact ⟨(Below.heap_alloc w _ _ (Array.getElem?_eq_some_iff.1 g1).1).trans g1, g2⟩
            · by_cases hik : i = k
              · by_cases hjk : j = k
                · rw [hik, hjk]
                · rw [Dn.set_ne d hjk] at hdj
                  simp only [hik, hjk, if_true, if_false] at hij
                  have := (Array.getElem?_eq_some_iff.1 (h6 j hj hdj).1).1
                  omega
              · rw [Dn.set_ne d hik] at hdi
                by_cases hjk : j = k
                · simp only [hik, hjk, if_true, if_false] at hij
                  have := (Array.getElem?_eq_some_iff.1 (h6 i hi hdi).1).1
                  omega
                · rw [Dn.set_ne d hjk] at hdj
                  simp only [hik, hjk, if_false] at hij
                  exact h7 i hi j hj hdi hdj hij
          · -- the first of the tail
            cases ts with
            | nil => cases hk
            | cons t0 tr =>
              have hkt : k = t0 := by
                rcases List.mem_cons.1 hk with h | h
                · exact h
                · exfalso
                  obtain ⟨pre, post, he⟩ := List.append_of_mem h
                  have chainAt : ∀ (r : List Nat) (t : Nat) (pre : List Nat), chainB l (t :: r) = true → t :: r = pre ++ k :: post → pre ≠ [] → ∃ x ∈ t :: r, depOn o x = true := by
                    intro r
                    induction r with
                    | nil => intro t pre _ he hne; cases pre with
                      | nil => exact absurd rfl hne
                      | cons y ys => simp at he
                    | cons u r ih =>
                      intro t pre hch he hne
                      simp only [chainB, Bool.and_eq_true] at hch
                      cases pre with
                      | nil => exact absurd rfl hne
                      | cons y ys =>
                        simp only [List.cons_append, List.cons.injEq] at he
                        by_cases hys : ys = []
                        · subst hys
                          simp only [List.nil_append, List.cons.injEq] at he
                          obtain ⟨_, rfl, _⟩ := he
                          rw [ho] at hch
                          exact ⟨t, List.mem_cons_self, hch.1⟩
                        · obtain ⟨x, hx, hd⟩ := ih u ys hch.2 he.2 hys
                          exact ⟨x, List.mem_cons_of_mem _ hx, hd⟩
                  obtain ⟨x, hx, hd⟩ := chainAt tr t0 (t0 :: pre) hchain (by rw [he]; rfl) (by simp)
                  have := pred x hd
                  rw [h0 x hx] at this; cases this
              subst hkt
              have hall : ∀ i, i ∈ qs ++ al → i ∉ ls → d i = true := fun i hi hil => reach_done hc _ k i o ho hp (by
                have := List.all_eq_true.1 htail i hi
                simpa [hil] using this)
              obtain ⟨hS, F, hF, hL⟩ := headDone d b w hH' hall
              exact wpOp_mono (fun b' w' h' => ⟨hcs, .inr h'⟩) (tailStep d b F w k o [] tr ho rfl hall (fun _ h => by cases h) (fun t htm => h0 t (List.mem_cons_of_mem _ htm)) pred hF hS hL)
        · -- within the tail
          obtain ⟨hall, hSw, pre, post, F, hts, hpre, hpost, hlike, hw⟩ := hT
          by_cases hkl' : k ∈ ls
          · exact wpOp_mono (fun b' w' h' => ⟨hcs, .inr h'⟩) (lateStep d b F w k o pre post ho hkl' hdk hts hall hpre hpost pred hlike hSw hw)
          have hkt : k ∈ ts := by
            rcases mem_all k hkl with h | h | h
            · have := hall k (List.mem_append_left _ h) hkl'; rw [hdk] at this; cases this
            · have := hall k (List.mem_append_right _ h) hkl'; rw [hdk] at this; cases this
            · exact h
          have hkp : k ∈ post := by
            rw [hts] at hkt
            rcases List.mem_append.1 hkt with h | h
            · have := hpre k h; rw [hdk] at this; cases this
            · exact h
          cases post with
          | nil => cases hkp
          | cons u r =>
            have hku : k = u := by
              rcases List.mem_cons.1 hkp with h | h
              · exact h
              · exfalso
                obtain ⟨p1, p2, he⟩ := List.append_of_mem h
                have chainAt : ∀ (r : List Nat) (t : Nat), chainB l (t :: r) = true → k ∈ r → ∃ x ∈ t :: r, depOn o x = true ∧ ((x :: [k]).Sublist (t :: r)) := by
                  intro r
                  induction r with
                  | nil => intro t _ hkr; cases hkr
                  | cons u r ih =>
                    intro t hch hkr
                    simp only [chainB, Bool.and_eq_true] at hch
                    rcases List.mem_cons.1 hkr with h | h
                    · subst h
                      rw [ho] at hch
                      exact ⟨t, List.mem_cons_self, hch.1, by simp⟩
                    · obtain ⟨x, hx, hd, hs⟩ := ih u hch.2 h
                      exact ⟨x, List.mem_cons_of_mem _ hx, hd, hs.cons _⟩
                have chainDrop : ∀ (p q : List Nat), chainB l (p ++ q) = true → chainB l q = true := by
                  intro p
                  induction p with
                  | nil => intro q h; exact h
                  | cons x p ih =>
                    intro q h
                    refine ih q ?_
                    cases hpq : p ++ q with
                    | nil => rfl
                    | cons y ys => rw [List.cons_append, hpq] at h; simp only [chainB, Bool.and_eq_true] at h; exact h.2
                obtain ⟨x, hx, hd, _⟩ := chainAt r u (chainDrop pre _ (hts ▸ hchain)) h
                have := pred x hd
                rw [hpost x hx] at this; cases this
            subst hku
            exact wpOp_mono (fun b' w' h' => ⟨hcs, .inr h'⟩) (tailStep d b F w k o pre r ho hts hall hpre (fun t htm => hpost t (List.mem_cons_of_mem _ htm)) pred hlike hSw hw)
    exact steps 0 l fun i o ho => by rw [Nat.zero_add]; exact ho
  · rintro d b w ⟨hc, hH | hT⟩ hall
    · have hall' : ∀ i, i ∈ qs ++ al → d i = true := fun i hi => hall i (ind i (by simpa using (by rcases List.mem_append.1 hi with h | h; exact .inl h; exact .inr (.inl h) : i ∈ qs ∨ i ∈ al ∨ i ∈ ts)))
      obtain ⟨_, F, ⟨k1, k2, _, _⟩, h⟩ := headDone d b w hH fun i hi _ => hall' i hi
      have hbF : b = F := act_ext k1 fun t => k2 t fun j hj hdj => by
        rw [hall' j (List.mem_append_left _ (lateQ j hj))] at hdj; cases hdj
      cases ts with
      | nil => rw [hbF]; exact h
      | cons t r =>
        have := hH.1 t List.mem_cons_self
        rw [hall t (ind t (by simp))] at this; cases this
    · obtain ⟨_, _, pre, post, F, hts, _, hpost, ⟨k1, k2, _, _⟩, hw⟩ := hT
      have hbF : b = F := act_ext k1 fun t => k2 t fun j hj hdj => by
        rw [hall j (ind j (by simp [lateQ j hj]))] at hdj; cases hdj
      cases post with
      | nil => rw [hbF]; exact hw
      | cons t r =>
        have := hpost t List.mem_cons_self
        rw [hall t (ind t (by rw [hts]; simp))] at this; cases this

/-- The same, asked of no panic: for a function's own end. -/
def noPanic (Q : Exit → Act → World → Prop) : Exit → Act → World → Prop
  | .panic _, _, _ => False
  | e, a, w => Q e a w
theorem wp_region_late' {id : Nat} {a : Act} {W : World} (qs al ts ls : List Nat) (hm : P.follows .mixedOrders = true) (hB : lateB l qs al ts ls = true) (A : Act) (S : World → Prop) (lv : Nat → Value)
    (hq : ∀ Z, Closed Z → Nonempty (RegX W Z) → wpQuiet P l.toArray (fun w' => ∃ p : RegX W Z, w' = grow (redrawn W p.d) p.os) (fun b => b = A) (qs.filterMap (l[·]?)) a)
    (obj : Nat → Obj) (mk : Nat → Nat → Value)
    (hal : ∀ i ∈ al, ∀ o, l[i]? = some o → ∀ w, Below W.heap.size W w → (execOp A.eval o).run P w = .ok (.value (mk i w.heap.size)) (w.alloc (obj i)))
    (hlate : ∀ j ∈ ls, ∀ o, l[j]? = some o → (∀ w, S w → (execOp A.eval o).run P w = .ok (.value (lv j)) w) ∧ ∀ t, o.dst = some t → A.tmps[t]? = a.tmps[t]?.map fun _ => lv j)
    (ht : ∀ (π : Nat → Nat) w, Below W.heap.size W w → (∀ i ∈ al, w.heap[π i]? = some (obj i) ∧ W.heap.size ≤ π i) → (∀ i ∈ al, ∀ j ∈ al, π i = π j → i = j) →
      S w ∧ wpListS P l.toArray (noPanic Q) S (ts.filterMap (l[·]?)) (putsA l mk π al A) w) : (Code.region id l.toArray true).wp P Q a W :=
  wp_mono (wp_region_late (Q := noPanic Q) qs al ts ls hm hB A S lv (fun _ _ _ _ h => h) hq obj mk hal hlate ht) (fun e a w h => by cases e <;> first | exact h | exact h.elim)
end
end Go.Proofs.YtgmabjlehjpboaaDoor.K
