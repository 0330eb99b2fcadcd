/- Proved: a region that draws its order, whose operations are quiet ones, allocations, and a tail in a fixed order: one walk serves every order, for whatever program. Conditions: those that the theorem names. -/
import Derived.Test.YtgmabjlehjpboaaDoorInv
import Derived.Deep.Quiet
import Derived.Lib.QuietBelow
namespace Go.Proofs.YtgmabjlehjpboaaDoor.K
open Go.RowKit Go.Sort
set_option linter.unusedVariables false

structure RegX (W : World) (Z : World → Prop) where
  d : Nat
  os : Array Obj
  ok : Z (grow (redrawn W d) os)
abbrev ClsX (W : World) (Z : World → Prop) : World → Prop := fun w' => ∃ p : RegX W Z, w' = grow (redrawn W p.d) p.os
def Closed (Z : World → Prop) : Prop := ∀ w w', Z w → Below w.heap.size w w' → Z w'

theorem clsX_of {W w' : World} {Z : World → Prop} (h : Below W.heap.size W w') (hz : Z w') : ClsX W Z w' := by
  obtain ⟨p, rfl⟩ := regrown_of_below h
  exact ⟨⟨p.d, p.os, hz⟩, rfl⟩
/-- A callee's contract met in a world of the class. -/
theorem rgX {P : Program} {f : FuncId} {args : Array Value} {W : World} {Z : World → Prop} (hZ : Closed Z) {p : RegX W Z} {v : Value}
    (h : ∀ w', Below W.heap.size W w' → Calls P f args w' fun e w'' => e = .returned v ∧ Below w'.heap.size w' w'') :
    Calls P f args (grow (redrawn W p.d) p.os) fun e w'' => e = .returned v ∧ ∃ q : RegX W Z, w'' = grow (redrawn W q.d) q.os :=
  (h _ (below_regrown W p.d p.os)).mono fun e w'' ⟨he, hb⟩ => ⟨he, clsX_of ((below_regrown W p.d p.os).trans (hb.mono (below_regrown W p.d p.os).size)) (hZ _ _ p.ok hb)⟩

theorem alloc_new_heap (w : World) (o : Obj) : (w.alloc o).heap[w.heap.size]? = some o := by
  show (w.heap.push o)[w.heap.size]? = some o
  simp

theorem cell_blk {w : World} {b i : Nat} {vs : Array Value} {t : TypeId} {v : Value} (h : w.heap[b]? = some (.cells vs t)) (hv : vs[i]? = some v) : w.cell? ⟨b, i, none⟩ = some v := by
  simp [World.cell?, h, hv]
theorem frz_blk {w : World} {b i : Nat} {vs : Array Value} {t : TypeId} (h : w.heap[b]? = some (.cells vs t)) : w.frozen? ⟨b, i, none⟩ = false := by
  simp [World.frozen?, h]
theorem ne_blk {W : World} {b : Nat} {a : Addr} {v : Value} (h : W.heap.size ≤ b) (hc : W.cell? a = some v) : a.block ≠ b := by
  have := World.block_lt_of_cell? W a hc; omega

/-! ### frames -/
theorem eval_congr {a b : Act} {x : Operand} (h : ∀ t, x = .tmp t → a.tmps[t]? = b.tmps[t]?) : a.eval x = b.eval x := by
  cases x with
  | tmp t => simp only [Act.eval, Array.getD_eq_getD_getElem?]; rw [h t rfl]
  | _ => rfl
theorem exec_congr {ops : Array Oper} {o : Oper} {a b : Act} (hs : ∀ cs b, o.op ≠ .select cs b) (h : ∀ t ∈ o.looksAt ops, a.tmps[t]? = b.tmps[t]?) : execOp a.eval o = execOp b.eval o :=
  execOp_congr o hs fun x hx => eval_congr fun t ht => h t (by
    subst ht; exact List.mem_append_left _ (List.mem_filterMap.2 ⟨.tmp t, by simpa using hx, rfl⟩))
theorem wanted_congr {ops : Array Oper} {o : Oper} {a b : Act} (h : ∀ t ∈ o.looksAt ops, a.tmps[t]? = b.tmps[t]?) : Region.wanted o (yielded ops a.tmps) = Region.wanted o (yielded ops b.tmps) := by
  unfold Region.wanted
  cases hg : o.guard with
  | none => rfl
  | some gw =>
    obtain ⟨g, want⟩ := gw
    have : yielded ops a.tmps g = yielded ops b.tmps g := by
      unfold yielded
      cases ht : (ops[g]?).bind (·.dst) with
      | none => rfl
      | some t => simp only [Option.bind_some]; rw [h t (by simp [Oper.looksAt, hg, ht])]
    simp only [this]
theorem put_get {a : Act} {d : Option Tmp} {v : Value} {t : Tmp} : (a.put d v).tmps[t]? = if d = some t then a.tmps[t]?.map (fun _ => v) else a.tmps[t]? := by
  cases d with
  | none => simp [Act.put]
  | some d =>
    simp only [Act.put, Option.some.injEq]
    by_cases h : d = t
    · subst h
      rw [if_pos rfl]
      rcases Nat.lt_or_ge d a.tmps.size with hl | hl
      · simp [hl]
      · simp [hl]
    · rw [if_neg h, Array.getElem?_setIfInBounds_ne h]
theorem put_size {a : Act} {d : Option Tmp} {v : Value} : (a.put d v).tmps.size = a.tmps.size := by cases d <;> simp [Act.put]
theorem put_defers' {a : Act} {d : Option Tmp} {v : Value} : (a.put d v).defers = a.defers := by cases d <;> rfl
theorem act_ext {a b : Act} (hd : a.defers = b.defers) (h : ∀ t : Nat, a.tmps[t]? = b.tmps[t]?) : a = b := by
  obtain ⟨ta, da⟩ := a; obtain ⟨tb, db⟩ := b
  simp only at hd h; subst hd
  have : ta = tb := Array.ext_getElem? h
  subst this; rfl

/-! ### what a lexical walk of quiet operations says of each -/
section
variable {P : Program} {ops : Array Oper} {C : World → Prop}

theorem quiet_hole {l : List Oper} {a A : Act} (h : ∀ Q' : Act → Prop, Q' A → wpQuiet P ops C Q' l a) : wpQuiet P ops C (fun b => b = A) l a := h _ rfl

theorem quiet_at {o : Oper} {rest : List Oper} {a : Act} {Q : Act → Prop} (h : wpQuiet P ops C Q (o :: rest) a) : ∃ v, YieldsIn P ops C o v a ∧ wpQuiet P ops C Q rest (a.put o.dst v) := by
  unfold wpQuiet at h
  by_cases hw : Region.wanted o (yielded ops a.tmps) = true
  · rw [if_pos hw] at h
    obtain ⟨v, h1, h2⟩ := h
    exact ⟨v, .inl ⟨hw, h1⟩, h2⟩
  · rw [if_neg hw] at h
    exact ⟨undef, .inr ⟨by simpa using hw, rfl⟩, h⟩

theorem quiet_spec {A : Act} : ∀ (l : List Oper) (a : Act), wpQuiet P ops C (fun b => b = A) l a → l.Pairwise (fun x y => ∀ t, x.dst = some t → y.dst ≠ some t) →
    (A.defers = a.defers ∧ ∀ t : Nat, (∀ o ∈ l, o.dst ≠ some t) → A.tmps[t]? = a.tmps[t]?) ∧
    ∀ pre o post, l = pre ++ o :: post → ∃ b v, (∀ t : Nat, (∃ x ∈ pre, x.dst = some t) → b.tmps[t]? = A.tmps[t]?) ∧ (∀ t : Nat, (∀ x ∈ pre, x.dst ≠ some t) → b.tmps[t]? = a.tmps[t]?) ∧
      YieldsIn P ops C o v b ∧ ∀ t, o.dst = some t → A.tmps[t]? = a.tmps[t]?.map fun _ => v
  | [], a, h, _ => by
    have h : a = A := h
    subst h
    exact ⟨⟨rfl, fun _ _ => rfl⟩, fun pre o post h => by cases pre <;> cases h⟩
  | x :: l, a, h, hp => by
    obtain ⟨v, hy, hr⟩ := quiet_at h
    obtain ⟨hx, hp'⟩ := List.pairwise_cons.1 hp
    obtain ⟨⟨hd, ho⟩, hl⟩ := quiet_spec l _ hr hp'
    refine ⟨⟨hd.trans put_defers', fun t ht => ?_⟩, fun pre o post he => ?_⟩
    · rw [ho t fun o hm => ht o (List.mem_cons_of_mem _ hm), put_get, if_neg (ht x List.mem_cons_self)]
    · cases pre with
      | nil =>
        simp only [List.nil_append, List.cons.injEq] at he
        obtain ⟨rfl, rfl⟩ := he
        refine ⟨a, v, (fun t ⟨_, hm, _⟩ => by cases hm), fun _ _ => rfl, hy, fun t ht => ?_⟩
        rw [ho t fun o hm => hx o hm t ht, put_get, if_pos ht]
      | cons y pre =>
        simp only [List.cons_append, List.cons.injEq] at he
        obtain ⟨rfl, he⟩ := he
        obtain ⟨b, u, h1, h2, h3, h4⟩ := hl pre o post he
        have hne : ∀ t, x.dst = some t → ∀ z ∈ l, z.dst ≠ some t := fun t ht z hz => hx z hz t ht
        refine ⟨b, u, fun t ⟨z, hz, hzt⟩ => ?_, fun t ht => ?_, h3, fun t ht => ?_⟩
        · rcases List.mem_cons.1 hz with rfl | hz
          · rw [h2 t fun q hq => hne t hzt q (by rw [he]; exact List.mem_append_left _ hq), put_get, ho t (hne t hzt), put_get]
          · exact h1 t ⟨z, hz, hzt⟩
        · rw [h2 t fun q hq => ht q (List.mem_cons_of_mem _ hq), put_get, if_neg (ht x List.mem_cons_self)]
        · have hom : o ∈ l := by rw [he]; simp
          rw [h4 t ht, put_get, if_neg (fun hxt => hne t hxt o hom ht)]
end

/-! ### the region -/
section
variable {P : Program} {l : List Oper} {Q : Exit → Act → World → Prop}

def depOn (o : Oper) (i : Nat) : Bool := o.after.toList.any fun e => Region.binds .any e && e.on == i
theorem depOn_iff {o : Oper} {i : Nat} : depOn o i = true ↔ ∃ e ∈ o.after.toList, Region.binds .any e = true ∧ e.on = i := by
  simp only [depOn, List.any_eq_true, Bool.and_eq_true, beq_iff_eq]
def reach (l : List Oper) : Nat → Nat → Nat → Bool
  | 0, _, _ => false
  | f + 1, t, i => match l[t]? with
    | some o => o.after.toList.any fun e => Region.binds .any e && (e.on == i || reach l f e.on i)
    | none => false
def distinctB (l : List Oper) : Bool := (List.range l.length).all fun i => (List.range l.length).all fun j => i == j || match l[i]?.bind (·.dst), l[j]?.bind (·.dst) with
  | some x, some y => x != y
  | _, _ => true
def looksB (l : List Oper) (qs al : List Nat) (j : Nat) : Bool := match l[j]? with
  | none => false
  | some o => (o.looksAt l.toArray).all fun t => (List.range l.length).all fun i => match l[i]? with
    | none => true
    | some oi => oi.dst != some t || (qs.contains i && depOn o i) || (depOn oi j && !(al.contains j && qs.contains i))
def chainB : List Oper → List Nat → Bool
  | l, t :: u :: r => (match l[u]? with | some o => depOn o t | none => false) && chainB l (u :: r)
  | _, _ => true
def sortedB : List Nat → Bool
  | x :: y :: r => decide (x < y) && sortedB (y :: r)
  | _ => true
def mixedB (l : List Oper) (qs al ts : List Nat) : Bool :=
  early 0 l && Region.noSelect l.toArray && (List.range l.length).all (fun i => (qs ++ al ++ ts).count i == 1) && (qs ++ al ++ ts).all (fun i => decide (i < l.length)) &&
  distinctB l && sortedB qs && al.all (fun j => match l[j]? with | some o => o.guard.isNone | none => false) && (qs ++ al).all (looksB l qs al) &&
  (match ts with | [] => true | t :: _ => (qs ++ al).all (reach l l.length t)) && chainB l ts

theorem sortedB_spec : ∀ {q : List Nat}, sortedB q = true → q.Pairwise (· < ·)
  | [], _ => .nil
  | [x], _ => by simp
  | x :: y :: r, h => by
    simp only [sortedB, Bool.and_eq_true, decide_eq_true_eq] at h
    have ih := sortedB_spec h.2
    refine List.pairwise_cons.2 ⟨fun z hz => ?_, ih⟩
    rcases List.mem_cons.1 hz with rfl | hz
    · exact h.1
    · exact Nat.lt_trans h.1 ((List.pairwise_cons.1 ih).1 z hz)

def ClosedD (l : List Oper) (d : Dn) : Prop := ∀ i o, l[i]? = some o → d i = true → ∀ e ∈ o.after.toList, Region.binds .any e = true → d e.on = true

theorem reach_done {d : Dn} (hc : ClosedD l d) : ∀ (f t i : Nat) (o : Oper), l[t]? = some o → (∀ e ∈ o.after.toList, Region.binds .any e = true → d e.on = true) → reach l f t i = true → d i = true
  | 0, _, _, _, _, _, h => by cases h
  | f + 1, t, i, o, ho, hp, h => by
    simp only [reach, ho, List.any_eq_true, Bool.and_eq_true, Bool.or_eq_true, beq_iff_eq] at h
    obtain ⟨e, he, hb, h⟩ := h
    have hd := hp e he hb
    rcases h with h | h
    · rw [← h]; exact hd
    · cases hoe : l[e.on]? with
      | none => cases f <;> simp [reach, hoe] at h
      | some oe => exact reach_done hc f e.on i oe hoe (hc _ _ hoe hd) h

def putsA (l : List Oper) (mk : Nat → Nat → Value) (π : Nat → Nat) : List Nat → Act → Act
  | [], a => a
  | i :: r, a => putsA l mk π r (a.put (l[i]?.bind (·.dst)) (mk i (π i)))
theorem putsA_defers {mk : Nat → Nat → Value} {π : Nat → Nat} : ∀ (al : List Nat) (a : Act), (putsA l mk π al a).defers = a.defers
  | [], _ => rfl
  | i :: r, a => (putsA_defers r _).trans put_defers'
theorem putsA_other {mk : Nat → Nat → Value} {π : Nat → Nat} {t : Nat} : ∀ (al : List Nat) (a : Act), (∀ i ∈ al, l[i]?.bind (·.dst) ≠ some t) → (putsA l mk π al a).tmps[t]? = a.tmps[t]?
  | [], _, _ => rfl
  | i :: r, a, h => (putsA_other r _ fun j hj => h j (List.mem_cons_of_mem _ hj)).trans (by rw [put_get, if_neg (h i List.mem_cons_self)])
theorem putsA_at {mk : Nat → Nat → Value} {π : Nat → Nat} {t i : Nat} : ∀ (al : List Nat) (a : Act), i ∈ al → l[i]?.bind (·.dst) = some t → (∀ j ∈ al, l[j]?.bind (·.dst) = some t → j = i) →
    (putsA l mk π al a).tmps[t]? = a.tmps[t]?.map fun _ => mk i (π i)
  | [], _, h, _, _ => by cases h
  | j :: r, a, h, ht, hu => by
    by_cases hir : i ∈ r
    · rw [putsA, putsA_at r _ hir ht fun k hk => hu k (List.mem_cons_of_mem _ hk), put_get]
      by_cases hj : l[j]?.bind (·.dst) = some t
      · rw [if_pos hj]; cases a.tmps[t]? <;> rfl
      · rw [if_neg hj]
    · have hij : i = j := by rcases List.mem_cons.1 h with h | h; exact h; exact absurd h hir
      subst hij
      rw [putsA, putsA_other r _ fun k hk hkt => hir (by rw [← hu k (List.mem_cons_of_mem _ hk) hkt]; exact hk), put_get, if_pos ht]

theorem wp_region_mixed {id : Nat} {a : Act} {W : World} (qs al ts : List Nat) (hm : P.follows .mixedOrders = true) (hB : mixedB l qs al ts = true) (A : Act)
    (hq : ∀ Z, Closed Z → Nonempty (RegX W Z) → wpQuiet P l.toArray (fun w' => ∃ p : RegX W Z, w' = grow (redrawn W p.d) p.os) (fun b => b = A) (qs.filterMap (l[·]?)) a)
    (obj : Nat → Obj) (mk : Nat → Nat → Value)
    (hal : ∀ i ∈ al, ∀ o, l[i]? = some o → ∀ w, Below W.heap.size W w → (execOp A.eval o).run P w = .ok (.value (mk i w.heap.size)) (w.alloc (obj i)))
    (ht : ∀ (π : Nat → Nat) w, Below W.heap.size W w → (∀ i ∈ al, w.heap[π i]? = some (obj i) ∧ W.heap.size ≤ π i) → (∀ i ∈ al, ∀ j ∈ al, π i = π j → i = j) →
      wpList P l.toArray Q (ts.filterMap (l[·]?)) (putsA l mk π al A) w) : (Code.region id l.toArray true).wp P Q a W := by
  simp only [mixedB, Bool.and_eq_true] at hB
  obtain ⟨⟨⟨⟨⟨⟨⟨⟨⟨hearly, hsel⟩, hcount⟩, hlt⟩, hdist⟩, hsort⟩, hag⟩, hlook⟩, htail⟩, hchain⟩ := hB
  have hsort := sortedB_spec hsort
  have mem_all : ∀ i, i < l.length → i ∈ qs ∨ i ∈ al ∨ i ∈ ts := fun i hi => by
    have := List.all_eq_true.1 hcount i (List.mem_range.2 hi)
    simp only [beq_iff_eq] at this
    have h2 : i ∈ qs ++ al ++ ts := List.count_pos_iff.1 (by omega)
    simpa [or_assoc] using h2
  have once : ∀ i, (qs ++ al ++ ts).count i ≤ 1 := fun i => by
    by_cases hi : i < l.length
    · have := List.all_eq_true.1 hcount i (List.mem_range.2 hi)
      simp only [beq_iff_eq] at this; omega
    · have : i ∉ qs ++ al ++ ts := fun hm => hi (by simpa using List.all_eq_true.1 hlt i hm)
      rw [List.count_eq_zero.2 this]; omega
  have qa : ∀ i, i ∈ qs → i ∉ al := fun i h1 h2 => by
    have := once i; rw [List.count_append, List.count_append] at this
    have := List.count_pos_iff.2 h1; have := List.count_pos_iff.2 h2; omega
  have qt : ∀ i, i ∈ qs → i ∉ ts := fun i h1 h2 => by
    have := once i; rw [List.count_append, List.count_append] at this
    have := List.count_pos_iff.2 h1; have := List.count_pos_iff.2 h2; omega
  have at_ : ∀ i, i ∈ al → i ∉ ts := fun i h1 h2 => by
    have := once i; rw [List.count_append, List.count_append] at this
    have := List.count_pos_iff.2 h1; have := List.count_pos_iff.2 h2; omega
  have tnd : ts.Nodup := List.nodup_iff_count.2 fun i => by
    have := once i; rw [List.count_append, List.count_append] at this; omega
  have ind : ∀ i, i ∈ qs ++ al ++ ts → i < l.length := fun i hm => by simpa using List.all_eq_true.1 hlt i hm
  have dist : ∀ (i j : Nat) (x y : Oper) (t : Nat), l[i]? = some x → l[j]? = some y → x.dst = some t → y.dst = some t → i = j := fun i j x y t hi hj hx hy => by
    have h1 : i < l.length := (List.getElem?_eq_some_iff.1 hi).1
    have h2 : j < l.length := (List.getElem?_eq_some_iff.1 hj).1
    have := List.all_eq_true.1 (List.all_eq_true.1 hdist i (List.mem_range.2 h1)) j (List.mem_range.2 h2)
    rcases Bool.or_eq_true _ _ ▸ this with h | h
    · simpa using h
    · simp only [hi, hj, Option.bind_some, hx, hy] at h; simp at h
  have earl : ∀ (i : Nat) (o : Oper), l[i]? = some o → ∀ e ∈ o.after.toList, Region.binds .any e = true → e.on < i := fun i o ho e he hb => by simpa using early_get hearly ho e he hb
  have look : ∀ (j : Nat) (o : Oper), j ∈ qs ++ al → l[j]? = some o → ∀ t ∈ o.looksAt l.toArray, ∀ (i : Nat) (x : Oper), l[i]? = some x → x.dst = some t →
      (i ∈ qs ∧ depOn o i = true) ∨ (depOn x j = true ∧ ¬ (j ∈ al ∧ i ∈ qs)) := fun j o hj ho t htl i x hx hxt => by
    have h := List.all_eq_true.1 hlook j hj
    simp only [looksB, ho] at h
    have h2 := List.all_eq_true.1 (List.all_eq_true.1 h t htl) i (List.mem_range.2 (List.getElem?_eq_some_iff.1 hx).1)
    simp only [hx, hxt, bne_self_eq_false, Bool.false_or, Bool.or_eq_true, Bool.and_eq_true, Bool.not_eq_true', Bool.and_eq_false_iff] at h2
    rcases h2 with h2 | h2
    · exact .inl ⟨by simpa using h2.1, h2.2⟩
    · refine .inr ⟨h2.1, fun hh => ?_⟩
      simp at h2
      exact h2.2.elim (fun h => h hh.1) (fun h => h hh.2)
  have qpw : (qs.filterMap (l[·]?)).Pairwise (fun x y => ∀ t, x.dst = some t → y.dst ≠ some t) := by
    rw [List.pairwise_filterMap]
    exact hsort.imp fun {i j} hij x hx y hy t hxt hyt => by
      have := dist i j x y t hx hy hxt hyt; omega
  -- what A holds
  obtain ⟨⟨hAd, hAo⟩, _⟩ := quiet_spec _ _ (hq (fun _ => True) (fun _ _ _ _ => trivial) ⟨⟨0, #[], trivial⟩⟩) qpw
  have hAo' : ∀ t : Nat, (∀ i ∈ qs, ∀ o, l[i]? = some o → o.dst ≠ some t) → A.tmps[t]? = a.tmps[t]? := fun t h => hAo t fun o ho => by
    obtain ⟨i, hi, hio⟩ := List.mem_filterMap.1 ho
    exact h i hi o hio
  let Head : Dn → Act → World → Prop := fun d b w =>
    (∀ t ∈ ts, d t = false) ∧ b.defers = a.defers ∧ (∀ t : Nat, (∀ i o, l[i]? = some o → d i = true → o.dst ≠ some t) → b.tmps[t]? = a.tmps[t]?) ∧
    (∀ i ∈ qs, ∀ o, l[i]? = some o → d i = true → ∀ t, o.dst = some t → b.tmps[t]? = A.tmps[t]?) ∧ Below W.heap.size W w ∧
    ∃ π : Nat → Nat, (∀ i ∈ al, ∀ o, l[i]? = some o → d i = true → ∀ t, o.dst = some t → b.tmps[t]? = a.tmps[t]?.map fun _ => mk i (π i)) ∧
      (∀ i ∈ al, d i = true → w.heap[π i]? = some (obj i) ∧ W.heap.size ≤ π i) ∧ (∀ i ∈ al, ∀ j ∈ al, d i = true → d j = true → π i = π j → i = j)
  let Tail : Dn → Act → World → Prop := fun d b w => (∀ i, i ∈ qs ++ al → d i = true) ∧ ∃ pre post, ts = pre ++ post ∧ (∀ t ∈ pre, d t = true) ∧ (∀ t ∈ post, d t = false) ∧ wpList P l.toArray Q (post.filterMap (l[·]?)) b w
  -- the head is done
  have headDone : ∀ d b w, Head d b w → (∀ i, i ∈ qs ++ al → d i = true) → wpList P l.toArray Q (ts.filterMap (l[·]?)) b w := by
    rintro d b w ⟨h0, h1, h2, h3, h4, π, h5, h6, h7⟩ hall
    have : b = putsA l mk π al A := by
      refine act_ext (by rw [h1, putsA_defers, hAd]) fun t => ?_
      by_cases hta : ∃ i ∈ al, ∃ o, l[i]? = some o ∧ o.dst = some t
      · obtain ⟨i, hi, o, ho, hot⟩ := hta
        rw [h5 i hi o ho (hall i (List.mem_append_right _ hi)) t hot, putsA_at al A hi (by simp [ho, hot]) (fun j hj hjt => by
          cases hjo : l[j]? with
          | none => simp [hjo] at hjt
          | some oj => simp only [hjo, Option.bind_some] at hjt; exact dist j i oj o t hjo ho hjt hot)]
        rw [hAo' t fun k hk ok hok hokt => qa k hk (by rw [dist k i ok o t hok ho hokt hot]; exact hi)]
      · rw [putsA_other al A (fun i hi hit => hta (by
          cases hio : l[i]? with
          | none => simp [hio] at hit
          | some o => exact ⟨i, hi, o, hio, by simpa [hio] using hit⟩))]
        by_cases htq : ∃ i ∈ qs, ∃ o, l[i]? = some o ∧ o.dst = some t
        · obtain ⟨i, hi, o, ho, hot⟩ := htq
          exact h3 i hi o ho (hall i (List.mem_append_left _ hi)) t hot
        · rw [hAo' t fun k hk ok hok hokt => htq ⟨k, hk, ok, hok, hokt⟩]
          refine h2 t fun i o ho hd hot => ?_
          rcases mem_all i (List.getElem?_eq_some_iff.1 ho).1 with h | h | h
          · exact htq ⟨i, h, o, ho, hot⟩
          · exact hta ⟨i, h, o, ho, hot⟩
          · rw [h0 i h] at hd; cases hd
    rw [this]
    exact ht π w h4 (fun i hi => h6 i hi (hall i (List.mem_append_right _ hi))) (fun i hi j hj => h7 i hi j hj (hall i (List.mem_append_right _ hi)) (hall j (List.mem_append_right _ hj)))
  have closedSet : ∀ (d : Dn) (j : Nat) (o : Oper), ClosedD l d → l[j]? = some o → (∀ e ∈ o.after.toList, Region.binds .any e = true → d e.on = true) → ClosedD l (d.set j) := fun d j o hc ho hp i x hx hd e he hb => by
    by_cases hij : i = j
    · subst hij
      have : x = o := Option.some.inj (hx.symm.trans ho)
      subst this
      by_cases h : e.on = i
      · rw [h]; exact Dn.set_same _ _
      · rw [Dn.set_ne d h]; exact hp e he hb
    · rw [Dn.set_ne d hij] at hd
      by_cases h : e.on = j
      · rw [h]; exact Dn.set_same _ _
      · rw [Dn.set_ne d h]; exact hc i x hx hd e he hb
  -- one step of the tail
  have tailStep : ∀ (d : Dn) (b : Act) (w : World) (j : Nat) (o : Oper) (pre post : List Nat), l[j]? = some o → ts = pre ++ j :: post → (∀ i, i ∈ qs ++ al → d i = true) → (∀ t ∈ pre, d t = true) → (∀ t ∈ post, d t = false) →
      wpList P l.toArray Q ((j :: post).filterMap (l[·]?)) b w → wpOp P l.toArray Q j (Tail (d.set j)) b w := by
    intro d b w j o pre post ho hts hall hpre hpost h
    have hnd := hts ▸ tnd
    rw [List.filterMap_cons_some ho] at h
    have next : ∀ b' w', wpList P l.toArray Q (post.filterMap (l[·]?)) b' w' → Tail (d.set j) b' w' := fun b' w' h' => by
      refine ⟨fun i hi => ?_, pre ++ [j], post, by rw [hts]; simp, fun t htm => ?_, fun t htm => ?_, h'⟩
      · by_cases hij : i = j
        · rw [hij]; exact Dn.set_same _ _
        · rw [Dn.set_ne d hij]; exact hall i hi
      · rcases List.mem_append.1 htm with h1 | h1
        · by_cases hij : t = j
          · rw [hij]; exact Dn.set_same _ _
          · rw [Dn.set_ne d hij]; exact hpre t h1
        · simp at h1; rw [h1]; exact Dn.set_same _ _
      · have : t ≠ j := fun e => by
          subst e
          have := (List.nodup_append.1 hnd).2.1
          exact (List.nodup_cons.1 this).1 htm
        rw [Dn.set_ne d this]; exact hpost t htm
    have ho' : l.toArray[j]? = some o := by simpa using ho
    unfold wpOp
    simp only [ho']
    unfold wpList at h
    split
    · rename_i hw
      rw [if_pos hw] at h
      rcases h with h | h
      · exact .inl (Oper.wp_mono next h)
      · exact .inr h
    · rename_i hw
      rw [if_neg hw] at h
      exact next _ _ h
  refine wp_region_inv hm hearly (fun d b w => ClosedD l d ∧ (Head d b w ∨ Tail d b w)) ?_ ?_ ?_
  · refine ⟨fun i o ho hd => (by cases hd), .inl ⟨fun _ _ => rfl, rfl, fun _ _ => rfl, fun _ _ _ _ hd => (by cases hd), (Below.refl _ W).drew, fun _ => 0, fun _ _ _ _ hd => (by cases hd), fun _ _ hd => (by cases hd), fun _ _ _ _ hd => (by cases hd)⟩⟩
  · have steps : ∀ (k : Nat) (r : List Oper), (∀ i o, r[i]? = some o → l[k + i]? = some o) → InvSteps P l.toArray Q (fun d b w => ClosedD l d ∧ (Head d b w ∨ Tail d b w)) k r := by
      intro k r
      induction r generalizing k with
      | nil => intro _; trivial
      | cons o r ih =>
        intro hr
        refine ⟨?_, ih (k + 1) fun i x hx => by have := hr (i + 1) x (by simpa using hx); rwa [show k + (i + 1) = k + 1 + i from by omega] at this⟩
        have ho : l[k]? = some o := by simpa using hr 0 o rfl
        have hkl : k < l.length := (List.getElem?_eq_some_iff.1 ho).1
        have ho' : l.toArray[k]? = some o := by simpa using ho
        clear ih hr
        rintro d b w ⟨hc, hI⟩ hdk hp
        have hcs := closedSet d k o hc ho hp
        have pred : ∀ i, depOn o i = true → d i = true := fun i h => by
          obtain ⟨e, he, hb, rfl⟩ := depOn_iff.1 h; exact hp e he hb
        have succ : ∀ (i : Nat) (x : Oper), l[i]? = some x → depOn x k = true → d i = false := fun i x hx h => by
          cases hd : d i with
          | false => rfl
          | true =>
            obtain ⟨e, he, hb, hon⟩ := depOn_iff.1 h
            have := hc i x hx hd e he hb
            rw [hon, hdk] at this; cases this
        rcases hI with hH | hT
        · have hH' := hH
          obtain ⟨h0, h1, h2, h3, h4, π, h5, h6, h7⟩ := hH
          rcases mem_all k hkl with hk | hk | hk
          · -- a quiet one
            obtain ⟨pre, post, hqs⟩ := List.append_of_mem hk
            have hZ : Closed (fun w' => Below w.heap.size w w') := fun u v hu hv => hu.trans (hv.mono hu.size)
            obtain ⟨_, hsp⟩ := quiet_spec _ _ (hq _ hZ ((clsX_of h4 (Below.refl _ _) : ClsX W (fun w' => Below w.heap.size w w') w).elim fun p _ => ⟨p⟩)) qpw
            obtain ⟨c, v, hc1, hc2, hy, hv⟩ := hsp (pre.filterMap (l[·]?)) o (post.filterMap (l[·]?)) (by rw [hqs, List.filterMap_append, List.filterMap_cons_some ho])
            have hpre : ∀ i ∈ pre, i < k := fun i hi => by
              rw [hqs] at hsort
              exact (List.pairwise_append.1 hsort).2.2 i hi k List.mem_cons_self
            have hprq : ∀ i ∈ qs, i < k → i ∈ pre := fun i hi hik => by
              rw [hqs] at hi hsort
              rcases List.mem_append.1 hi with h | h
              · exact h
              · rcases List.mem_cons.1 h with h | h
                · omega
                · have := (List.pairwise_cons.1 (List.pairwise_append.1 hsort).2.1).1 i h; omega
            have agree : ∀ t ∈ o.looksAt l.toArray, b.tmps[t]? = c.tmps[t]? := fun t htl => by
              by_cases hex : ∃ (i : Nat) (x : Oper), l[i]? = some x ∧ x.dst = some t
              · obtain ⟨i, x, hx, hxt⟩ := hex
                rcases look k o (List.mem_append_left _ hk) ho t htl i x hx hxt with ⟨hiq, hdep⟩ | ⟨hdep, _⟩
                · have hik : i < k := by obtain ⟨e, he, hb, rfl⟩ := depOn_iff.1 hdep; exact earl k o ho e he hb
                  rw [h3 i hiq x hx (pred i hdep) t hxt, hc1 t ⟨x, List.mem_filterMap.2 ⟨i, hprq i hiq hik, hx⟩, hxt⟩]
                · have hdi := succ i x hx hdep
                  have hki : k < i := by obtain ⟨e, he, hb, rfl⟩ := depOn_iff.1 hdep; exact earl i x hx e he hb
                  have e1 : b.tmps[t]? = a.tmps[t]? := h2 t fun i' o' ho'' hd' hot => by
                    have := dist i' i o' x t ho'' hx hot hxt
                    rw [this, hdi] at hd'; cases hd'
                  have e2 : c.tmps[t]? = a.tmps[t]? := hc2 t fun y hy' hyt => by
                    obtain ⟨i', hi', hio⟩ := List.mem_filterMap.1 hy'
                    have := dist i' i y x t hio hx hyt hxt
                    have := hpre i' hi'; omega
                  rw [e1, e2]
              · rw [h2 t fun i x hx _ hxt => hex ⟨i, x, hx, hxt⟩, hc2 t fun y hy' hyt => by
                  obtain ⟨i', _, hio⟩ := List.mem_filterMap.1 hy'
                  exact hex ⟨i', y, hio, hyt⟩]
            have hns := Region.noSelect_spec hsel
            have hy' : YieldsIn P l.toArray (ClsX W fun w' => Below w.heap.size w w') o v b :=
              hy.of_same (exec_congr (fun cs bb => hns k o cs bb ho') agree) (wanted_congr agree)
            have next : ∀ w', Below w.heap.size w w' → ClosedD l (d.set k) ∧ (Head (d.set k) (b.put o.dst v) w' ∨ Tail (d.set k) (b.put o.dst v) w') := fun w' hw' => by
              have bdst : ∀ t, o.dst = some t → b.tmps[t]? = a.tmps[t]? := fun t hot => h2 t fun i x hx hd hxt => by
                have := dist i k x o t hx ho hxt hot
                rw [this, hdk] at hd; cases hd
              refine ⟨hcs, .inl ⟨fun t htm => ?_, put_defers'.trans h1, fun t hh => ?_, fun i hi x hx hd t hxt => ?_, h4.trans (hw'.mono h4.size), π, fun i hi x hx hd t hxt => ?_, fun i hi hd => ?_, fun i hi j hj hdi hdj => ?_⟩⟩
              · rw [Dn.set_ne d (fun e => qt k hk (by rw [← e]; exact htm))]; exact h0 t htm
              · rw [put_get, if_neg (hh k o ho (Dn.set_same _ _))]
                refine h2 t fun i x hx hd => hh i x hx ?_
                by_cases hik : i = k
                · rw [hik]; exact Dn.set_same _ _
                · rw [Dn.set_ne d hik]; exact hd
              · by_cases hik : i = k
                · subst hik
                  have : x = o := Option.some.inj (hx.symm.trans ho)
                  subst this
                  rw [put_get, if_pos hxt, bdst t hxt, hv t hxt]
                · rw [Dn.set_ne d hik] at hd
                  rw [put_get, if_neg (fun hot => hik (dist i k x o t hx ho hxt hot))]
                  exact h3 i hi x hx hd t hxt
              · have hik : i ≠ k := fun e => qa k hk (by rw [← e]; exact hi)
                rw [Dn.set_ne d hik] at hd
                rw [put_get, if_neg (fun hot => hik (dist i k x o t hx ho hxt hot))]
                exact h5 i hi x hx hd t hxt
              · have hik : i ≠ k := fun e => qa k hk (by rw [← e]; exact hi)
                rw [Dn.set_ne d hik] at hd
                obtain ⟨g1, g2⟩ := h6 i hi hd
                exact ⟨(hw'.block _ (Array.getElem?_eq_some_iff.1 g1).1).trans g1, g2⟩
              · have hik : i ≠ k := fun e => qa k hk (by rw [← e]; exact hi)
                have hjk : j ≠ k := fun e => qa k hk (by rw [← e]; exact hj)
                rw [Dn.set_ne d hik] at hdi; rw [Dn.set_ne d hjk] at hdj
                exact h7 i hi j hj hdi hdj
            rcases hy' with ⟨hw, hall⟩ | ⟨hw, rfl⟩
            · refine wpOp_want ho' hw fun K hK => ?_
              have hcl : ClsX W (fun w' => Below w.heap.size w w') w := clsX_of h4 (Below.refl _ _)
              have h := hall w hcl
              unfold Oper.quietAt at h
              unfold Oper.wp
              generalize (execOp b.eval o).run P w = r at *
              cases r with
              | ok nx w1 =>
                cases nx <;> simp only [Oper.quietUpon] at h <;> simp only [Oper.upon]
                case value u => obtain ⟨e1, e2⟩ := h; rw [e1, e2]; exact hK _ _ (next w (Below.refl _ _))
                case skip => obtain ⟨e1, e2⟩ := h; rw [e1, ← e2]; exact hK _ _ (next w (Below.refl _ _))
                case enter f args =>
                  obtain ⟨e1, hcall⟩ := h
                  rw [e1]
                  exact hcall.mono fun e w'' ⟨he, p, hp⟩ => by subst he; exact hK _ _ (next w'' (by rw [hp]; exact p.ok))
              | halt x w1 => simp only [Oper.quietUpon] at h
            · exact wpOp_skip ho' hw (next w (Below.refl _ _))
          · -- an allocation
            have hns := Region.noSelect_spec hsel
            have agree : ∀ t ∈ o.looksAt l.toArray, b.tmps[t]? = A.tmps[t]? := fun t htl => by
              by_cases hex : ∃ (i : Nat) (x : Oper), l[i]? = some x ∧ x.dst = some t
              · obtain ⟨i, x, hx, hxt⟩ := hex
                rcases look k o (List.mem_append_right _ hk) ho t htl i x hx hxt with ⟨hiq, hdep⟩ | ⟨hdep, hno⟩
                · exact h3 i hiq x hx (pred i hdep) t hxt
                · have hdi := succ i x hx hdep
                  have hiq : i ∉ qs := fun h => hno ⟨hk, h⟩
                  have e1 : b.tmps[t]? = a.tmps[t]? := h2 t fun i' o' ho'' hd' hot => by
                    have := dist i' i o' x t ho'' hx hot hxt
                    rw [this, hdi] at hd'; cases hd'
                  have e2 : A.tmps[t]? = a.tmps[t]? := hAo' t fun i' hi' o' ho'' hot => by
                    have := dist i' i o' x t ho'' hx hot hxt
                    exact hiq (by rw [← this]; exact hi')
                  rw [e1, e2]
              · rw [h2 t fun i x hx _ hxt => hex ⟨i, x, hx, hxt⟩, hAo' t fun i _ x hx hxt => hex ⟨i, x, hx, hxt⟩]
            have hg : o.guard = none := by
              have := List.all_eq_true.1 hag k hk
              simpa [ho] using this
            refine wpOp_want ho' (by simp [Region.wanted, hg]) fun K hK => ?_
            have hrun := hal k hk o ho w h4
            unfold Oper.wp
            rw [exec_congr (fun cs bb => hns k o cs bb ho') agree, hrun, Oper.upon_value]
            refine hK _ _ ⟨hcs, .inl ⟨fun t htm => ?_, put_defers'.trans h1, fun t hh => ?_, fun i hi x hx hd t hxt => ?_, h4.alloc h4.size _, fun i => if i = k then w.heap.size else π i, fun i hi x hx hd t hxt => ?_, fun i hi hd => ?_, fun i hi j hj hdi hdj hij => ?_⟩⟩
            · rw [Dn.set_ne d (fun e => at_ k hk (by rw [← e]; exact htm))]; exact h0 t htm
            · rw [put_get, if_neg (hh k o ho (Dn.set_same _ _))]
              refine h2 t fun i x hx hd => hh i x hx ?_
              by_cases hik : i = k
              · rw [hik]; exact Dn.set_same _ _
              · rw [Dn.set_ne d hik]; exact hd
            · have hik : i ≠ k := fun e => qa i hi (by rw [e]; exact hk)
              rw [Dn.set_ne d hik] at hd
              rw [put_get, if_neg (fun hot => hik (dist i k x o t hx ho hxt hot))]
              exact h3 i hi x hx hd t hxt
            · dsimp only
              by_cases hik : i = k
              · subst hik
                have : x = o := Option.some.inj (hx.symm.trans ho)
                subst this
                have e1 : b.tmps[t]? = a.tmps[t]? := h2 t fun i' o' ho'' hd' hot => by
                  have := dist i' i o' x t ho'' ho hot hxt
                  rw [this, hdk] at hd'; cases hd'
                rw [put_get, if_pos hxt, if_pos rfl, e1]
              · rw [Dn.set_ne d hik] at hd
                rw [put_get, if_neg (fun hot => hik (dist i k x o t hx ho hxt hot)), if_neg hik]
                exact h5 i hi x hx hd t hxt
            · dsimp only
              by_cases hik : i = k
              · subst hik
                rw [if_pos rfl]
                exact ⟨alloc_new_heap w _, h4.size⟩
              · rw [Dn.set_ne d hik] at hd
                rw [if_neg hik]
                obtain ⟨g1, g2⟩ := h6 i hi hd
                exact ⟨(Below.heap_alloc w _ _ (Array.getElem?_eq_some_iff.1 g1).1).trans g1, g2⟩
            · by_cases hik : i = k
              · by_cases hjk : j = k
                · rw [hik, hjk]
                · rw [Dn.set_ne d hjk] at hdj
                  simp only [hik, hjk, if_true, if_false] at hij
                  have := (Array.getElem?_eq_some_iff.1 (h6 j hj hdj).1).1
                  omega
              · rw [Dn.set_ne d hik] at hdi
                by_cases hjk : j = k
                · simp only [hik, hjk, if_true, if_false] at hij
                  have := (Array.getElem?_eq_some_iff.1 (h6 i hi hdi).1).1
                  omega
                · rw [Dn.set_ne d hjk] at hdj
                  simp only [hik, hjk, if_false] at hij
                  exact h7 i hi j hj hdi hdj hij
          · -- the first of the tail
            cases ts with
            | nil => cases hk
            | cons t0 tr =>
              have hkt : k = t0 := by
                rcases List.mem_cons.1 hk with h | h
                · exact h
                · exfalso
                  obtain ⟨pre, post, he⟩ := List.append_of_mem h
                  have chainAt : ∀ (r : List Nat) (t : Nat) (pre : List Nat), chainB l (t :: r) = true → t :: r = pre ++ k :: post → pre ≠ [] → ∃ x ∈ t :: r, depOn o x = true := by
                    intro r
                    induction r with
                    | nil => intro t pre _ he hne; cases pre with
                      | nil => exact absurd rfl hne
                      | cons y ys => simp at he
                    | cons u r ih =>
                      intro t pre hch he hne
                      simp only [chainB, Bool.and_eq_true] at hch
                      cases pre with
                      | nil => exact absurd rfl hne
                      | cons y ys =>
                        simp only [List.cons_append, List.cons.injEq] at he
                        by_cases hys : ys = []
                        · subst hys
                          simp only [List.nil_append, List.cons.injEq] at he
                          obtain ⟨_, rfl, _⟩ := he
                          rw [ho] at hch
                          exact ⟨t, List.mem_cons_self, hch.1⟩
                        · obtain ⟨x, hx, hd⟩ := ih u ys hch.2 he.2 hys
                          exact ⟨x, List.mem_cons_of_mem _ hx, hd⟩
                  obtain ⟨x, hx, hd⟩ := chainAt tr t0 (t0 :: pre) hchain (by rw [he]; rfl) (by simp)
                  have := pred x hd
                  rw [h0 x hx] at this; cases this
              subst hkt
              have hall : ∀ i, i ∈ qs ++ al → d i = true := fun i hi => reach_done hc _ k i o ho hp (List.all_eq_true.1 htail i hi)
              refine wpOp_mono (fun b' w' h' => ⟨hcs, .inr h'⟩) (tailStep d b w k o [] tr ho rfl hall (fun _ h => by cases h) (fun t htm => h0 t (List.mem_cons_of_mem _ htm)) (headDone d b w hH' hall))
        · -- within the tail
          obtain ⟨hall, pre, post, hts, hpre, hpost, hw⟩ := hT
          have hkt : k ∈ ts := by
            rcases mem_all k hkl with h | h | h
            · have := hall k (List.mem_append_left _ h); rw [hdk] at this; cases this
            · have := hall k (List.mem_append_right _ h); rw [hdk] at this; cases this
            · exact h
          have hkp : k ∈ post := by
            rw [hts] at hkt
            rcases List.mem_append.1 hkt with h | h
            · have := hpre k h; rw [hdk] at this; cases this
            · exact h
          cases post with
          | nil => cases hkp
          | cons u r =>
            have hku : k = u := by
              rcases List.mem_cons.1 hkp with h | h
              · exact h
              · exfalso
                obtain ⟨p1, p2, he⟩ := List.append_of_mem h
                have chainAt : ∀ (r : List Nat) (t : Nat), chainB l (t :: r) = true → k ∈ r → ∃ x ∈ t :: r, depOn o x = true ∧ ((x :: [k]).Sublist (t :: r)) := by
                  intro r
                  induction r with
                  | nil => intro t _ hkr; cases hkr
                  | cons u r ih =>
                    intro t hch hkr
                    simp only [chainB, Bool.and_eq_true] at hch
                    rcases List.mem_cons.1 hkr with h | h
                    · subst h
                      rw [ho] at hch
                      exact ⟨t, List.mem_cons_self, hch.1, by simp⟩
                    · obtain ⟨x, hx, hd, hs⟩ := ih u hch.2 h
                      exact ⟨x, List.mem_cons_of_mem _ hx, hd, hs.cons _⟩
                have chainDrop : ∀ (p q : List Nat), chainB l (p ++ q) = true → chainB l q = true := by
                  intro p
                  induction p with
                  | nil => intro q h; exact h
                  | cons x p ih =>
                    intro q h
                    refine ih q ?_
                    cases hpq : p ++ q with
                    | nil => rfl
                    | cons y ys => rw [List.cons_append, hpq] at h; simp only [chainB, Bool.and_eq_true] at h; exact h.2
                obtain ⟨x, hx, hd, _⟩ := chainAt r u (chainDrop pre _ (hts ▸ hchain)) h
                have := pred x hd
                rw [hpost x hx] at this; cases this
            subst hku
            exact wpOp_mono (fun b' w' h' => ⟨hcs, .inr h'⟩) (tailStep d b w k o pre r ho hts hall hpre (fun t htm => hpost t (List.mem_cons_of_mem _ htm)) hw)
    exact steps 0 l fun i o ho => by rw [Nat.zero_add]; exact ho
  · rintro d b w ⟨hc, hH | hT⟩ hall
    · have hall' : ∀ i, i ∈ qs ++ al → d i = true := fun i hi => hall i (ind i (by simpa using (by rcases List.mem_append.1 hi with h | h; exact .inl h; exact .inr (.inl h) : i ∈ qs ∨ i ∈ al ∨ i ∈ ts)))
      have h := headDone d b w hH hall'
      cases ts with
      | nil => exact h
      | cons t r =>
        have := hH.1 t List.mem_cons_self
        rw [hall t (ind t (by simp))] at this; cases this
    · obtain ⟨_, pre, post, hts, _, hpost, hw⟩ := hT
      cases post with
      | nil => exact hw
      | cons t r =>
        have := hpost t List.mem_cons_self
        rw [hall t (ind t (by rw [hts]; simp))] at this; cases this
end
end Go.Proofs.YtgmabjlehjpboaaDoor.K
