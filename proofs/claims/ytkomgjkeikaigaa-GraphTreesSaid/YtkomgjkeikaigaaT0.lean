/- Proved: plain facts on tables of who hears whom: depths and islands. Conditions: those that each theorem names. -/
import Derived.Test.YtkomgjkeikaigaaG0
namespace Go.Proofs.Ytkomgjkeikaigaa
set_option linter.unusedVariables false

theorem nodup_len {n : Nat} {S : List Nat} (hs : S.Nodup) (hr : ∀ x ∈ S, x < n) : S.length ≤ n := by
  rcases Nat.lt_or_ge n S.length with h | h
  · obtain ⟨a, b, hab, hb, he⟩ := pigeon n (fun i => S.getD i 0) (fun i hi => by
      show S.getD i 0 < n
      rw [List.getD_eq_getElem?_getD, List.getElem?_eq_getElem (by omega)]; exact hr _ (List.getElem_mem _))
    have ha' : a < S.length := by omega
    have hb' : b < S.length := by omega
    simp only [List.getD_eq_getElem?_getD, List.getElem?_eq_getElem ha', List.getElem?_eq_getElem hb', Option.getD_some] at he
    exact absurd he (List.pairwise_iff_getElem.1 hs a b ha' hb' hab)
  · exact h
abbrev Tab := List (List Bool)
def hb (h : Tab) (i k : Nat) : Bool := (h.getD i []).getD k false
def Valid (h : Tab) : Prop := h.length ≤ 60 ∧ (∀ i, i < h.length → (h.getD i []).length = h.length) ∧ (∀ i, i < h.length → ∀ k, k < h.length → hb h i k = hb h k i) ∧ ∀ i, i < h.length → hb h i i = false
noncomputable instance (h : Tab) : Decidable (Valid h) := Classical.propDecidable _
noncomputable def validB (h : Tab) : Bool := decide (Valid h)
theorem valid_of {h : Tab} (hv : validB h = true) : Valid h := of_decide_eq_true hv
theorem valid_true {h : Tab} (hv : Valid h) : validB h = true := by unfold validB; exact decide_eq_true hv
theorem valid_false {h : Tab} (hv : ¬ Valid h) : validB h = false := by unfold validB; exact decide_eq_false hv
/-- The number of a node. -/
def at' (o : List Int) (i : Nat) : Int := o.getD i 0
theorem at_set (o : List Int) (i j : Nat) (x : Int) : at' (o.set i x) j = if i = j ∧ i < o.length then x else at' o j := getD_set o 0 i j x

/-! ### depths -/
structure DepthOk (h : Tab) (root : Nat) (o : List Int) : Prop where
  len : o.length = h.length
  rng : ∀ i, i < h.length → -1 ≤ at' o i
  zero : ∀ i, i < h.length → (at' o i = 0 ↔ i = root)
  pred : ∀ i, i < h.length → 0 < at' o i → ∃ k, k < h.length ∧ hb h i k = true ∧ at' o k = at' o i - 1
  near : ∀ i, i < h.length → ∀ k, k < h.length → hb h i k = true → 0 ≤ at' o i → 0 ≤ at' o k ∧ at' o k ≤ at' o i + 1
theorem depth_le {h : Tab} {root : Nat} {a b : List Int} (hv : Valid h) (ha : DepthOk h root a) (hb' : DepthOk h root b) : ∀ (d : Nat) (i : Nat), i < h.length → at' a i = d → 0 ≤ at' b i ∧ at' b i ≤ d
  | 0, i, hi, e => by
    have := (hb'.zero i hi).2 ((ha.zero i hi).1 (by omega)); omega
  | d + 1, i, hi, e => by
    obtain ⟨k, hk, h1, h2⟩ := ha.pred i hi (by omega)
    obtain ⟨h3, h4⟩ := depth_le hv ha hb' d k hk (by omega)
    have := hb'.near k hk i hi (by rw [← hv.2.2.1 i hi k hk]; exact h1) h3
    omega
theorem depth_unique {h : Tab} {root : Nat} {a b : List Int} (hv : Valid h) (ha : DepthOk h root a) (hb' : DepthOk h root b) : a = b := by
  refine List.ext_getElem (by rw [ha.len, hb'.len]) fun i h1 h2 => ?_
  have hi : i < h.length := by rw [← ha.len]; exact h1
  have e : at' a i = at' b i := by
    have r1 := ha.rng i hi; have r2 := hb'.rng i hi
    by_cases h3 : 0 ≤ at' a i
    · have h4 := depth_le hv ha hb' (at' a i).toNat i hi (by omega)
      have h5 := depth_le hv hb' ha (at' b i).toNat i hi (by omega)
      omega
    · by_cases h4 : 0 ≤ at' b i
      · have h5 := depth_le hv hb' ha (at' b i).toNat i hi (by omega); omega
      · omega
  unfold at' at e
  rw [List.getD_eq_getElem?_getD, List.getD_eq_getElem?_getD, List.getElem?_eq_getElem h1, List.getElem?_eq_getElem h2] at e
  exact e
noncomputable def depthV (h : Tab) (root : Nat) : List Int := @dite _ (∃ o, DepthOk h root o) (Classical.propDecidable _) (fun e => Classical.choose e) (fun _ => [])
theorem depth_eq {h : Tab} {root : Nat} {o : List Int} (hv : Valid h) (ho : DepthOk h root o) : depthV h root = o := by
  have e : ∃ o, DepthOk h root o := ⟨o, ho⟩
  unfold depthV; rw [dif_pos e]
  exact depth_unique hv (Classical.choose_spec e) ho

/-! ### the reference: level by level -/
def step3 (h : Tab) (d : Int) (o : List Int) (i k : Nat) : List Int := if at' o i < 0 ∧ hb h i k = true ∧ at' o k = d - 1 then o.set i d else o
def rowTo (h : Tab) (d : Int) (o : List Int) (i : Nat) : Nat → List Int
  | 0 => o
  | k + 1 => step3 h d (rowTo h d o i k) i k
def sweepTo (h : Tab) (d : Int) (o : List Int) : Nat → List Int
  | 0 => o
  | i + 1 => rowTo h d (sweepTo h d o i) i h.length
def levelTo (h : Tab) (o : List Int) : Nat → List Int
  | 0 => o
  | d + 1 => sweepTo h ((d : Int) + 1) (levelTo h o d) h.length
theorem step3_len {h : Tab} {d : Int} {o : List Int} {i k : Nat} : (step3 h d o i k).length = o.length := by unfold step3; split <;> simp
theorem rowTo_len {h : Tab} {d : Int} {o : List Int} {i : Nat} : ∀ k, (rowTo h d o i k).length = o.length
  | 0 => rfl
  | k + 1 => by rw [rowTo, step3_len, rowTo_len k]
theorem sweepTo_len {h : Tab} {d : Int} {o : List Int} : ∀ i, (sweepTo h d o i).length = o.length
  | 0 => rfl
  | i + 1 => by rw [sweepTo, rowTo_len, sweepTo_len i]
theorem levelTo_len {h : Tab} {o : List Int} : ∀ d, (levelTo h o d).length = o.length
  | 0 => rfl
  | d + 1 => by rw [levelTo, sweepTo_len, levelTo_len d]
open Classical in
theorem rowTo_at {h : Tab} {d : Int} {o : List Int} {i : Nat} (hd : 0 ≤ d) (hi : i < o.length) : ∀ k j, at' (rowTo h (d + 1) o i k) j = if j = i ∧ at' o i < 0 ∧ ∃ q, q < k ∧ hb h i q = true ∧ at' o q = d then d + 1 else at' o j
  | 0, j => by rw [if_neg (by rintro ⟨_, _, q, hq, _⟩; omega)]; rfl
  | k + 1, j => by
    have ih := rowTo_at (h := h) hd hi k
    unfold rowTo step3
    have e1 : at' (rowTo h (d + 1) o i k) k = d ↔ at' o k = d := by
      rw [ih k]; split
      · rename_i hh; obtain ⟨rfl, h2, _⟩ := hh; omega
      · rfl
    by_cases c1 : at' o i < 0 ∧ ∃ q, q < k ∧ hb h i q = true ∧ at' o q = d
    · have e2 : at' (rowTo h (d + 1) o i k) i = d + 1 := by rw [ih i, if_pos ⟨rfl, c1⟩]
      rw [if_neg (by rw [e2]; omega), ih j]
      obtain ⟨c2, q, c3, c4⟩ := c1
      by_cases hj : j = i
      · rw [if_pos ⟨hj, c2, q, c3, c4⟩, if_pos ⟨hj, c2, q, by omega, c4⟩]
      · rw [if_neg (fun x => hj x.1), if_neg (fun x => hj x.1)]
    · have e2 : at' (rowTo h (d + 1) o i k) i = at' o i := by rw [ih i, if_neg (fun x => c1 x.2)]
      have e3 : ∀ j, at' (rowTo h (d + 1) o i k) j = at' o j := fun j => by rw [ih j, if_neg (fun x => c1 x.2)]
      rw [e2, show d + 1 - 1 = d by omega, e3]
      by_cases c2 : at' o i < 0 ∧ hb h i k = true ∧ at' o k = d
      · rw [if_pos c2, at_set, rowTo_len, e3]
        by_cases hj : j = i
        · subst hj; rw [if_pos ⟨rfl, hi⟩, if_pos ⟨rfl, c2.1, k, by omega, c2.2⟩]
        · rw [if_neg (fun x => hj x.1.symm), if_neg (fun x => hj x.1)]
      · rw [if_neg c2, e3, if_neg]
        rintro ⟨_, c3, q, hq, c4⟩
        rcases Nat.lt_or_ge q k with hq' | hq'
        · exact c1 ⟨c3, q, hq', c4⟩
        · have : q = k := by omega
          subst this; exact c2 ⟨c3, c4⟩
open Classical in
theorem sweepTo_at {h : Tab} {d : Int} {o : List Int} (hd : 0 ≤ d) (ho : o.length = h.length) : ∀ m, m ≤ h.length → ∀ j, at' (sweepTo h (d + 1) o m) j = if j < m ∧ at' o j < 0 ∧ ∃ q, q < h.length ∧ hb h j q = true ∧ at' o q = d then d + 1 else at' o j
  | 0, _, j => by rw [if_neg (by omega)]; rfl
  | m + 1, hm, j => by
    have ih := sweepTo_at (h := h) hd ho m (by omega)
    rw [sweepTo, rowTo_at hd (by rw [sweepTo_len, ho]; omega)]
    have e1 : ∀ q, at' (sweepTo h (d + 1) o m) q = d ↔ at' o q = d := fun q => by
      rw [ih q]; split
      · rename_i hh; omega
      · rfl
    have e2 : at' (sweepTo h (d + 1) o m) m = at' o m := by rw [ih m, if_neg (by omega)]
    simp only [e1, e2]
    by_cases hj : j = m
    · subst hj
      rw [ih j, if_neg (show ¬ (j < j ∧ _) from fun x => by omega)]
      by_cases c : at' o j < 0 ∧ ∃ q, q < h.length ∧ hb h j q = true ∧ at' o q = d
      · rw [if_pos ⟨rfl, c⟩, if_pos ⟨by omega, c⟩]
      · rw [if_neg (fun x => c x.2), if_neg (fun x => c x.2)]
    · rw [if_neg (fun x => hj x.1), ih j]
      by_cases hjm : j < m
      · by_cases c : at' o j < 0 ∧ ∃ q, q < h.length ∧ hb h j q = true ∧ at' o q = d
        · rw [if_pos ⟨hjm, c⟩, if_pos ⟨by omega, c⟩]
        · rw [if_neg (fun x => c x.2), if_neg (fun x => c x.2)]
      · rw [if_neg (fun x => hjm x.1), if_neg (fun x => by omega)]
def startD (h : Tab) (root : Nat) : List Int := (List.replicate h.length (-1)).set root 0
theorem startD_at {h : Tab} {root : Nat} (hr : root < h.length) (i : Nat) (hi : i < h.length) : at' (startD h root) i = if i = root then 0 else -1 := by
  unfold startD; rw [at_set]
  by_cases e : root = i
  · rw [if_pos ⟨e, by simpa using hr⟩, if_pos e.symm]
  · rw [if_neg (fun x => e x.1), if_neg (fun x => e x.symm)]
    unfold at'; rw [List.getD_eq_getElem?_getD, List.getElem?_replicate, if_pos hi]; rfl
structure LevelOk (h : Tab) (root : Nat) (d : Nat) (o : List Int) : Prop where
  len : o.length = h.length
  rng : ∀ i, i < h.length → -1 ≤ at' o i ∧ at' o i ≤ d
  zero : ∀ i, i < h.length → (at' o i = 0 ↔ i = root)
  pred : ∀ i, i < h.length → 0 < at' o i → ∃ k, k < h.length ∧ hb h i k = true ∧ at' o k = at' o i - 1
  near : ∀ i, i < h.length → ∀ k, k < h.length → hb h i k = true → 0 ≤ at' o i → at' o i < d → 0 ≤ at' o k ∧ at' o k ≤ at' o i + 1
theorem level_ok {h : Tab} {root : Nat} (hv : Valid h) (hr : root < h.length) : ∀ d, LevelOk h root d (levelTo h (startD h root) d)
  | 0 => by
    have e := startD_at hr
    refine ⟨by simp [levelTo, startD], fun i hi => ?_, fun i hi => ?_, fun i hi hp => ?_, fun i hi k hk _ h1 h2 => ?_⟩ <;> simp only [levelTo] at * <;> rw [e i hi] at * <;> split at * <;> first | omega | simp_all
  | d + 1 => by
    have L := level_ok hv hr d
    obtain ⟨o, ho⟩ : ∃ o, o = levelTo h (startD h root) d := ⟨_, rfl⟩
    rw [← ho] at L
    have S : ∀ j, j < h.length → _ := fun j hj => sweepTo_at (h := h) (d := (d : Int)) (o := o) (by omega) L.len h.length (Nat.le_refl _) j
    rw [levelTo, ← ho]
    obtain ⟨o', ho'⟩ : ∃ o', o' = sweepTo h ((d : Int) + 1) o h.length := ⟨_, rfl⟩
    rw [← ho'] at S ⊢
    have new : ∀ j, j < h.length → at' o' j = at' o j ∨ (at' o j < 0 ∧ at' o' j = d + 1 ∧ ∃ q, q < h.length ∧ hb h j q = true ∧ at' o q = d) := fun j hj => by
      have := S j hj; split at this
      · rename_i hh; exact .inr ⟨hh.2.1, this, hh.2.2⟩
      · exact .inl this
    have old : ∀ j, j < h.length → 0 ≤ at' o j → at' o' j = at' o j := fun j hj h0 => (new j hj).resolve_right (fun x => by omega)
    refine ⟨by rw [ho', sweepTo_len, L.len], fun i hi => ?_, fun i hi => ?_, fun i hi hp => ?_, fun i hi k hk h1 h2 h3 => ?_⟩
    · have := L.rng i hi; rcases new i hi with e | e <;> omega
    · rw [← L.zero i hi]; rcases new i hi with e | ⟨e1, e2, _⟩ <;> omega
    · rcases new i hi with e | ⟨e1, e2, q, hq, e3, e4⟩
      · rw [e] at hp ⊢
        obtain ⟨k, hk, h1, h2⟩ := L.pred i hi hp
        exact ⟨k, hk, h1, by rw [old k hk (by omega)]; exact h2⟩
      · exact ⟨q, hq, e3, by rw [old q hq (by omega)]; omega⟩
    · have ei : at' o' i = at' o i := (new i hi).resolve_right (fun x => by omega)
      rw [ei] at h2 h3 ⊢
      by_cases hlt : at' o i < d
      · have := L.near i hi k hk h1 h2 hlt
        rw [old k hk this.1]; exact this
      · have hd : at' o i = d := by omega
        rcases new k hk with e | e
        · have r := L.rng k hk
          by_cases h4 : 0 ≤ at' o k
          · omega
          · exfalso
            have s := S k hk
            rw [if_pos ⟨hk, by omega, i, hi, by rw [← hv.2.2.1 i hi k hk]; exact h1, hd⟩] at s
            omega
        · omega
/-- A node of each lesser depth. -/
theorem depth_chain {h : Tab} {root d : Nat} {o : List Int} (L : LevelOk h root d o) : ∀ (e : Nat) (i : Nat), i < h.length → at' o i = e → ∀ f, f ≤ e → ∃ k, k < h.length ∧ at' o k = (f : Int)
  | 0, i, hi, he, f, hf => ⟨i, hi, by omega⟩
  | e + 1, i, hi, he, f, hf => by
    rcases Nat.lt_or_ge e f with h1 | h1
    · exact ⟨i, hi, by omega⟩
    · obtain ⟨k, hk, _, h2⟩ := L.pred i hi (by omega)
      exact depth_chain L e k hk (by omega) f h1
theorem ref_depth {h : Tab} {root : Nat} (hv : Valid h) (hr : root < h.length) : DepthOk h root (levelTo h (startD h root) (h.length - 1)) := by
  have L := level_ok hv hr (h.length - 1)
  refine ⟨L.len, fun i hi => (L.rng i hi).1, L.zero, L.pred, fun i hi k hk h1 h2 => ?_⟩
  by_cases hlt : at' (levelTo h (startD h root) (h.length - 1)) i < (h.length - 1 : Nat)
  · exact L.near i hi k hk h1 h2 hlt
  · have r := L.rng i hi; have rk := L.rng k hk
    refine ⟨?_, by omega⟩
    refine Classical.byContradiction fun hk0 => ?_
    have hc := depth_chain L (h.length - 1) i hi (by omega)
    have hc' : ∀ f, ∃ q, q < h.length ∧ (f < h.length → at' (levelTo h (startD h root) (h.length - 1)) q = (f : Int)) ∧ (¬ f < h.length → q = k) := fun f => by
      by_cases hf : f < h.length
      · obtain ⟨q, h3, h4⟩ := hc f (by omega); exact ⟨q, h3, fun _ => h4, fun x => absurd hf x⟩
      · exact ⟨k, hk, fun x => absurd x hf, fun _ => rfl⟩
    obtain ⟨a, b, hab, hb', he⟩ := pigeon h.length (fun f => Classical.choose (hc' f)) (fun f _ => (Classical.choose_spec (hc' f)).1)
    have ha2 := (Classical.choose_spec (hc' a)).2.1 (by omega)
    by_cases hbn : b < h.length
    · have hb2 := (Classical.choose_spec (hc' b)).2.1 hbn
      rw [he, hb2] at ha2; omega
    · have hb2 := (Classical.choose_spec (hc' b)).2.2 hbn
      rw [he, hb2] at ha2; omega

/-! ### the queue -/
structure BfsInv (h : Tab) (root : Nat) (o : List Int) (q dn : List Nat) : Prop where
  len : o.length = h.length
  rng : ∀ i, i < h.length → -1 ≤ at' o i
  zero : ∀ i, i < h.length → (at' o i = 0 ↔ i = root)
  pred : ∀ i, i < h.length → 0 < at' o i → ∃ k, k < h.length ∧ hb h i k = true ∧ at' o k = at' o i - 1
  nodup : (dn ++ q).Nodup
  mem : ∀ i, i ∈ dn ++ q ↔ i < h.length ∧ 0 ≤ at' o i
  closed : ∀ i, i ∈ dn → ∀ k, k < h.length → hb h i k = true → 0 ≤ at' o k ∧ at' o k ≤ at' o i + 1
  sorted : q.Pairwise (fun a b => at' o a ≤ at' o b)
  bound : ∀ x, x ∈ q → ∀ j, j < h.length → at' o j ≤ at' o x + 1
  val : ∀ j, j < h.length → at' o j ≤ dn.length
structure Inner (h : Tab) (root : Nat) (o : List Int) (q dn : List Nat) (i k : Nat) : Prop where
  len : o.length = h.length
  rng : ∀ i, i < h.length → -1 ≤ at' o i
  zero : ∀ i, i < h.length → (at' o i = 0 ↔ i = root)
  pred : ∀ i, i < h.length → 0 < at' o i → ∃ k, k < h.length ∧ hb h i k = true ∧ at' o k = at' o i - 1
  nodup : (dn ++ q).Nodup
  mem : ∀ i, i ∈ dn ++ q ↔ i < h.length ∧ 0 ≤ at' o i
  mine : i ∈ dn
  closed : ∀ x, x ∈ dn → x ≠ i → ∀ k, k < h.length → hb h x k = true → 0 ≤ at' o k ∧ at' o k ≤ at' o x + 1
  part : ∀ j, j < k → j < h.length → hb h i j = true → 0 ≤ at' o j ∧ at' o j ≤ at' o i + 1
  sorted : q.Pairwise (fun a b => at' o a ≤ at' o b)
  low : ∀ x, x ∈ q → at' o i ≤ at' o x
  bound : ∀ j, j < h.length → at' o j ≤ at' o i + 1
  val : ∀ j, j < h.length → at' o j ≤ dn.length
  val1 : at' o i + 1 ≤ dn.length
theorem bfs_start {h : Tab} {root : Nat} (hr : root < h.length) : BfsInv h root (startD h root) [root] [] := by
  have e := startD_at hr
  refine ⟨by simp [startD], fun i hi => ?_, fun i hi => ?_, fun i hi hp => ?_, by simp, fun i => ?_, fun i hi => by simp at hi, by simp, fun x hx j hj => ?_, fun j hj => ?_⟩
  · rw [e i hi]; split <;> omega
  · rw [e i hi]; split <;> simp_all
  · rw [e i hi] at hp; split at hp <;> omega
  · simp only [List.nil_append, List.mem_singleton]
    constructor
    · rintro rfl; rw [e i hr]; exact ⟨hr, by simp⟩
    · rintro ⟨h1, h2⟩; rw [e i h1] at h2; split at h2 <;> first | assumption | omega
  · rw [List.mem_singleton] at hx; subst hx; rw [e x hr, e j hj]; split <;> split <;> omega
  · rw [e j hj]; split <;> simp
theorem bfs_pop {h : Tab} {root i : Nat} {o : List Int} {q dn : List Nat} (B : BfsInv h root o (i :: q) dn) : i < h.length ∧ 0 ≤ at' o i ∧ Inner h root o q (dn ++ [i]) i 0 := by
  have hi := (B.mem i).1 (by simp)
  refine ⟨hi.1, hi.2, ⟨B.len, B.rng, B.zero, B.pred, by simpa using B.nodup, fun x => by rw [← B.mem x]; simp, by simp, fun x hx hne => ?_, fun j hj => absurd hj (Nat.not_lt_zero _), (List.pairwise_cons.1 B.sorted).2, (List.pairwise_cons.1 B.sorted).1, B.bound i (by simp), fun j hj => ?_, ?_⟩⟩
  · rw [List.mem_append, List.mem_singleton] at hx
    exact B.closed x (hx.resolve_right hne)
  · have := B.val j hj; simp; omega
  · have := B.val i hi.1; simp; omega
theorem inner_skip {h : Tab} {root i k : Nat} {o : List Int} {q dn : List Nat} (I : Inner h root o q dn i k) (hs : hb h i k = false ∨ 0 ≤ at' o k) : Inner h root o q dn i (k + 1) :=
  ⟨I.len, I.rng, I.zero, I.pred, I.nodup, I.mem, I.mine, I.closed, fun j hj hn hb' => by
    rcases Nat.lt_or_ge j k with h1 | h1
    · exact I.part j h1 hn hb'
    · have : j = k := by omega
      subst this
      rcases hs with hs | hs
      · rw [hs] at hb'; cases hb'
      · exact ⟨hs, I.bound j hn⟩, I.sorted, I.low, I.bound, I.val, I.val1⟩
theorem inner_room {h : Tab} {root i k : Nat} {o : List Int} {q dn : List Nat} (I : Inner h root o q dn i k) (hk : k < h.length) (hu : at' o k < 0) : dn.length + q.length + 1 ≤ h.length := by
  have : (k :: (dn ++ q)).Nodup := List.nodup_cons.2 ⟨fun hx => by have := ((I.mem k).1 hx).2; omega, I.nodup⟩
  have := nodup_len (n := h.length) this (fun x hx => by
    rcases List.mem_cons.1 hx with rfl | hx
    · exact hk
    · exact ((I.mem x).1 hx).1)
  simp at this; omega
theorem inner_take {h : Tab} {root i k : Nat} {o : List Int} {q dn : List Nat} (hv : Valid h) (I : Inner h root o q dn i k) (hk : k < h.length) (hh : hb h i k = true) (hu : at' o k < 0) : Inner h root (o.set k (at' o i + 1)) (q ++ [k]) dn i (k + 1) := by
  have hin := (I.mem i).1 (List.mem_append_left _ I.mine)
  have hik : k ≠ i := fun e => by rw [e] at hu; omega
  have E : ∀ j, at' (o.set k (at' o i + 1)) j = if k = j then at' o i + 1 else at' o j := fun j => by
    rw [at_set]
    by_cases e : k = j
    · rw [if_pos ⟨e, by rw [I.len]; exact hk⟩, if_pos e]
    · rw [if_neg (fun x => e x.1), if_neg e]
  have Eo : ∀ j, 0 ≤ at' o j → at' (o.set k (at' o i + 1)) j = at' o j := fun j hj => by rw [E, if_neg (fun e => by rw [← e] at hj; omega)]
  have Ei := Eo i hin.2
  have kn : k ∉ dn ++ q := fun hx => by have := ((I.mem k).1 hx).2; omega
  refine ⟨by rw [List.length_set, I.len], fun j hj => ?_, fun j hj => ?_, fun j hj hp => ?_, ?_, fun x => ?_, I.mine, fun x hx hne j hj hb' => ?_, fun j hj hn hb' => ?_, ?_, fun x hx => ?_, fun j hj => ?_, fun j hj => ?_, by rw [Ei]; exact I.val1⟩
  · rw [E]; split
    · omega
    · exact I.rng j hj
  · rw [E]; split
    · rename_i e; subst e; rw [← I.zero k hk]; omega
    · exact I.zero j hj
  · by_cases e : k = j
    · subst e
      refine ⟨i, hin.1, by rw [hv.2.2.1 k hk i hin.1]; exact hh, ?_⟩
      rw [Ei, E k, if_pos rfl]; omega
    · have hp' : 0 < at' o j := by rw [E, if_neg e] at hp; exact hp
      obtain ⟨m, hm, h1, h2⟩ := I.pred j hj hp'
      refine ⟨m, hm, h1, ?_⟩
      rw [Eo m (by omega), E j, if_neg e]; exact h2
  · rw [← List.append_assoc, List.nodup_append]
    refine ⟨I.nodup, by simp, fun a ha b hb' => ?_⟩
    rw [List.mem_singleton] at hb'; subst hb'
    exact fun e => kn (by rw [← e]; exact ha)
  · rw [← List.append_assoc, List.mem_append, List.mem_singleton, I.mem x]
    constructor
    · rintro (⟨h1, h2⟩ | rfl)
      · exact ⟨h1, by rw [Eo x h2]; exact h2⟩
      · exact ⟨hk, by rw [E, if_pos rfl]; omega⟩
    · rintro ⟨h1, h2⟩
      by_cases e : k = x
      · exact .inr e.symm
      · rw [E, if_neg e] at h2; exact .inl ⟨h1, h2⟩
  · have hx' := (I.mem x).1 (List.mem_append_left _ hx)
    have := I.closed x hx hne j hj hb'
    rw [Eo j this.1, Eo x hx'.2]; exact this
  · rw [Ei]
    rcases Nat.lt_or_ge j k with h1 | h1
    · have := I.part j h1 hn hb'; rw [Eo j this.1]; exact this
    · have : k = j := by omega
      subst this; rw [E, if_pos rfl]; omega
  · rw [List.pairwise_append]
    refine ⟨I.sorted.imp_of_mem fun {a b} ha hb' hab => ?_, List.pairwise_singleton _ _, fun a ha b hb' => ?_⟩
    · rw [Eo a ((I.mem a).1 (List.mem_append_right _ ha)).2, Eo b ((I.mem b).1 (List.mem_append_right _ hb')).2]; exact hab
    · rw [List.mem_singleton] at hb'; subst hb'
      have ha' := (I.mem a).1 (List.mem_append_right _ ha)
      rw [Eo a ha'.2, E b, if_pos rfl]; exact I.bound a ha'.1
  · rw [Ei]
    rw [List.mem_append, List.mem_singleton] at hx
    rcases hx with hx | rfl
    · rw [Eo x ((I.mem x).1 (List.mem_append_right _ hx)).2]; exact I.low x hx
    · rw [E, if_pos rfl]; omega
  · rw [Ei, E]; split
    · omega
    · exact I.bound j hj
  · rw [E]; split
    · exact I.val1
    · exact I.val j hj
theorem inner_end {h : Tab} {root i k : Nat} {o : List Int} {q dn : List Nat} (I : Inner h root o q dn i k) (hk : h.length ≤ k) : BfsInv h root o q dn := by
  refine ⟨I.len, I.rng, I.zero, I.pred, I.nodup, I.mem, fun x hx j hj hb' => ?_, I.sorted, fun x hx j hj => ?_, I.val⟩
  · by_cases e : x = i
    · subst e; exact I.part j (by omega) hj hb'
    · exact I.closed x hx e j hj hb'
  · have := I.low x hx; have := I.bound j hj; omega
theorem bfs_done {h : Tab} {root : Nat} {o : List Int} {dn : List Nat} (B : BfsInv h root o [] dn) : DepthOk h root o :=
  ⟨B.len, B.rng, B.zero, B.pred, fun i hi k hk hb' h0 => B.closed i (by have := (B.mem i).2 ⟨hi, h0⟩; simpa using this) k hk hb'⟩
theorem bfs_count {h : Tab} {root : Nat} {o : List Int} {q dn : List Nat} (B : BfsInv h root o q dn) : dn.length + q.length ≤ h.length := by
  have := nodup_len (n := h.length) B.nodup (fun x hx => ((B.mem x).1 hx).1)
  simpa using this
end Go.Proofs.Ytkomgjkeikaigaa
