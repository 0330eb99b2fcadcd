/- Proved: plain facts on islands: least numbers by rounds, and by visiting. Conditions: those that each theorem names. -/
import Derived.Test.YtkomgjkeikaigaaT0
namespace Go.Proofs.Ytkomgjkeikaigaa
set_option linter.unusedVariables false

inductive Conn (h : Tab) : Nat → Nat → Prop
  | refl (i : Nat) : Conn h i i
  | step {i j k : Nat} : Conn h i j → k < h.length → hb h j k = true → Conn h i k
theorem Conn.lt {h : Tab} {i k : Nat} (c : Conn h i k) (hi : i < h.length) : k < h.length := by cases c <;> assumption
theorem Conn.trans {h : Tab} {i j k : Nat} (a : Conn h i j) (b : Conn h j k) : Conn h i k := by
  induction b with
  | refl => exact a
  | step _ hk hh ih => exact .step ih hk hh
theorem Conn.symm {h : Tab} (hv : Valid h) {i k : Nat} (c : Conn h i k) (hi : i < h.length) : Conn h k i := by
  induction c with
  | refl => exact .refl _
  | @step j k c hk hh ih =>
    have hj := c.lt hi
    exact Conn.trans (.step (.refl k) hj (by rw [hv.2.2.1 k hk j hj]; exact hh)) ih
structure IsleOk (h : Tab) (o : List Int) : Prop where
  len : o.length = h.length
  rng : ∀ i, i < h.length → 0 ≤ at' o i ∧ at' o i ≤ i
  conn : ∀ i, i < h.length → Conn h i (at' o i).toNat
  near : ∀ i, i < h.length → ∀ k, k < h.length → hb h i k = true → at' o i = at' o k
theorem IsleOk.same {h : Tab} {o : List Int} (L : IsleOk h o) {i k : Nat} (c : Conn h i k) (hi : i < h.length) : at' o i = at' o k := by
  induction c with
  | refl => rfl
  | @step j k c hk hh ih => rw [ih]; exact L.near j (c.lt hi) k hk hh
theorem IsleOk.iff {h : Tab} {o : List Int} (hv : Valid h) (L : IsleOk h o) {i k : Nat} (hi : i < h.length) (hk : k < h.length) : at' o i = at' o k ↔ Conn h i k :=
  ⟨fun e => (L.conn i hi).trans (by rw [e]; exact (L.conn k hk).symm hv hk), fun c => L.same c hi⟩
theorem isle_unique {h : Tab} {a b : List Int} (hv : Valid h) (ha : IsleOk h a) (hb' : IsleOk h b) : a = b := by
  have le : ∀ {a b : List Int}, IsleOk h a → IsleOk h b → ∀ i, i < h.length → at' b i ≤ at' a i := fun {a b} ha hb' i hi => by
    have r := ha.rng i hi
    have hl : (at' a i).toNat < h.length := by omega
    have := hb'.same (ha.conn i hi) hi
    have := hb'.rng _ hl
    omega
  refine List.ext_getElem (by rw [ha.len, hb'.len]) fun i h1 h2 => ?_
  have hi : i < h.length := by rw [← ha.len]; exact h1
  have e : at' a i = at' b i := by have := le ha hb' i hi; have := le hb' ha i hi; omega
  unfold at' at e
  rw [List.getD_eq_getElem?_getD, List.getD_eq_getElem?_getD, List.getElem?_eq_getElem h1, List.getElem?_eq_getElem h2] at e
  exact e
noncomputable def isleV (h : Tab) : List Int := @dite _ (∃ o, IsleOk h o) (Classical.propDecidable _) (fun e => Classical.choose e) (fun _ => [])
theorem isle_eq {h : Tab} {o : List Int} (hv : Valid h) (ho : IsleOk h o) : isleV h = o := by
  have e : ∃ o, IsleOk h o := ⟨o, ho⟩
  unfold isleV; rw [dif_pos e]
  exact isle_unique hv (Classical.choose_spec e) ho
/-- Depths tell who is connected. -/
theorem depth_conn {h : Tab} {root : Nat} {o : List Int} (hv : Valid h) (hr : root < h.length) (D : DepthOk h root o) {k : Nat} (hk : k < h.length) : 0 ≤ at' o k ↔ Conn h root k := by
  constructor
  · intro h0
    have key : ∀ (d : Nat) k, k < h.length → at' o k = d → Conn h root k := by
      intro d
      induction d with
      | zero => intro k hk e; rw [(D.zero k hk).1 (by omega)]; exact .refl _
      | succ d ih =>
        intro k hk e
        obtain ⟨j, hj, h1, h2⟩ := D.pred k hk (by omega)
        exact .step (ih j hj (by omega)) hk (by rw [hv.2.2.1 j hj k hk]; exact h1)
    exact key (at' o k).toNat k hk (by omega)
  · intro c
    induction c with
    | refl => have := (D.zero root hr).2 rfl; omega
    | @step j k c hk hh ih => have := ih (c.lt hr); exact (D.near j (c.lt hr) k hk hh this).1

/-! ### the reference: the least of the neighbours, again and again -/
def mstep (h : Tab) (o : List Int) (i k : Nat) : List Int := if hb h i k = true then o.set i (min (at' o i) (at' o k)) else o
def mrow (h : Tab) (o : List Int) (i : Nat) : Nat → List Int
  | 0 => o
  | k + 1 => mstep h (mrow h o i k) i k
def msweep (h : Tab) (o : List Int) : Nat → List Int
  | 0 => o
  | i + 1 => mrow h (msweep h o i) i h.length
def mround (h : Tab) (o : List Int) : Nat → List Int
  | 0 => o
  | r + 1 => msweep h (mround h o r) h.length
structure Good (h : Tab) (o : List Int) : Prop where
  len : o.length = h.length
  rng : ∀ i, i < h.length → 0 ≤ at' o i ∧ at' o i ≤ i
  conn : ∀ i, i < h.length → Conn h i (at' o i).toNat
def Le (h : Tab) (o o' : List Int) : Prop := ∀ i, i < h.length → at' o' i ≤ at' o i
theorem mstep_good {h : Tab} {o : List Int} {i k : Nat} (G : Good h o) (hi : i < h.length) (hk : k < h.length) : Good h (mstep h o i k) ∧ Le h o (mstep h o i k) ∧ (hb h i k = true → at' (mstep h o i k) i ≤ at' o k) := by
  unfold mstep
  split
  · rename_i hh
    have E : ∀ j, at' (o.set i (min (at' o i) (at' o k))) j = if i = j then min (at' o i) (at' o k) else at' o j := fun j => by
      rw [at_set]
      by_cases e : i = j
      · rw [if_pos ⟨e, by rw [G.len]; exact hi⟩, if_pos e]
      · rw [if_neg (fun x => e x.1), if_neg e]
    have r1 := G.rng i hi; have r2 := G.rng k hk
    refine ⟨⟨by rw [List.length_set, G.len], fun j hj => ?_, fun j hj => ?_⟩, fun j hj => ?_, fun _ => ?_⟩
    · rw [E]; split
      · rename_i e; subst e; omega
      · exact G.rng j hj
    · rw [E]; split
      · rename_i e; subst e
        rcases Int.le_total (at' o i) (at' o k) with h1 | h1
        · rw [Int.min_eq_left h1]; exact G.conn i hi
        · rw [Int.min_eq_right h1]; exact (Conn.step (.refl i) hk hh).trans (G.conn k hk)
      · exact G.conn j hj
    · rw [E]; split
      · rename_i e; subst e; omega
      · omega
    · rw [E, if_pos rfl]; omega
  · rename_i hh
    exact ⟨G, fun j hj => by omega, fun x => absurd x hh⟩
theorem Le.trans {h : Tab} {a b c : List Int} (x : Le h a b) (y : Le h b c) : Le h a c := fun i hi => by have := x i hi; have := y i hi; omega
theorem mrow_good {h : Tab} {o : List Int} {i : Nat} (G : Good h o) (hi : i < h.length) : ∀ k, k ≤ h.length → Good h (mrow h o i k) ∧ Le h o (mrow h o i k) ∧ ∀ q, q < k → hb h i q = true → at' (mrow h o i k) i ≤ at' o q
  | 0, _ => ⟨G, fun j hj => by simp [mrow], fun q hq => absurd hq (Nat.not_lt_zero _)⟩
  | k + 1, hk => by
    obtain ⟨g1, l1, e1⟩ := mrow_good G hi k (by omega)
    obtain ⟨g2, l2, e2⟩ := mstep_good g1 hi (show k < h.length by omega)
    refine ⟨g2, l1.trans l2, fun q hq hh => ?_⟩
    rcases Nat.lt_or_ge q k with h1 | h1
    · have := e1 q h1 hh; have := l2 i hi; rw [mrow]; omega
    · have : q = k := by omega
      subst this
      have := e2 hh; have := l1 q (by omega); rw [mrow]; omega
theorem msweep_good {h : Tab} {o : List Int} (G : Good h o) : ∀ i, i ≤ h.length → Good h (msweep h o i) ∧ Le h o (msweep h o i) ∧ ∀ p, p < i → ∀ q, q < h.length → hb h p q = true → at' (msweep h o i) p ≤ at' o q
  | 0, _ => ⟨G, fun j hj => by simp [msweep], fun q hq => absurd hq (Nat.not_lt_zero _)⟩
  | i + 1, hi => by
    obtain ⟨g1, l1, e1⟩ := msweep_good G i (by omega)
    obtain ⟨g2, l2, e2⟩ := mrow_good g1 (show i < h.length by omega) h.length (Nat.le_refl _)
    refine ⟨g2, l1.trans l2, fun p hp q hq hh => ?_⟩
    rcases Nat.lt_or_ge p i with h1 | h1
    · have := e1 p h1 q hq hh; have := l2 p (by omega); rw [msweep]; omega
    · have : p = i := by omega
      subst this
      have := e2 q hq hh; have := l1 q hq; rw [msweep]; omega
theorem mround_good {h : Tab} {o : List Int} (G : Good h o) : ∀ r, Good h (mround h o r)
  | 0 => G
  | r + 1 => (msweep_good (mround_good G r) _ (Nat.le_refl _)).1
/-- The least node of an island. -/
theorem least_conn {h : Tab} {i : Nat} : ∃ m, Conn h i m ∧ ∀ j, Conn h i j → m ≤ j := by
  have key : ∀ b x, x ≤ b → Conn h i x → ∃ m, Conn h i m ∧ ∀ j, Conn h i j → m ≤ j := by
    intro b
    induction b with
    | zero => intro x hx c; exact ⟨x, c, fun j _ => by omega⟩
    | succ b ih =>
      intro x hx c
      by_cases e : ∃ y, y < x ∧ Conn h i y
      · obtain ⟨y, hy, cy⟩ := e; exact ih y (by omega) cy
      · exact ⟨x, c, fun j cj => Nat.le_of_not_lt fun hlt => e ⟨j, hlt, cj⟩⟩
  exact key i i (Nat.le_refl _) (.refl i)
theorem mround_grow {h : Tab} {o : List Int} (hv : Valid h) (G : Good h o) {m : Nat} (hm : m < h.length) (hmin : ∀ j, Conn h m j → m ≤ j) : ∀ r,
    (∀ j, Conn h m j → at' (mround h o r) j = m) ∨ ∃ S : List Nat, S.Nodup ∧ S.length = r + 1 ∧ ∀ x ∈ S, Conn h m x ∧ at' (mround h o r) x = m
  | 0 => by
    right
    refine ⟨[m], by simp, rfl, fun x hx => ?_⟩
    rw [List.mem_singleton] at hx; subst hx
    have := G.rng x hm; have := hmin _ (G.conn x hm)
    exact ⟨.refl _, by show at' o x = x; omega⟩
  | r + 1 => by
    have g := mround_good G r
    obtain ⟨g2, l2, e2⟩ := msweep_good g h.length (Nat.le_refl _)
    have low : ∀ j, Conn h m j → (m : Int) ≤ at' (mround h o (r + 1)) j := fun j c => by
      have hj := c.lt hm
      have := hmin _ (c.trans (g2.conn j hj)); have := g2.rng j hj
      show (m : Int) ≤ at' (msweep h (mround h o r) h.length) j
      omega
    rcases mround_grow hv G hm hmin r with hall | ⟨S, hs, hl, hS⟩
    · left
      intro j c
      have hj := c.lt hm
      have h1 := l2 j hj; have h2 := hall j c; have h3 := low j c
      have : at' (mround h o (r + 1)) j ≤ at' (mround h o r) j := h1
      omega
    · by_cases hcl : ∃ j k, Conn h m j ∧ at' (mround h o r) j = m ∧ k < h.length ∧ hb h j k = true ∧ at' (mround h o r) k ≠ m
      · right
        obtain ⟨j, k, cj, ej, hk, hh, nk⟩ := hcl
        have hj := cj.lt hm
        have ck : Conn h m k := .step cj hk hh
        refine ⟨k :: S, List.nodup_cons.2 ⟨fun hx => nk (hS k hx).2, hs⟩, by simp [hl], fun x hx => ?_⟩
        rcases List.mem_cons.1 hx with rfl | hx
        · refine ⟨ck, ?_⟩
          have h1 := e2 x hk j hj (by rw [hv.2.2.1 x hk j hj]; exact hh)
          have h3 := low x ck
          have : at' (mround h o (r + 1)) x ≤ at' (mround h o r) j := h1
          omega
        · have hx' := hS x hx
          refine ⟨hx'.1, ?_⟩
          have h1 := l2 x (hx'.1.lt hm); have h3 := low x hx'.1
          have : at' (mround h o (r + 1)) x ≤ at' (mround h o r) x := h1
          omega
      · left
        have all : ∀ j, Conn h m j → at' (mround h o r) j = m := fun j c => by
          induction c with
          | refl =>
            have := g.rng m hm; have := hmin _ (g.conn m hm); omega
          | @step j k c hk hh ih =>
            refine Classical.byContradiction fun ne => hcl ⟨j, k, c, ih, hk, hh, ne⟩
        intro j c
        have h1 := l2 j (c.lt hm); have h2 := all j c; have h3 := low j c
        have : at' (mround h o (r + 1)) j ≤ at' (mround h o r) j := h1
        omega
def startI (h : Tab) : List Int := (List.range h.length).map (fun i : Nat => (i : Int))
theorem startI_at {h : Tab} {i : Nat} (hi : i < h.length) : at' (startI h) i = i := by
  unfold at' startI
  rw [List.getD_eq_getElem?_getD, List.getElem?_map, List.getElem?_range hi]; rfl
theorem ref_isle {h : Tab} (hv : Valid h) : IsleOk h (mround h (startI h) h.length) := by
  have G : Good h (startI h) := ⟨by simp [startI], fun i hi => by rw [startI_at hi]; omega, fun i hi => by rw [startI_at hi, Int.toNat_natCast]; exact .refl _⟩
  have g := mround_good G h.length
  have all : ∀ m, m < h.length → (∀ j, Conn h m j → m ≤ j) → ∀ j, Conn h m j → at' (mround h (startI h) h.length) j = m := fun m hm hmin => by
    rcases mround_grow hv G hm hmin h.length with h1 | ⟨S, hs, hl, hS⟩
    · exact h1
    · have := nodup_len (n := h.length) hs (fun x hx => (hS x hx).1.lt hm); omega
  refine ⟨g.len, g.rng, g.conn, fun i hi k hk hh => ?_⟩
  obtain ⟨m, cm, hmin⟩ := least_conn (h := h) (i := i)
  have hm := cm.lt hi
  have hmin' : ∀ j, Conn h m j → m ≤ j := fun j c => hmin j (cm.trans c)
  have ci : Conn h m i := cm.symm hv hi
  rw [all m hm hmin' i ci, all m hm hmin' k (.step ci hk hh)]

/-! ### visiting -/
/-- What a visit of node i with a number makes of the numbers. -/
structure Dfs (h : Tab) (i : Nat) (num : Int) (o o' : List Int) : Prop where
  len : o'.length = h.length
  rng : ∀ j, j < h.length → -1 ≤ at' o' j
  old : ∀ j, j < h.length → 0 ≤ at' o j → at' o' j = at' o j
  new : ∀ j, j < h.length → at' o j < 0 → 0 ≤ at' o' j → at' o' j = num ∧ Conn h i j ∧ ∀ k, k < h.length → hb h j k = true → 0 ≤ at' o' k
  self : 0 ≤ at' o' i
/-- The same, in the middle: the node's own neighbours up to one. -/
structure Mid (h : Tab) (i : Nat) (num : Int) (o o' : List Int) (k : Nat) : Prop where
  len : o'.length = h.length
  rng : ∀ j, j < h.length → -1 ≤ at' o' j
  old : ∀ j, j < h.length → 0 ≤ at' o j → at' o' j = at' o j
  new : ∀ j, j < h.length → at' o j < 0 → 0 ≤ at' o' j → at' o' j = num ∧ Conn h i j ∧ (j ≠ i → ∀ k, k < h.length → hb h j k = true → 0 ≤ at' o' k)
  self : at' o' i = num
  part : ∀ j, j < k → j < h.length → hb h i j = true → 0 ≤ at' o' j
theorem mid_start {h : Tab} {i : Nat} {num : Int} {o : List Int} (hl : o.length = h.length) (hr : ∀ j, j < h.length → -1 ≤ at' o j) (hi : i < h.length) (hn : 0 ≤ num) (hu : at' o i < 0) : Mid h i num o (o.set i num) 0 := by
  have E : ∀ j, at' (o.set i num) j = if i = j then num else at' o j := fun j => by
    rw [at_set]
    by_cases e : i = j
    · rw [if_pos ⟨e, by rw [hl]; exact hi⟩, if_pos e]
    · rw [if_neg (fun x => e x.1), if_neg e]
  refine ⟨by rw [List.length_set, hl], fun j hj => ?_, fun j hj h0 => ?_, fun j hj h0 h1 => ?_, by rw [E, if_pos rfl], fun j hj => absurd hj (Nat.not_lt_zero _)⟩
  · rw [E]; split
    · omega
    · exact hr j hj
  · rw [E, if_neg (fun e => by rw [← e] at h0; omega)]
  · rw [E] at h1 ⊢; split at h1
    · rename_i e; subst e; rw [if_pos rfl]; exact ⟨rfl, .refl _, fun x => absurd rfl x⟩
    · omega
theorem mid_skip {h : Tab} {i k : Nat} {num : Int} {o o' : List Int} (M : Mid h i num o o' k) (hs : hb h i k = false ∨ 0 ≤ at' o' k) : Mid h i num o o' (k + 1) :=
  ⟨M.len, M.rng, M.old, M.new, M.self, fun j hj hn hh => by
    rcases Nat.lt_or_ge j k with h1 | h1
    · exact M.part j h1 hn hh
    · have : j = k := by omega
      subst this
      rcases hs with hs | hs
      · rw [hs] at hh; cases hh
      · exact hs⟩
theorem mid_take {h : Tab} {i k : Nat} {num : Int} {o o' o2 : List Int} (hn : 0 ≤ num) (hi : i < h.length) (hk : k < h.length) (hh : hb h i k = true) (M : Mid h i num o o' k) (D : Dfs h k num o' o2) : Mid h i num o o2 (k + 1) := by
  have up : ∀ j, j < h.length → 0 ≤ at' o' j → 0 ≤ at' o2 j := fun j hj h0 => by rw [D.old j hj h0]; exact h0
  refine ⟨D.len, D.rng, fun j hj h0 => ?_, fun j hj h0 h1 => ?_, ?_, fun j hj hn' hh' => ?_⟩
  · have := M.old j hj h0; rw [D.old j hj (by omega), this]
  · by_cases h2 : 0 ≤ at' o' j
    · obtain ⟨a, b, c⟩ := M.new j hj h0 h2
      rw [D.old j hj h2]
      exact ⟨a, b, fun ne q hq hx => up q hq (c ne q hq hx)⟩
    · obtain ⟨a, b, c⟩ := D.new j hj (by omega) h1
      exact ⟨a, (Conn.step (.refl i) hk hh).trans b, fun _ => c⟩
  · rw [D.old i hi (by rw [M.self]; exact hn), M.self]
  · rcases Nat.lt_or_ge j k with h1 | h1
    · exact up j hn' (M.part j h1 hn' hh')
    · have : j = k := by omega
      subst this; exact D.self
theorem mid_end {h : Tab} {i k : Nat} {num : Int} {o o' : List Int} (hn : 0 ≤ num) (hk : h.length ≤ k) (M : Mid h i num o o' k) : Dfs h i num o o' :=
  ⟨M.len, M.rng, M.old, fun j hj h0 h1 => by
    obtain ⟨a, b, c⟩ := M.new j hj h0 h1
    refine ⟨a, b, fun q hq hh => ?_⟩
    by_cases e : j = i
    · subst e; exact M.part q (by omega) hq hh
    · exact c e q hq hh, by rw [M.self]; exact hn⟩
/-- The numbers when all nodes below one have been looked at. -/
structure Isl (h : Tab) (o : List Int) (i : Nat) : Prop where
  len : o.length = h.length
  rng : ∀ j, j < h.length → -1 ≤ at' o j ∧ at' o j ≤ j
  done : ∀ j, j < i → j < h.length → 0 ≤ at' o j
  conn : ∀ j, j < h.length → 0 ≤ at' o j → Conn h (at' o j).toNat j
  near : ∀ j, j < h.length → 0 ≤ at' o j → ∀ k, k < h.length → hb h j k = true → at' o k = at' o j
theorem isl_start (h : Tab) : Isl h (List.replicate h.length (-1)) 0 := by
  have e : ∀ i, i < h.length → at' (List.replicate h.length (-1)) i = -1 := fun i hi => by
    unfold at'; rw [List.getD_eq_getElem?_getD, List.getElem?_replicate, if_pos hi]; rfl
  exact ⟨by simp, fun j hj => by rw [e j hj]; omega, fun j hj => absurd hj (Nat.not_lt_zero _), fun j hj h0 => by rw [e j hj] at h0; omega, fun j hj h0 => by rw [e j hj] at h0; omega⟩
theorem isl_skip {h : Tab} {o : List Int} {i : Nat} (I : Isl h o i) (h0 : 0 ≤ at' o i) : Isl h o (i + 1) :=
  ⟨I.len, I.rng, fun j hj hn => by
    rcases Nat.lt_or_ge j i with h1 | h1
    · exact I.done j h1 hn
    · have : j = i := by omega
      subst this; exact h0, I.conn, I.near⟩
theorem isl_take {h : Tab} {o o' : List Int} {i : Nat} (hv : Valid h) (I : Isl h o i) (hi : i < h.length) (D : Dfs h i i o o') : Isl h o' (i + 1) := by
  have up : ∀ j, j < h.length → 0 ≤ at' o j → 0 ≤ at' o' j := fun j hj h0 => by rw [D.old j hj h0]; exact h0
  have ge : ∀ j, j < h.length → at' o j < 0 → i ≤ j := fun j hj h0 => Nat.le_of_not_lt fun hlt => by have := I.done j hlt hj; omega
  refine ⟨D.len, fun j hj => ⟨D.rng j hj, ?_⟩, fun j hj hn => ?_, fun j hj h0 => ?_, fun j hj h0 k hk hh => ?_⟩
  · by_cases h2 : 0 ≤ at' o j
    · rw [D.old j hj h2]; exact (I.rng j hj).2
    · by_cases h3 : 0 ≤ at' o' j
      · have := (D.new j hj (by omega) h3).1; have := ge j hj (by omega); omega
      · omega
  · rcases Nat.lt_or_ge j i with h1 | h1
    · exact up j hn (I.done j h1 hn)
    · have : j = i := by omega
      subst this; exact D.self
  · by_cases h2 : 0 ≤ at' o j
    · rw [D.old j hj h2]; exact I.conn j hj h2
    · obtain ⟨a, b, _⟩ := D.new j hj (by omega) h0
      rw [a, Int.toNat_natCast]; exact b
  · by_cases h2 : 0 ≤ at' o j
    · have e := I.near j hj h2 k hk hh
      rw [D.old j hj h2, D.old k hk (by omega)]; exact e
    · obtain ⟨a, b, c⟩ := D.new j hj (by omega) h0
      have h3 := c k hk hh
      by_cases h4 : 0 ≤ at' o k
      · have := I.near k hk h4 j hj (by rw [hv.2.2.1 k hk j hj]; exact hh); omega
      · rw [a, (D.new k hk (by omega) h3).1]
theorem isl_done {h : Tab} {o : List Int} {i : Nat} (hv : Valid h) (I : Isl h o i) (hi : h.length ≤ i) : IsleOk h o :=
  ⟨I.len, fun j hj => ⟨I.done j (by omega) hj, (I.rng j hj).2⟩, fun j hj => (I.conn j hj (I.done j (by omega) hj)).symm hv (by have := I.rng j hj; have := I.done j (by omega) hj; omega), fun j hj k hk hh => (I.near j hj (I.done j (by omega) hj) k hk hh).symm⟩
end Go.Proofs.Ytkomgjkeikaigaa
