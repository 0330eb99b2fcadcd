/- Proved: plain facts on tables of cells, on what remains of one after beacons were heard, and on clashes. Conditions: those that each theorem names. -/
import Derived.Test.YtleenbfldkmcaaaBox
namespace Go.Proofs.Ytleenbfldkmcaaa
set_option linter.unusedVariables false
set_option linter.unusedSimpArgs false

/-- A use: slot, offset, peer, stamp. -/
structure Us where
  s : Int
  o : Int
  p : Int
  t : Int
deriving Inhabited, DecidableEq
/-- A grant: slot, offset, peer, stamp, until. -/
structure Gr where
  s : Int
  o : Int
  p : Int
  t : Int
  u : Int
deriving Inhabited, DecidableEq
/-- An ask: slot, offset, peer. -/
structure Ak where
  s : Int
  o : Int
  p : Int
deriving Inhabited, DecidableEq
/-- A clash: slot, offset, listener, first, second. -/
structure Cz where
  s : Int
  o : Int
  l : Int
  f : Int
  c : Int
deriving Inhabited, DecidableEq
structure Tb where
  U : List Us
  G : List Gr
  A : List Ak
deriving Inhabited, DecidableEq
/-- What was heard of a neighbour: in which frame, of whom, its uses and grants. -/
structure Nb where
  f : Int
  h : Int
  U : List Us
  G : List Gr
deriving Inhabited, DecidableEq

def latB (f fr : Int) : Bool := f == fr || f == Go.RowKit.wrap64 (fr - 1)
def betB (t p t' p' : Int) : Bool := decide (t < t') || (t == t' && decide (p < p'))
theorem betB_iff {t p t' p' : Int} : betB t p t' p' = true ↔ t < t' ∨ (t = t' ∧ p < p') := by simp [betB]
/-- A grant that beats a use. -/
def lostG (u : Us) (me fr : Int) (g : Gr) : Bool := (g.s == u.s && g.o == u.o) && g.p != me && decide (fr ≤ g.u) && betB g.t g.p u.t me
def lostB (u : Us) (me fr : Int) (N : List Nb) : Bool := N.any fun n => latB n.f fr && n.G.any (lostG u me fr)
/-- A use of node h that beats a grant. -/
def voidU (g : Gr) (h : Int) (x : Us) : Bool := (x.s == g.s && x.o == g.o) && h != g.p && betB x.t h g.t g.p
def voidB (g : Gr) (fr : Int) (N : List Nb) : Bool := N.any fun n => latB n.f fr && n.U.any (voidU g n.h)
def yieldV (t : Tb) (me fr : Int) (N : List Nb) : Tb := ⟨t.U.filter (fun u => !lostB u me fr N), t.G.filter (fun g => !voidB g fr N), t.A⟩

/-! ### giving up again; another order; fewer beacons; old ones -/
theorem filter_again {α : Type} (p : α → Bool) (l : List α) : (l.filter p).filter p = l.filter p := by simp
theorem yield_again (t : Tb) (me fr : Int) (N : List Nb) : yieldV (yieldV t me fr N) me fr N = yieldV t me fr N := by simp [yieldV]
theorem any_turned {α : Type} (p : α → Bool) (l : List α) {k : Nat} (hk : k < l.length) (d : α) : ((l.drop k ++ l.take k) ++ [l.getD k d]).any p = l.any p := by
  have h : l.any p = ((l.take k).any p || (l.drop k).any p) := by rw [← List.any_append, List.take_append_drop]
  have hm : p (l.getD k d) = true → (l.drop k).any p = true := fun hp => by
    rw [List.any_eq_true]
    refine ⟨l[k], ?_, ?_⟩
    · rw [List.mem_iff_getElem]; exact ⟨0, by simp; omega, by simp⟩
    · rw [List.getD_eq_getElem?_getD, List.getElem?_eq_getElem hk] at hp; exact hp
  rw [h]
  simp only [List.any_append, List.any_cons, List.any_nil, Bool.or_false]
  cases h1 : (l.take k).any p <;> cases h2 : (l.drop k).any p <;> cases h3 : p (l.getD k d) <;> simp_all
theorem yield_turned (t : Tb) (me fr : Int) (N : List Nb) {k : Nat} (hk : k < N.length) : yieldV t me fr ((N.drop k ++ N.take k) ++ [N.getD k default]) = yieldV t me fr N := by
  unfold yieldV
  have h1 : ∀ u, lostB u me fr ((N.drop k ++ N.take k) ++ [N.getD k default]) = lostB u me fr N := fun u => any_turned _ N hk _
  have h2 : ∀ g, voidB g fr ((N.drop k ++ N.take k) ++ [N.getD k default]) = voidB g fr N := fun g => any_turned _ N hk _
  simp only [h1, h2]
theorem lost_sub {u : Us} {me fr : Int} {N M : List Nb} (h : ∀ n ∈ M, n ∈ N) (hl : lostB u me fr M = true) : lostB u me fr N = true := by
  unfold lostB at *
  rw [List.any_eq_true] at *
  obtain ⟨n, hn, hp⟩ := hl
  exact ⟨n, h n hn, hp⟩
theorem void_sub {g : Gr} {fr : Int} {N M : List Nb} (h : ∀ n ∈ M, n ∈ N) (hl : voidB g fr M = true) : voidB g fr N = true := by
  unfold voidB at *
  rw [List.any_eq_true] at *
  obtain ⟨n, hn, hp⟩ := hl
  exact ⟨n, h n hn, hp⟩
theorem yield_more {t : Tb} {me fr : Int} {N M : List Nb} (h : ∀ n ∈ M, n ∈ N) : (∀ u ∈ (yieldV t me fr N).U, u ∈ (yieldV t me fr M).U) ∧ ∀ g ∈ (yieldV t me fr N).G, g ∈ (yieldV t me fr M).G := by
  refine ⟨fun u hu => ?_, fun g hg => ?_⟩
  · simp only [yieldV, List.mem_filter] at hu ⊢
    refine ⟨hu.1, ?_⟩
    cases hl : lostB u me fr M
    · rfl
    · rw [lost_sub h hl] at hu; exact absurd hu.2 (by simp)
  · simp only [yieldV, List.mem_filter] at hg ⊢
    refine ⟨hg.1, ?_⟩
    cases hl : voidB g fr M
    · rfl
    · rw [void_sub h hl] at hg; exact absurd hg.2 (by simp)
/-- The beacons heard lately, with the grants that have not ended. -/
def latelyV (N : List Nb) (fr : Int) : List Nb := (N.filter fun n => latB n.f fr).map fun n => { n with G := n.G.filter fun g => decide (fr ≤ g.u) }
theorem any_map' {α β : Type} (f : α → β) (p : β → Bool) : ∀ l : List α, (l.map f).any p = l.any fun x => p (f x)
  | [] => rfl
  | x :: l => by simp [any_map' f p l]
theorem lost_old (u : Us) (me fr : Int) (N : List Nb) : lostB u me fr (latelyV N fr) = lostB u me fr N := by
  unfold lostB latelyV
  rw [any_map']
  rw [List.any_filter]
  congr 1
  funext n
  simp only
  cases hl : latB n.f fr
  · rfl
  · simp only [Bool.true_and]
    rw [List.any_filter]
    congr 1
    funext g
    unfold lostG
    cases decide (fr ≤ g.u) <;> simp
theorem void_old (g : Gr) (fr : Int) (N : List Nb) : voidB g fr (latelyV N fr) = voidB g fr N := by
  unfold voidB latelyV
  rw [any_map', List.any_filter]
  congr 1
  funext n
  simp only
  cases latB n.f fr <;> simp
theorem yield_old (t : Tb) (me fr : Int) (N : List Nb) : yieldV t me fr (latelyV N fr) = yieldV t me fr N := by
  unfold yieldV; simp only [lost_old, void_old]

/-! ### clashes -/
def sendsB (t : Tb) (s o : Int) : Bool := t.U.any fun u => u.s == s && u.o == o
def tabB (H : List (List Bool)) (i k : Nat) : Bool := (H.getD i []).getD k false
def squareB (H : List (List Bool)) (n : Nat) : Bool := H.length == n && H.all fun r => r.length == n
/-- Whether listener l with grant g hears node c in the same cell. -/
def hitB (H : List (List Bool)) (T : List Tb) (fr : Int) (l : Nat) (g : Gr) (c : Nat) : Bool :=
  decide (fr ≤ g.u) && (tabB H l c && c != l && (c : Int) != g.p && sendsB (T.getD c default) g.s g.o)
def clashG (H : List (List Bool)) (T : List Tb) (fr : Int) (l : Nat) (g : Gr) (n : Nat) : List Cz :=
  ((List.range n).filter (hitB H T fr l g)).map fun (c : Nat) => ⟨g.s, g.o, l, g.p, c⟩
def clashL (H : List (List Bool)) (T : List Tb) (fr : Int) (l : Nat) : List Cz := (T.getD l default).G.flatMap fun g => clashG H T fr l g T.length
def clashV (H : List (List Bool)) (T : List Tb) (fr : Int) : List Cz := if squareB H T.length = true then (List.range T.length).flatMap (clashL H T fr) else []
theorem mem_clash {H : List (List Bool)} {T : List Tb} {fr : Int} {x : Cz} (hs : squareB H T.length = true) : x ∈ clashV H T fr ↔ ∃ l, l < T.length ∧ ∃ g ∈ (T.getD l default).G, ∃ c, c < T.length ∧ hitB H T fr l g c = true ∧ x = ⟨g.s, g.o, l, g.p, c⟩ := by
  unfold clashV clashL clashG
  rw [if_pos hs]
  simp only [List.mem_flatMap, List.mem_range, List.mem_map, List.mem_filter]
  constructor
  · rintro ⟨l, hl, g, hg, c, ⟨hc, hh⟩, rfl⟩; exact ⟨l, hl, g, hg, c, hc, hh, rfl⟩
  · rintro ⟨l, hl, g, hg, c, hc, hh, rfl⟩; exact ⟨l, hl, g, hg, c, ⟨hc, hh⟩, rfl⟩
theorem sends_iff {t : Tb} {s o : Int} : sendsB t s o = true ↔ ∃ u ∈ t.U, u.s = s ∧ u.o = o := by simp [sendsB]
theorem hit_iff {H : List (List Bool)} {T : List Tb} {fr : Int} {l : Nat} {g : Gr} {c : Nat} : hitB H T fr l g c = true ↔ fr ≤ g.u ∧ tabB H l c = true ∧ c ≠ l ∧ (c : Int) ≠ g.p ∧ ∃ u ∈ (T.getD c default).U, u.s = g.s ∧ u.o = g.o := by
  unfold hitB
  simp only [Bool.and_eq_true, decide_eq_true_eq, bne_iff_ne, sends_iff]
  constructor
  · rintro ⟨h1, ⟨⟨h2, h3⟩, h4⟩, h5⟩; exact ⟨h1, h2, h3, h4, h5⟩
  · rintro ⟨h1, h2, h3, h4, h5⟩; exact ⟨h1, ⟨⟨h2, h3⟩, h4⟩, h5⟩

/-! ### all give up: no clashes -/
/-- What node i hears in frame at: those that its row names. -/
def heardV (H : List (List Bool)) (T : List Tb) (i : Nat) (at' : Int) : List Nb := ((List.range T.length).filter (tabB H i)).map fun (k : Nat) => ⟨at', k, (T.getD k default).U, (T.getD k default).G⟩
/-- A symmetric table out of any. -/
def symV (H : List (List Bool)) (n : Nat) : List (List Bool) := (List.range n).map fun i => (List.range n).map fun k => if i = k then false else tabB H (max i k) (min i k)
theorem sym_at {H : List (List Bool)} {n i k : Nat} (hi : i < n) (hk : k < n) : tabB (symV H n) i k = if i = k then false else tabB H (max i k) (min i k) := by
  have e : tabB (symV H n) i k = ((symV H n).getD i []).getD k false := rfl
  rw [e]
  unfold symV
  simp [hi, hk]
theorem sym_comm {H : List (List Bool)} {n i k : Nat} (hi : i < n) (hk : k < n) : tabB (symV H n) i k = tabB (symV H n) k i := by
  rw [sym_at hi hk, sym_at hk hi, Nat.max_comm, Nat.min_comm]
  by_cases h : i = k
  · subst h; rfl
  · rw [if_neg h, if_neg (fun e => h e.symm)]
theorem sym_square (H : List (List Bool)) (n : Nat) : squareB (symV H n) n = true := by
  unfold squareB symV
  simp
def afterV (H : List (List Bool)) (T : List Tb) (now : Int) (at' : Nat → Int) : List Tb := (List.range T.length).map fun i => yieldV (T.getD i default) i now (heardV H T i (at' i))
theorem settle {H : List (List Bool)} {T : List Tb} {now : Int} {at' : Nat → Int} (hs : squareB H T.length = true) (hc : ∀ i k, i < T.length → k < T.length → tabB H i k = tabB H k i)
    (ha : ∀ i, latB (at' i) now = true) : clashV H (afterV H T now at') now = [] := by
  have hlen : (afterV H T now at').length = T.length := by simp [afterV]
  have hat : ∀ i, i < T.length → (afterV H T now at').getD i default = yieldV (T.getD i default) i now (heardV H T i (at' i)) := fun i hi => by simp [afterV, hi]
  refine List.eq_nil_iff_forall_not_mem.2 fun x hx => ?_
  rw [mem_clash (by rw [hlen]; exact hs)] at hx
  obtain ⟨l, hl, g, hg, c, hcl, hh, -⟩ := hx
  rw [hlen] at hl hcl
  rw [hat l hl] at hg
  obtain ⟨h1, h2, h3, h4, u, hu, h5, h6⟩ := hit_iff.1 hh
  rw [hat c hcl] at hu
  simp only [yieldV, List.mem_filter] at hg hu
  -- l has heard c's use; c has heard l's grant
  have hv : voidB g now (heardV H T l (at' l)) = false := by simpa using hg.2
  have hl' : lostB u c now (heardV H T c (at' c)) = false := by simpa using hu.2
  have e1 : betB u.t c g.t g.p = false := by
    cases hb : betB u.t c g.t g.p
    · rfl
    · exfalso
      have : voidB g now (heardV H T l (at' l)) = true := by
        unfold voidB
        rw [List.any_eq_true]
        refine ⟨⟨at' l, c, (T.getD c default).U, (T.getD c default).G⟩, ?_, ?_⟩
        · unfold heardV; exact List.mem_map.2 ⟨c, List.mem_filter.2 ⟨List.mem_range.2 hcl, h2⟩, rfl⟩
        · simp only [ha, Bool.true_and, List.any_eq_true]
          refine ⟨u, hu.1, ?_⟩
          unfold voidU
          simp [h5, h6, h4, hb]
      rw [this] at hv; cases hv
  have e2 : betB g.t g.p u.t c = false := by
    cases hb : betB g.t g.p u.t c
    · rfl
    · exfalso
      have : lostB u c now (heardV H T c (at' c)) = true := by
        unfold lostB
        rw [List.any_eq_true]
        refine ⟨⟨at' c, l, (T.getD l default).U, (T.getD l default).G⟩, ?_, ?_⟩
        · unfold heardV; exact List.mem_map.2 ⟨l, List.mem_filter.2 ⟨List.mem_range.2 hl, by rw [← hc l c hl hcl]; exact h2⟩, rfl⟩
        · simp only [ha, Bool.true_and, List.any_eq_true]
          refine ⟨g, hg.1, ?_⟩
          unfold lostG
          have h4' : g.p ≠ (c : Int) := fun e => h4 e.symm
          simp [h5, h6, h4', hb, h1]
      rw [this] at hl'; cases hl'
  have : ¬ betB u.t c g.t g.p = true := by rw [e1]; simp
  rw [betB_iff] at this
  have h' : ¬ betB g.t g.p u.t c = true := by rw [e2]; simp
  rw [betB_iff] at h'
  omega
/-! ### fewer: no new clash -/
theorem clash_deaf {H H' : List (List Bool)} {T : List Tb} {fr : Int} (hs : squareB H T.length = true) (hs' : squareB H' T.length = true) (h : ∀ i k, tabB H' i k = true → tabB H i k = true) : ∀ x ∈ clashV H' T fr, x ∈ clashV H T fr := fun x hx => by
  rw [mem_clash hs'] at hx
  rw [mem_clash hs]
  obtain ⟨l, hl, g, hg, c, hc, hh, e⟩ := hx
  refine ⟨l, hl, g, hg, c, hc, ?_, e⟩
  rw [hit_iff] at hh ⊢
  exact ⟨hh.1, h _ _ hh.2.1, hh.2.2⟩
theorem clash_drop {H : List (List Bool)} {T : List Tb} {fr : Int} {k : Nat} (hs : squareB H T.length = true) : ∀ x ∈ clashV H (T.set k default) fr, x ∈ clashV H T fr := fun x hx => by
  have hlen : (T.set k default).length = T.length := by simp
  have hat : ∀ i, (T.set k default).getD i default = T.getD i default ∨ (T.set k default).getD i default = default := fun i => by
    by_cases hi : k = i
    · subst hi
      right
      by_cases hk : k < T.length
      · simp [hk]
      · rw [List.getD_eq_getElem?_getD, List.getElem?_eq_none (by simp; omega)]; rfl
    · left; simp only [List.getD_eq_getElem?_getD]; rw [List.getElem?_set_ne hi]
  rw [mem_clash (by rw [hlen]; exact hs)] at hx
  rw [mem_clash hs]
  obtain ⟨l, hl, g, hg, c, hc, hh, e⟩ := hx
  rw [hlen] at hl hc
  have hg' : g ∈ (T.getD l default).G := by
    rcases hat l with h | h
    · rw [h] at hg; exact hg
    · rw [h] at hg; cases hg
  refine ⟨l, hl, g, hg', c, hc, ?_, e⟩
  rw [hit_iff] at hh ⊢
  obtain ⟨h1, h2, h3, h4, u, hu, h5⟩ := hh
  refine ⟨h1, h2, h3, h4, u, ?_, h5⟩
  rcases hat c with h | h
  · rw [h] at hu; exact hu
  · rw [h] at hu; cases hu
end Go.Proofs.Ytleenbfldkmcaaa
