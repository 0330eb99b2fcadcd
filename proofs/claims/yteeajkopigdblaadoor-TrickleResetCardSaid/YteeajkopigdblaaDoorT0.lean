/- Proved: plain facts on timers: what a run of ticks does. Conditions: those that each theorem names. -/
import Derived.Test.YteeajkopigdblaaDoorR3
namespace Go.Proofs.YteeajkopigdblaaDoor
open Go.RowKit Go.Sort Go.Proofs.YteeajkopigdblaaDoor.K
set_option linter.unusedVariables false
theorem belowV_in {s n : Int} (h1 : 1 ≤ n) (h2 : n ≤ 1000000000) : 0 ≤ belowV s n ∧ belowV s n < n := by
  unfold belowV; rw [if_pos ⟨h1, h2⟩]; exact ⟨Int.emod_nonneg _ (by omega), Int.emod_lt_of_pos _ (by omega)⟩
/-- A timer: the interval, its beginning, the frame in which it may send, what was heard, the seed. -/
structure Tk where
  i : Int
  b : Int
  f : Int
  c : Int
  s : Int
deriving DecidableEq, Inhabited
def frameB (n : Int) : Bool := decide (0 ≤ n) && decide (n ≤ 999999984)
def seedB (n : Int) : Bool := decide (0 ≤ n) && decide (n ≤ 1000000000)
def lenB (n : Int) : Bool := decide (n = 1) || decide (n = 2) || decide (n = 4) || decide (n = 8)
def countB (n : Int) : Bool := decide (0 ≤ n) && decide (n ≤ 100)
def fireB (t : Tk) : Bool := decide (t.b + t.i / 2 ≤ t.f) && decide (t.f ≤ t.b + t.i - 1)
def validT (t : Tk) : Bool := lenB t.i && frameB t.b && seedB t.s && countB t.c && fireB t
structure VT (t : Tk) : Prop where
  len : t.i = 1 ∨ t.i = 2 ∨ t.i = 4 ∨ t.i = 8
  b0 : 0 ≤ t.b
  b1 : t.b ≤ 999999984
  s0 : 0 ≤ t.s
  s1 : t.s ≤ 1000000000
  c0 : 0 ≤ t.c
  c1 : t.c ≤ 100
  f0 : t.b + t.i / 2 ≤ t.f
  f1 : t.f ≤ t.b + t.i - 1
theorem validT_iff {t : Tk} : validT t = true ↔ VT t := by
  constructor
  · intro h
    simp only [validT, lenB, frameB, seedB, countB, fireB, Bool.and_eq_true, Bool.or_eq_true, decide_eq_true_eq] at h
    exact ⟨by omega, by omega, by omega, by omega, by omega, by omega, by omega, by omega, by omega⟩
  · rintro ⟨h1, h2, h3, h4, h5, h6, h7, h8, h9⟩
    simp only [validT, lenB, frameB, seedB, countB, fireB, Bool.and_eq_true, Bool.or_eq_true, decide_eq_true_eq]
    omega
def ivalV (s l n : Int) : Tk := ⟨l, n, n + l / 2 + belowV (1000003 * s + n) (l - l / 2), 0, s⟩
def newV (s n : Int) : Tk := if seedB s && frameB n then ivalV s 1 n else ⟨0, 0, 0, 0, 0⟩
def errT (s n : Int) : Int := if seedB s && frameB n then 0 else 1
def resetV (t : Tk) (n : Int) : Tk := if validT t = true ∧ frameB n = true ∧ t.i ≠ 1 then ivalV t.s 1 n else t
def hearV (t : Tk) : Tk := if validT t = true ∧ t.c < 100 then { t with c := t.c + 1 } else t
def tickOk (t : Tk) (n : Int) : Bool := validT t && frameB n && decide (t.b ≤ n)
def tickT (t : Tk) (n : Int) : Tk := if tickOk t n = true ∧ t.b + t.i ≤ n then ivalV t.s (min 8 (2 * t.i)) n else t
def tickB (t : Tk) (n : Int) : Bool := tickOk t n && decide ((tickT t n).f = n) && decide ((tickT t n).c ≤ 1)
theorem frameB_iff {n : Int} : frameB n = true ↔ 0 ≤ n ∧ n ≤ 999999984 := by simp [frameB]
theorem ival_valid {s l n : Int} (hs : 0 ≤ s) (hs1 : s ≤ 1000000000) (hl : l = 1 ∨ l = 2 ∨ l = 4 ∨ l = 8) (hn : 0 ≤ n) (hn1 : n ≤ 999999984) : VT (ivalV s l n) := by
  have hb := belowV_in (s := 1000003 * s + n) (n := l - l / 2) (by omega) (by omega)
  exact ⟨hl, hn, hn1, hs, hs1, by simp [ivalV], by simp [ivalV], by simp only [ivalV]; omega, by simp only [ivalV]; omega⟩
theorem reset_valid {t : Tk} (h : VT t) (n : Int) : VT (resetV t n) ∧ (resetV t n).s = t.s := by
  unfold resetV
  split
  · rename_i hc
    have := frameB_iff.1 hc.2.1
    exact ⟨ival_valid h.s0 h.s1 (.inl rfl) this.1 this.2, rfl⟩
  · exact ⟨h, rfl⟩
theorem hear_valid {t : Tk} (h : VT t) : VT (hearV t) ∧ (hearV t).s = t.s ∧ (hearV t).i = t.i ∧ (hearV t).b = t.b ∧ (hearV t).f = t.f := by
  unfold hearV
  split
  · rename_i hc
    obtain ⟨h1, h2, h3, h4, h5, h6, h7, h8, h9⟩ := h
    have := hc.2
    exact ⟨⟨h1, h2, h3, h4, h5, by simp only; omega, by simp only; omega, h8, h9⟩, rfl, rfl, rfl, rfl⟩
  · exact ⟨h, rfl, rfl, rfl, rfl⟩
theorem min8 {i : Int} (h : i = 1 ∨ i = 2 ∨ i = 4 ∨ i = 8) : min 8 (2 * i) = 2 ∨ min 8 (2 * i) = 4 ∨ min 8 (2 * i) = 8 := by omega
theorem tick_valid {t : Tk} (h : VT t) (n : Int) : VT (tickT t n) ∧ (tickT t n).s = t.s := by
  unfold tickT
  split
  · rename_i hc
    have h1 := hc.1
    simp only [tickOk, Bool.and_eq_true] at h1
    have h2 := frameB_iff.1 h1.1.2
    have h3 := h.len
    exact ⟨ival_valid h.s0 h.s1 (by omega) h2.1 h2.2, rfl⟩
  · exact ⟨h, rfl⟩
/-- A tick in a frame in or directly after the interval. -/
theorem tick_step {t : Tk} (h : VT t) {n : Int} (h0 : t.b ≤ n) (h1 : n ≤ t.b + t.i) (h2 : n ≤ 999999984) :
    (n < t.b + t.i ∧ tickT t n = t ∧ tickB t n = (decide (t.f = n) && decide (t.c ≤ 1))) ∨
    (n = t.b + t.i ∧ (tickT t n).i = min 8 (2 * t.i) ∧ (tickT t n).b = n ∧ (tickT t n).c = 0 ∧ VT (tickT t n) ∧ tickB t n = decide ((tickT t n).f = n)) := by
  have hb0 := h.b0
  have hok : tickOk t n = true := by
    simp only [tickOk, Bool.and_eq_true, decide_eq_true_eq]; exact ⟨⟨validT_iff.2 h, frameB_iff.2 ⟨by omega, h2⟩⟩, h0⟩
  have hv := (tick_valid h n).1
  by_cases hlt : n < t.b + t.i
  · left
    have e : tickT t n = t := by unfold tickT; rw [if_neg (by omega)]
    refine ⟨hlt, e, ?_⟩
    unfold tickB; rw [e, hok]; rfl
  · right
    have e : tickT t n = ivalV t.s (min 8 (2 * t.i)) n := by unfold tickT; rw [if_pos ⟨hok, by omega⟩]
    refine ⟨by omega, by rw [e]; rfl, by rw [e]; rfl, by rw [e]; rfl, hv, ?_⟩
    unfold tickB
    have ec : (tickT t n).c = 0 := by rw [e]; rfl
    rw [hok, ec]; simp
/-- What was heard before each tick: at place i. -/
def hearsV (t : Tk) : Nat → Tk
  | 0 => t
  | k + 1 => hearV (hearsV t k)
theorem hears_valid {t : Tk} (h : VT t) : ∀ k, VT (hearsV t k) ∧ (hearsV t k).s = t.s ∧ (hearsV t k).i = t.i ∧ (hearsV t k).b = t.b ∧ (hearsV t k).f = t.f
  | 0 => ⟨h, rfl, rfl, rfl, rfl⟩
  | k + 1 => by
    obtain ⟨a, b, c, d, e⟩ := hears_valid h k
    obtain ⟨a', b', c', d', e'⟩ := hear_valid a
    exact ⟨a', b'.trans b, c'.trans c, d'.trans d, e'.trans e⟩
def heardAt (hs : List Int) (i : Nat) : Nat := if i < hs.length then ((hs.getD i 0) % 4).toNat else 0
/-- The timer after some ticks, and in which of them it spoke. -/
def runT (t : Tk) (n : Int) (hs : List Int) : Nat → Tk
  | 0 => t
  | k + 1 => tickT (hearsV (runT t n hs k) (heardAt hs k)) (n + k)
def runB (t : Tk) (n : Int) (hs : List Int) (k : Nat) : Bool := tickB (hearsV (runT t n hs k) (heardAt hs k)) (n + k)
def runL (t : Tk) (n : Int) (hs : List Int) (m : Nat) : List Bool := (List.range m).map (runB t n hs)
def usableB (t : Tk) (n : Int) : Bool := validT t && decide (t.b ≤ n) && decide (n ≤ t.b + t.i) && decide (n ≤ 900000000)
theorem usable_iff {t : Tk} {n : Int} : usableB t n = true ↔ VT t ∧ t.b ≤ n ∧ n ≤ t.b + t.i ∧ n ≤ 900000000 := by
  simp only [usableB, Bool.and_eq_true, decide_eq_true_eq, validT_iff]
  constructor
  · rintro ⟨⟨⟨a, b⟩, c⟩, d⟩; exact ⟨a, b, c, d⟩
  · rintro ⟨a, b, c, d⟩; exact ⟨⟨⟨a, b⟩, c⟩, d⟩
/-- A run keeps the frame in or directly after the interval. -/
theorem run_inv {t : Tk} {n : Int} (hu : usableB t n = true) (hs : List Int) : ∀ k : Nat, k ≤ 1000 → VT (runT t n hs k) ∧ (runT t n hs k).b ≤ n + k ∧ n + k ≤ (runT t n hs k).b + (runT t n hs k).i
  | 0, _ => by
    obtain ⟨a, b, c, d⟩ := usable_iff.1 hu
    exact ⟨a, by simpa [runT] using b, by simpa [runT] using c⟩
  | k + 1, hk => by
    obtain ⟨_, _, _, hn⟩ := usable_iff.1 hu
    obtain ⟨a, b, c⟩ := run_inv hu hs k (by omega)
    obtain ⟨a', _, ei, eb, ef⟩ := hears_valid a (heardAt hs k)
    have e : runT t n hs (k + 1) = tickT (hearsV (runT t n hs k) (heardAt hs k)) (n + k) := rfl
    rw [e]
    generalize hearsV (runT t n hs k) (heardAt hs k) = u at *
    have hl := a'.len
    rcases tick_step a' (n := n + k) (by omega) (by omega) (by omega) with ⟨h1, h2, _⟩ | ⟨h1, h2, h3, _, h5, _⟩
    · rw [h2]; exact ⟨a', by omega, by omega⟩
    · exact ⟨h5, by omega, by rw [h2, h3]; omega⟩
theorem run_step {t : Tk} {n : Int} (hu : usableB t n = true) (hs : List Int) (k : Nat) (hk : k ≤ 999) :
    ∃ u : Tk, VT u ∧ u.i = (runT t n hs k).i ∧ u.b = (runT t n hs k).b ∧ u.f = (runT t n hs k).f ∧ u = hearsV (runT t n hs k) (heardAt hs k) ∧ u.b ≤ n + k ∧ n + k ≤ u.b + u.i ∧ n + k ≤ 900001000 ∧
      runT t n hs (k + 1) = tickT u (n + k) ∧ runB t n hs k = tickB u (n + k) := by
  obtain ⟨_, _, _, hn⟩ := usable_iff.1 hu
  obtain ⟨a, b, c⟩ := run_inv hu hs k (by omega)
  obtain ⟨a', _, ei, eb, ef⟩ := hears_valid a (heardAt hs k)
  exact ⟨_, a', ei, eb, ef, rfl, by omega, by omega, by omega, rfl, rfl⟩
/-! ### seldom -/
theorem seldom_at {t : Tk} {n : Int} (hu : usableB t n = true) (h8 : t.i = 8) (hs : List Int) : ∀ k : Nat, k ≤ 999 → (runT t n hs k).i = 8
  | 0, _ => h8
  | k + 1, hk => by
    obtain ⟨u, hv, e1, e2, e3, _, g1, g2, g3, g4, g5⟩ := run_step hu hs k (by omega)
    have ih := seldom_at hu h8 hs k (by omega)
    rw [g4]
    rcases tick_step hv g1 g2 (by omega) with ⟨h1, h2, _⟩ | ⟨h1, h2, h3, _, h5, _⟩
    · rw [h2, e1, ih]
    · rw [h2, e1, ih]; rfl
theorem seldom_inv {t : Tk} {n : Int} (hu : usableB t n = true) (h8 : t.i = 8) (hs : List Int) {i : Nat} (hi : i ≤ 500) (hsp : runB t n hs i = true) :
    ∀ d : Nat, d ≤ 400 → (runT t n hs (i + 1 + d)).f = n + i ∨ n + i + 4 ≤ (runT t n hs (i + 1 + d)).f
  | 0, _ => by
    obtain ⟨u, hv, e1, e2, e3, _, g1, g2, g3, g4, g5⟩ := run_step hu hs i (by omega)
    rw [Nat.add_zero, g4]
    left
    rw [g5] at hsp
    rcases tick_step hv g1 g2 (by omega) with ⟨h1, h2, h3⟩ | ⟨h1, h2, h3, _, h5, h6⟩
    · rw [h3] at hsp; simp at hsp; rw [h2]; exact hsp.1
    · rw [h6] at hsp; simpa using hsp
  | d + 1, hd => by
    have ih := seldom_inv hu h8 hs hi hsp d (by omega)
    obtain ⟨u, hv, e1, e2, e3, _, g1, g2, g3, g4, g5⟩ := run_step hu hs (i + 1 + d) (by omega)
    have hi8 := seldom_at hu h8 hs (i + 1 + d) (by omega)
    rw [show i + 1 + (d + 1) = i + 1 + d + 1 from by omega, g4]
    rcases tick_step hv g1 g2 (by omega) with ⟨h1, h2, h3⟩ | ⟨h1, h2, h3, _, h5, h6⟩
    · rw [h2, e3]; exact ih
    · have h50 := h5.f0
      have := hv.f1
      rw [h2, h3, e1, hi8] at h50
      right; omega
theorem seldom_of {t : Tk} {n : Int} (hu : usableB t n = true) (h8 : t.i = 8) (hs : List Int) {i k : Nat} (hi : i ≤ 400) (hik : i < k) (hk : k < i + 4) : (runB t n hs i && runB t n hs k) = false := by
  rw [Bool.and_eq_false_iff]
  cases hsp : runB t n hs i
  · exact .inl rfl
  · right
    have h := seldom_inv hu h8 hs (by omega) hsp (k - i - 1) (by omega)
    obtain ⟨u, hv, e1, e2, e3, _, g1, g2, g3, g4, g5⟩ := run_step hu hs k (by omega)
    rw [show i + 1 + (k - i - 1) = k from by omega, ← e3] at h
    rw [g5]
    rcases tick_step hv g1 g2 (by omega) with ⟨h1, h2, h3⟩ | ⟨h1, h2, h3, _, h5, h6⟩
    · rw [h3]; simp; intro hh; omega
    · rw [h6]; simp
      have := h5.f0
      have hi8 := seldom_at hu h8 hs k (by omega)
      rw [h2, h3, e1, hi8] at this
      omega
/-! ### again -/
def lastV (t : Tk) (n : Int) : Nat → Int
  | 0 => -1
  | k + 1 => if runB t n [] k = true then (k : Int) else lastV t n k
theorem heardAt_nil (k : Nat) : heardAt [] k = 0 := rfl
theorem again_inv {t : Tk} (hu : usableB t t.b = true) (hc : t.c ≤ 1) : ∀ k : Nat, k ≤ 900 →
    (runT t t.b [] k).c ≤ 1 ∧ (((runT t t.b [] k).f < t.b + k ∧ t.b + lastV t t.b k = (runT t t.b [] k).f) ∨ (t.b + k ≤ (runT t t.b [] k).f ∧ (runT t t.b [] k).b - 5 ≤ t.b + lastV t t.b k))
  | 0, _ => by
    obtain ⟨hv, _⟩ := usable_iff.1 hu
    have := hv.f0
    have := hv.len
    refine ⟨hc, .inr ⟨?_, ?_⟩⟩
    · simp only [runT]; omega
    · simp only [runT, lastV]; omega
  | k + 1, hk => by
    obtain ⟨ih1, ih2⟩ := again_inv hu hc k (by omega)
    obtain ⟨u, hv, e1, e2, e3, e4, g1, g2, g3, g4, g5⟩ := run_step hu [] k (by omega)
    rw [heardAt_nil] at e4
    have e4' : u = runT t t.b [] k := e4
    rw [← e4'] at ih1 ih2
    have hl := hv.len
    have hf0 := hv.f0
    have hf1 := hv.f1
    rw [g4]
    unfold lastV
    rw [g5]
    rcases tick_step hv g1 g2 (by omega) with ⟨h1, h2, h3⟩ | ⟨h1, h2, h3, h4, h5, h6⟩
    · rw [h2, h3]
      refine ⟨ih1, ?_⟩
      by_cases hfk : u.f = t.b + k
      · left
        rw [if_pos (by simp [hfk, ih1])]
        refine ⟨by omega, by omega⟩
      · rw [if_neg (by simp [hfk])]
        rcases ih2 with ⟨a, b⟩ | ⟨a, b⟩
        · left; exact ⟨by omega, b⟩
        · right; exact ⟨by omega, b⟩
    · rw [h6, h3]
      refine ⟨by omega, ?_⟩
      have := h5.f0
      rw [h2, h3] at this
      by_cases hfk : (tickT u (t.b + k)).f = t.b + k
      · left
        rw [if_pos (by simp [hfk])]
        exact ⟨by omega, by omega⟩
      · rw [if_neg (by simp [hfk])]
        right
        refine ⟨by omega, ?_⟩
        rcases ih2 with ⟨a, b⟩ | ⟨a, b⟩
        · omega
        · omega
theorem again_of {t : Tk} (hu : usableB t t.b = true) (hc : t.c ≤ 1) (k : Nat) (hk : k ≤ 800) : (k : Int) - lastV t t.b (k + 1) < 12 := by
  obtain ⟨h1, h2⟩ := again_inv hu hc (k + 1) (by omega)
  obtain ⟨hv, hb, hi⟩ := run_inv hu [] (k + 1) (by omega)
  have := hv.f0; have := hv.f1; have hl := hv.len
  obtain ⟨u, hv', e1, e2, e3, e4, g1, g2, g3, g4, g5⟩ := run_step hu [] k (by omega)
  have hb2 : (runT t t.b [] (k + 1)).b ≤ t.b + k ∧ t.b + k < (runT t t.b [] (k + 1)).b + (runT t t.b [] (k + 1)).i := by
    rw [g4]
    rcases tick_step hv' g1 g2 (by omega) with ⟨h1, h2, h3⟩ | ⟨h1, h2, h3, h4, h5, h6⟩
    · rw [h2]; omega
    · rw [h2, h3]; have := hv'.len; omega
  rcases h2 with ⟨a, b⟩ | ⟨a, b⟩
  · omega
  · omega
/-! ### suppressed -/
theorem hear2_count {t : Tk} (h : VT t) : 2 ≤ (hearV (hearV t)).c := by
  have hh := hear_valid h
  have h1 : (hearV t).c = min 100 (t.c + 1) := by
    unfold hearV; have := h.c1
    split
    · simp only; omega
    · rename_i hc; have : ¬ t.c < 100 := fun hh => hc ⟨validT_iff.2 h, hh⟩
      omega
  have h2 : (hearV (hearV t)).c = min 100 ((hearV t).c + 1) := by
    have hv := validT_iff.2 hh.1
    have := hh.1.c1
    generalize hearV t = u at *
    unfold hearV
    split
    · simp only; omega
    · rename_i hc; have : ¬ u.c < 100 := fun hh => hc ⟨hv, hh⟩
      omega
  have := h.c0
  omega
theorem suppressed_in {t : Tk} (h : VT t) {n : Int} (hn : n < t.b + t.i) : tickB (hearV (hearV t)) n = false := by
  have h2 := hear2_count h
  obtain ⟨hv, _, ei, eb, ef⟩ := hear_valid (hear_valid h).1
  obtain ⟨_, _, ei', eb', ef'⟩ := hear_valid h
  have e : tickT (hearV (hearV t)) n = hearV (hearV t) := by unfold tickT; rw [if_neg (by rintro ⟨_, h⟩; omega)]
  unfold tickB; rw [e]
  have : decide ((hearV (hearV t)).c ≤ 1) = false := by simp; omega
  rw [this, Bool.and_false]
theorem suppressed_new {t : Tk} (h : VT t) {n : Int} (hn : t.b + t.i ≤ n) : tickB (hearV (hearV t)) n = tickB t n ∧ (frameB n = true → tickT (hearV (hearV t)) n = tickT t n ∧ (tickT t n).c = 0) := by
  obtain ⟨hv, es, ei, eb, ef⟩ := hear_valid (hear_valid h).1
  obtain ⟨_, es', ei', eb', ef'⟩ := hear_valid h
  have hl := h.len
  generalize hearV (hearV t) = u at *
  have v1 := validT_iff.2 h
  have v2 := validT_iff.2 hv
  cases hf : frameB n
  · have k1 : tickOk u n = false := by simp [tickOk, hf]
    have k2 : tickOk t n = false := by simp [tickOk, hf]
    exact ⟨by simp [tickB, k1, k2], fun h => by cases h⟩
  · have k1 : tickOk u n = true := by simp [tickOk, hf, v2]; omega
    have k2 : tickOk t n = true := by simp [tickOk, hf, v1]; omega
    have e1 : tickT t n = ivalV t.s (min 8 (2 * t.i)) n := by unfold tickT; rw [if_pos ⟨k2, hn⟩]
    have e2 : tickT u n = tickT t n := by rw [e1]; unfold tickT; rw [if_pos ⟨k1, by omega⟩, show u.s = t.s by rw [es, es'], show u.i = t.i by rw [ei, ei']]
    exact ⟨by unfold tickB; rw [e2, k1, k2], fun _ => ⟨e2, by rw [e1]; rfl⟩⟩
/-! ### reset -/
theorem reset_speaks {t : Tk} {n : Int} (hu : usableB t n = true) : (runB (resetV t n) n [] 0 || runB (resetV t n) n [] 1 || runB (resetV t n) n [] 2 || runB (resetV t n) n [] 3) = true := by
  obtain ⟨hv, h0, h1, h2⟩ := usable_iff.1 hu
  have hb0 := hv.b0
  have hrv := reset_valid hv n
  have hu' : usableB (resetV t n) n = true ∧ (resetV t n).i = 1 ∧ ((resetV t n).b = n ∧ (resetV t n).c = 0 ∨ resetV t n = t) := by
    rw [usable_iff]
    unfold resetV at hrv ⊢
    split
    · rename_i hc
      rw [if_pos hc] at hrv
      exact ⟨⟨hrv.1, by simp [ivalV], by simp only [ivalV]; omega, h2⟩, rfl, .inl ⟨rfl, rfl⟩⟩
    · rename_i hc
      rw [if_neg hc] at hrv
      have : t.i = 1 := by
        apply Decidable.byContradiction
        intro hi
        exact hc ⟨validT_iff.2 hv, frameB_iff.2 ⟨by omega, by omega⟩, hi⟩
      exact ⟨⟨hv, h0, h1, h2⟩, this, .inr rfl⟩
  obtain ⟨hu, hi1, _⟩ := hu'
  generalize resetV t n = t at *
  obtain ⟨hv, h0, h1, h2⟩ := usable_iff.1 hu
  have hf0 := hv.f0
  have hf1 := hv.f1
  -- one tick without hearing
  have one : ∀ (u : Tk) (m : Int), VT u → u.b ≤ m → m ≤ u.b + u.i → m ≤ 900000100 → (m < u.b + u.i ∧ tickT u m = u ∧ tickB u m = (decide (u.f = m) && decide (u.c ≤ 1))) ∨
    (m = u.b + u.i ∧ (tickT u m).i = min 8 (2 * u.i) ∧ (tickT u m).b = m ∧ (tickT u m).c = 0 ∧ VT (tickT u m) ∧ tickB u m = decide ((tickT u m).f = m)) := fun u m a b c d => tick_step a b c (by omega)
  have e0 : runT t n [] 0 = t := rfl
  have r0 : runB t n [] 0 = tickB t n := by show tickB t (n + ((0 : Nat) : Int)) = _; simp
  have t1 : runT t n [] 1 = tickT t n := by show tickT t (n + ((0 : Nat) : Int)) = _; simp
  have r1 : runB t n [] 1 = tickB (tickT t n) (n + 1) := by show tickB (runT t n [] 1) (n + ((1 : Nat) : Int)) = _; rw [t1]; rfl
  have t2 : runT t n [] 2 = tickT (tickT t n) (n + 1) := by show tickT (runT t n [] 1) (n + ((1 : Nat) : Int)) = _; rw [t1]; rfl
  have r2 : runB t n [] 2 = tickB (tickT (tickT t n) (n + 1)) (n + 2) := by show tickB (runT t n [] 2) (n + ((2 : Nat) : Int)) = _; rw [t2]; rfl
  simp only [Bool.or_eq_true]
  rw [r0, r1, r2]
  by_cases hc1 : runB t n [] 3 = true
  · exact .inr hc1
  refine .inl ?_
  rcases one t n hv h0 h1 (by omega) with ⟨a1, a2, a3⟩ | ⟨a1, a2, a3, a4, a5, a6⟩
  · -- in the interval of one frame
    rw [a2]
    rcases one t (n + 1) hv (by omega) (by omega) (by omega) with ⟨b1, b2, b3⟩ | ⟨b1, b2, b3, b4, b5, b6⟩
    · omega
    · have g0 := b5.f0; have g1 := b5.f1
      rw [b2, b3, hi1] at g0 g1
      have hm : min (8 : Int) (2 * 1) = 2 := rfl
      rw [hm] at g0 g1
      rcases one (tickT t (n + 1)) (n + 2) b5 (by omega) (by rw [b2, b3, hi1, hm]; omega) (by omega) with ⟨c1, c2, c3⟩ | ⟨c1, c2, c3, c4, c5, c6⟩
      · right; rw [c3, b4]; simp; omega
      · rw [b2, b3, hi1, hm] at c1; omega
  · have g0 := a5.f0; have g1 := a5.f1
    rw [a2, a3, hi1] at g0 g1
    have hm : min (8 : Int) (2 * 1) = 2 := rfl
    rw [hm] at g0 g1
    rcases one (tickT t n) (n + 1) a5 (by omega) (by rw [a2, a3, hi1, hm]; omega) (by omega) with ⟨c1, c2, c3⟩ | ⟨c1, c2, c3, c4, c5, c6⟩
    · left; right; rw [c3, a4]; simp; omega
    · rw [a2, a3, hi1, hm] at c1; omega
/-! ### growth -/
theorem grow_inv {t : Tk} {n : Int} (hu : usableB t n = true) (hs : List Int) : ∀ k : Nat, k ≤ 900 → (runT t n hs k).i = 8 ∨ (runT t n hs k).b - n ≤ (runT t n hs k).i - 1
  | 0, _ => by
    obtain ⟨hv, h0, h1, h2⟩ := usable_iff.1 hu
    have := hv.len
    right; simp only [runT]; omega
  | k + 1, hk => by
    have ih := grow_inv hu hs k (by omega)
    obtain ⟨u, hv, e1, e2, e3, e4, g1, g2, g3, g4, g5⟩ := run_step hu hs k (by omega)
    have hl := hv.len
    rw [g4]
    rcases tick_step hv g1 g2 (by omega) with ⟨h1, h2, h3⟩ | ⟨h1, h2, h3, h4, h5, h6⟩
    · rw [h2, e1, e2]; exact ih
    · rw [h2, h3]; omega
def growB (t u : Tk) (n : Int) (k : Nat) : Bool := decide (t.i ≤ u.i) && (decide (u.b = t.b) || decide (u.b = t.b + t.i) && decide (u.b = n + k)) && (decide (k < 7) || decide (u.i = 8))
theorem grow_of {t : Tk} {n : Int} (hu : usableB t n = true) (hs : List Int) (k : Nat) (hk : k ≤ 800) : growB (runT t n hs k) (runT t n hs (k + 1)) n k = true := by
  obtain ⟨u, hv, e1, e2, e3, e4, g1, g2, g3, g4, g5⟩ := run_step hu hs k (by omega)
  have hi := grow_inv hu hs (k + 1) (by omega)
  have hl := hv.len
  rw [g4] at hi
  unfold growB
  simp only [Bool.and_eq_true, Bool.or_eq_true, decide_eq_true_eq]
  rw [g4, ← e1, ← e2]
  rcases tick_step hv g1 g2 (by omega) with ⟨h1, h2, h3⟩ | ⟨h1, h2, h3, h4, h5, h6⟩
  · rw [h2] at hi ⊢; omega
  · rw [h2, h3] at hi ⊢; omega
end Go.Proofs.YteeajkopigdblaaDoor
