/- Proved: what link.Cost and its reference return: they are the same. Conditions: the list lies in memory. -/
import Derived.Test.YtfhdpogngdgklaaL4
namespace Go.Proofs.Ytfhdpogngdgklaa
open Go.RowKit Go.Sort Go.BigFrame
set_option linter.unusedVariables false
set_option linter.unusedSimpArgs false
attribute [local go_sem] cell_alloc_old

theorem okTo_at {ls : List Lk} : ∀ {n : Nat}, okTo ls n = true → ∀ i, i < n → okAt ls i = true
  | 0, _, i, hi => absurd hi (Nat.not_lt_zero _)
  | n + 1, h, i, hi => by
    rw [okTo, Bool.and_eq_true] at h
    rcases Nat.lt_or_ge i n with h1 | h1
    · exact okTo_at h.1 i h1
    · rw [show i = n from by omega]; exact h.2
theorem at_okTo {ls : List Lk} : ∀ {n : Nat}, (∀ i, i < n → okAt ls i = true) → okTo ls n = true
  | 0, _ => rfl
  | n + 1, h => by rw [okTo, at_okTo (fun i hi => h i (by omega)), h n (by omega)]; rfl
theorem ok_lt {ls : List Lk} {n : Nat} (h : okTo ls n = true) {i : Nat} : ∀ {j : Nat}, i < j → j < n → (ls.getD i default).p < (ls.getD j default).p
  | 0, h1, _ => absurd h1 (Nat.not_lt_zero _)
  | j + 1, h1, h2 => by
    have h3 := okTo_at h (j + 1) h2
    unfold okAt at h3
    simp at h3
    have h4 : (ls.getD j default).p < (ls.getD (j + 1) default).p := by simpa using h3.2
    rcases Nat.lt_or_ge i j with h5 | h5
    · have := ok_lt h h5 (show j < n by omega); omega
    · rw [show i = j from by omega]; exact h4
theorem at_of {ls : List Lk} (hv : validV ls = true) {peer : Int} {k : Nat} (hk : IsFirst ls peer k) : atV ls peer k = ofV ls peer := by
  obtain ⟨h1, h2, h3⟩ := hk
  unfold atV
  by_cases h : k < ls.length ∧ (ls.getD k default).p = peer
  · rw [if_pos h, of_hit (fun i hi => by have := h2 i hi; omega) h.1 h.2]
  · rw [if_neg h, of_miss]
    intro i hi
    rcases Nat.lt_or_ge i k with h4 | h4
    · have := h2 i h4; omega
    · have h5 := h3 (by omega)
      rcases Nat.lt_or_ge k i with h6 | h6
      · have := ok_lt hv h6 hi; omega
      · have : i = k := by omega
        subst this
        intro h7
        exact h ⟨hi, h7⟩
theorem of_ok {ls : List Lk} (hv : validV ls = true) {peer : Int} (h0 : 0 ≤ peer) (h1 : peer ≤ 59) : lkOk (ofV ls peer) = true ∧ (ofV ls peer).p = peer := by
  unfold ofV
  cases hf : ls.find? (fun x => x.p == peer) with
  | none => simp [lkOk, h0, h1]
  | some x =>
    have hp : x.p = peer := by simpa using List.find?_some hf
    obtain ⟨i, hi, rfl⟩ := List.mem_iff_getElem.1 (List.mem_of_find?_eq_some hf)
    have := okTo_at hv i hi
    unfold okAt at this
    rw [Bool.and_eq_true, List.getD_eq_getElem?_getD, List.getElem?_eq_getElem hi] at this
    exact ⟨this.1, hp⟩
theorem lkOk_iff (x : Lk) : lkOk x = true ↔ 0 ≤ x.p ∧ x.p ≤ 59 ∧ 0 ≤ x.s ∧ x.s ≤ 31 ∧ 0 ≤ x.g ∧ x.g ≤ x.s := by
  unfold lkOk; simp only [Bool.and_eq_true, decide_eq_true_eq]; omega

def priceV (x : Lk) : Int := min 4096 (128 * (x.s + 1) / (x.g + 1))
def costV (ls : List Lk) (peer : Int) : Int := if validV ls = true ∧ 0 ≤ peer ∧ peer ≤ 59 then priceV (ofV ls peer) else 0

theorem valid_at (n : Nat) (a : Option Addr) (cap : Nat) (ls : List Lk) (w : World) (v : Bool) (hn : n = ls.length) (hl : LkAt w a ls) (hm : ls.length ≤ maxLen) (hv : validV ls = v) :
    Calls Try.prog 18 #[.slice a n cap] w fun e w' => e = .returned (.bool v) ∧ Below w.heap.size w w' := by subst hn; rw [← hv]; exact valid_any a cap ls w hl hm
theorem rvalid_at (n : Nat) (a : Option Addr) (cap : Nat) (ls : List Lk) (w : World) (v : Bool) (hn : n = ls.length) (hl : LkAt w a ls) (hm : ls.length ≤ maxLen) (hv : validV ls = v) :
    Calls Try.prog 15 #[.slice a n cap] w fun e w' => e = .returned (.bool v) ∧ Below w.heap.size w w' := by subst hn; rw [← hv]; exact rvalid_any a cap ls w hl hm
theorem find_at (n : Nat) (a : Option Addr) (cap : Nat) (ls : List Lk) (peer : Int) (w : World) (hn : n = ls.length) (hl : LkAt w a ls) (hm : ls.length ≤ maxLen) (hv : validV ls = true) (x : Lk) (hx : ofV ls peer = x) :
    Calls Try.prog 20 #[.slice a n cap, .int .i64 peer] w fun e w' => ∃ k : Nat, e = .returned (.tuple #[.int .i64 k, .agg #[.int .i64 x.p, .int .i64 x.s, .int .i64 x.g]]) ∧ IsFirst ls peer k ∧ Below w.heap.size w w' := by
  subst hn
  refine (find_any a cap ls peer w hl hm).mono ?_
  rintro e w' ⟨k, he, hk, hb⟩
  rw [at_of hv hk, hx] at he
  exact ⟨k, he, hk, hb⟩
theorem rof_at (n : Nat) (a : Option Addr) (cap : Nat) (ls : List Lk) (peer : Int) (w : World) (hn : n = ls.length) (hl : LkAt w a ls) (hm : ls.length ≤ maxLen) (x : Lk) (hx : ofV ls peer = x) :
    Calls Try.prog 16 #[.slice a n cap, .int .i64 peer] w fun e w' => e = .returned (.agg #[.int .i64 x.p, .int .i64 x.s, .int .i64 x.g]) ∧ Below w.heap.size w w' := by
  subst hn; rw [← hx]; exact rof_any a cap ls peer w hl hm

theorem quo_bd {s g : Int} (s0 : 0 ≤ s) (s1 : s ≤ 31) (g0 : 0 ≤ g) : 0 ≤ 128 * (s + 1) / (g + 1) ∧ 128 * (s + 1) / (g + 1) ≤ 4096 := by
  have h1 := Int.ediv_nonneg (a := 128 * (s + 1)) (b := g + 1) (by omega) (by omega)
  have h2 := Int.ediv_le_self (g + 1) (a := 128 * (s + 1)) (by omega)
  omega

set_option maxRecDepth 100000 in
set_option maxHeartbeats 2000000 in
theorem cost_any (a : Option Addr) (cap : Nat) (ls : List Lk) (peer : Int) (w : World) (hl : LkAt w a ls) (hm : ls.length ≤ maxLen) :
    Calls Try.prog 13 #[.slice a ls.length cap, .int .i64 peer] w fun e w' => e = .returned (.int .i64 (costV ls peer)) ∧ Below w.heap.size w w' := by
  obtain ⟨n, hn⟩ : ∃ n, n = ls.length := ⟨_, rfl⟩
  rw [← hn]
  have HN := Lib.hid hn; clear hn
  have HM := Lib.hid hm; clear hm
  cases hv : validV ls
  · have HV := Lib.hid hv
    have hc : costV ls peer = 0 := by unfold costV; rw [if_neg (by simp [hv])]
    rw [hc]; clear hc hv
    go_enter Try.func13, Try.ntmps13
    go_wp2_with fail
    refine (valid_at n a cap ls _ _ HN.out hl HM.out HV.out).mono ?_
    rintro e w1 ⟨rfl, b1⟩
    go_wp2_with fail
    go_ret
    exact ⟨rfl, b1⟩
  · have HV := Lib.hid hv
    by_cases hp : 0 ≤ peer ∧ peer ≤ 59
    · have hc : costV ls peer = priceV (ofV ls peer) := by unfold costV; rw [if_pos ⟨hv, hp⟩]
      have hok := (lkOk_iff _).1 (of_ok hv hp.1 hp.2).1
      rw [hc]; clear hc hv
      obtain ⟨x, hx⟩ : ∃ x, ofV ls peer = x := ⟨_, rfl⟩
      rw [hx] at hok ⊢
      have HX := Lib.hid hx; clear hx
      have HP := Lib.hid (show (decide (0 ≤ peer) && decide (peer ≤ 59)) = true by simp [hp])
      obtain ⟨_, _, s0, s1, g0, g1⟩ := hok
      have hq := quo_bd s0 s1 g0
      unfold priceV
      obtain ⟨q, hqq⟩ : ∃ q, 128 * (x.s + 1) / (x.g + 1) = q := ⟨_, rfl⟩
      rw [hqq] at hq ⊢
      have ht : (128 * (x.s + 1)).tdiv (x.g + 1) = q := by rw [Int.tdiv_eq_ediv_of_nonneg (by omega)]; exact hqq
      have hq0 := hq.1
      have hq1 := hq.2
      have ne : ¬ x.g + 1 = 0 := by omega
      have p0 : ¬ peer < 0 := by omega
      have p1 : ¬ 59 < peer := by omega
      clear hqq hq hp
      go_enter Try.func13, Try.ntmps13
      go_wp2_with fail
      refine (valid_at n a cap ls _ _ HN.out hl HM.out HV.out).mono ?_
      rintro e w1 ⟨rfl, b1⟩
      have hl1 := hl.keep b1
      go_wp2_with fail
      refine (peer_at peer true _ HP.out).mono ?_
      rintro e w2 ⟨rfl, rfl⟩
      go_wp2_with fail
      refine (find_at n a cap ls peer _ HN.out hl1 HM.out HV.out x HX.out).mono ?_
      rintro e w2 ⟨k, rfl, hk, b2⟩
      clear hk
      have B2 := bstep b1 b2; clear b1 b2 hl hl1
      go_wp2_with fail
      go_ret
      exact ⟨rfl, ball B2 _⟩
    · have hc : costV ls peer = 0 := by unfold costV; rw [if_neg (fun h => hp h.2)]
      rw [hc]; clear hc hv
      have HP := Lib.hid (show (decide (0 ≤ peer) && decide (peer ≤ 59)) = false by simp; omega)
      by_cases p0 : peer < 0
      · clear hp
        go_enter Try.func13, Try.ntmps13
        go_wp2_with fail
        refine (valid_at n a cap ls _ _ HN.out hl HM.out HV.out).mono ?_
        rintro e w1 ⟨rfl, b1⟩
        go_wp2_with fail
        refine (peer_at peer false _ HP.out).mono ?_
        rintro e w2 ⟨rfl, rfl⟩
        go_wp2_with fail
        go_ret
        exact ⟨rfl, b1⟩
      · have p1 : 59 < peer := by omega
        clear hp
        go_enter Try.func13, Try.ntmps13
        go_wp2_with fail
        refine (valid_at n a cap ls _ _ HN.out hl HM.out HV.out).mono ?_
        rintro e w1 ⟨rfl, b1⟩
        go_wp2_with fail
        refine (peer_at peer false _ HP.out).mono ?_
        rintro e w2 ⟨rfl, rfl⟩
        go_wp2_with fail
        go_ret
        exact ⟨rfl, b1⟩

set_option maxRecDepth 100000 in
set_option maxHeartbeats 2000000 in
theorem rcost_any (a : Option Addr) (cap : Nat) (ls : List Lk) (peer : Int) (w : World) (hl : LkAt w a ls) (hm : ls.length ≤ maxLen) :
    Calls Try.prog 14 #[.slice a ls.length cap, .int .i64 peer] w fun e w' => e = .returned (.int .i64 (costV ls peer)) ∧ Below w.heap.size w w' := by
  obtain ⟨n, hn⟩ : ∃ n, n = ls.length := ⟨_, rfl⟩
  rw [← hn]
  have HN := Lib.hid hn; clear hn
  have HM := Lib.hid hm; clear hm
  cases hv : validV ls
  · have HV := Lib.hid hv
    have hc : costV ls peer = 0 := by unfold costV; rw [if_neg (by simp [hv])]
    rw [hc]; clear hc hv
    go_enter Try.func14, Try.ntmps14
    go_wp2_with fail
    refine (rvalid_at n a cap ls _ _ HN.out hl HM.out HV.out).mono ?_
    rintro e w1 ⟨rfl, b1⟩
    go_wp2_with fail
    go_ret
    exact ⟨rfl, b1⟩
  · have HV := Lib.hid hv
    by_cases hp : 0 ≤ peer ∧ peer ≤ 59
    · have hc : costV ls peer = priceV (ofV ls peer) := by unfold costV; rw [if_pos ⟨hv, hp⟩]
      have hok := (lkOk_iff _).1 (of_ok hv hp.1 hp.2).1
      rw [hc]; clear hc hv
      obtain ⟨x, hx⟩ : ∃ x, ofV ls peer = x := ⟨_, rfl⟩
      rw [hx] at hok ⊢
      have HX := Lib.hid hx; clear hx
      have HP := Lib.hid (show (decide (0 ≤ peer) && decide (peer ≤ 59)) = true by simp [hp])
      obtain ⟨_, _, s0, s1, g0, g1⟩ := hok
      have hq := quo_bd s0 s1 g0
      unfold priceV
      obtain ⟨q, hqq⟩ : ∃ q, 128 * (x.s + 1) / (x.g + 1) = q := ⟨_, rfl⟩
      rw [hqq] at hq ⊢
      have ht : (128 * (x.s + 1)).tdiv (x.g + 1) = q := by rw [Int.tdiv_eq_ediv_of_nonneg (by omega)]; exact hqq
      have hq0 := hq.1
      have hq1 := hq.2
      have ne : ¬ x.g + 1 = 0 := by omega
      have p0 : ¬ peer < 0 := by omega
      have p1 : ¬ 59 < peer := by omega
      clear hqq hq hp
      go_enter Try.func14, Try.ntmps14
      go_wp2_with fail
      refine (rvalid_at n a cap ls _ _ HN.out hl HM.out HV.out).mono ?_
      rintro e w1 ⟨rfl, b1⟩
      have hl1 := hl.keep b1
      go_wp2_with fail
      refine (rof_at n a cap ls peer _ HN.out hl1 HM.out x HX.out).mono ?_
      rintro e w2 ⟨rfl, b2⟩
      have B2 := bstep b1 b2; clear b1 b2 hl hl1
      go_wp2_with fail
      go_ret
      exact ⟨rfl, ball B2 _⟩
    · have hc : costV ls peer = 0 := by unfold costV; rw [if_neg (fun h => hp h.2)]
      rw [hc]; clear hc hv
      have HP := Lib.hid (show (decide (0 ≤ peer) && decide (peer ≤ 59)) = false by simp; omega)
      by_cases p0 : peer < 0
      · clear hp
        go_enter Try.func14, Try.ntmps14
        go_wp2_with fail
        refine (rvalid_at n a cap ls _ _ HN.out hl HM.out HV.out).mono ?_
        rintro e w1 ⟨rfl, b1⟩
        go_wp2_with fail
        go_ret
        exact ⟨rfl, b1⟩
      · have p1 : 59 < peer := by omega
        clear hp
        go_enter Try.func14, Try.ntmps14
        go_wp2_with fail
        refine (rvalid_at n a cap ls _ _ HN.out hl HM.out HV.out).mono ?_
        rintro e w1 ⟨rfl, b1⟩
        go_wp2_with fail
        go_ret
        exact ⟨rfl, b1⟩

end Go.Proofs.Ytfhdpogngdgklaa
