/- Proved: plain facts: a step of the generator is one to one; what Perm returns holds each number once; how one Perm comes out of the next shorter one. Conditions: those that each theorem names. -/
import Derived.Test.YthcfpikalmklbaaDoorR7
namespace Go.Proofs.YthcfpikalmklbaaDoor
open Go.RowKit Go.Sort Go.Proofs.YthcfpikalmklbaaDoor.K
set_option linter.unusedVariables false

theorem xorShift_inj (r : Nat) (hr : 1 ≤ r) (X Y : Nat) (hX : X < 2 ^ 64) (hY : Y < 2 ^ 64) (h : X ^^^ (X >>> r) = Y ^^^ (Y >>> r)) : X = Y := by
  have hb : ∀ (m i : Nat), 64 ≤ i + m → X.testBit i = Y.testBit i := by
    intro m
    induction m with
    | zero =>
      intro i hi
      have hi' : (2 : Nat) ^ 64 ≤ 2 ^ i := Nat.pow_le_pow_right (by decide) (by omega)
      rw [Nat.testBit_lt_two_pow (Nat.lt_of_lt_of_le hX hi'), Nat.testBit_lt_two_pow (Nat.lt_of_lt_of_le hY hi')]
    | succ m ih =>
      intro i hi
      have h1 := congrArg (fun z => Nat.testBit z i) h
      simp only [Nat.testBit_xor, Nat.testBit_shiftRight] at h1
      have h2 := ih (r + i) (by omega)
      rw [h2] at h1
      revert h1
      cases X.testBit i <;> cases Y.testBit i <;> cases Y.testBit (r + i) <;> simp
  exact Nat.eq_of_testBit_eq fun i => hb 64 i (by omega)

theorem xs_inj (r : Nat) (hr : 1 ≤ r) (x y : Int) (hx : 0 ≤ x ∧ x ≤ 18446744073709551615) (hy : 0 ≤ y ∧ y ≤ 18446744073709551615) (h : xs x ((2 ^ r : Nat) : Int) = xs y ((2 ^ r : Nat) : Int)) : x = y := by
  obtain ⟨X, rfl⟩ := Int.eq_ofNat_of_zero_le hx.1
  obtain ⟨Y, rfl⟩ := Int.eq_ofNat_of_zero_le hy.1
  have hX : X < 18446744073709551616 := by omega
  have hY : Y < 18446744073709551616 := by omega
  unfold xs at h
  rw [xorShift_u64 X _ hX, xorShift_u64 Y _ hY] at h
  have h' := Int.ofNat.inj h
  rw [← Nat.shiftRight_eq_div_pow, ← Nat.shiftRight_eq_div_pow] at h'
  rw [xorShift_inj r hr X Y (by simpa using hX) (by simpa using hY) h']

theorem mul_back (c d t x : Int) (hc : c * d = 1 + 18446744073709551616 * t) (hx : 0 ≤ x ∧ x ≤ 18446744073709551615) : (x * c % 18446744073709551616 * d) % 18446744073709551616 = x := by
  rw [Int.mul_emod, Int.emod_emod_of_dvd _ (Int.dvd_refl _), ← Int.mul_emod, Int.mul_assoc, hc, Int.mul_add, Int.mul_one, ← Int.mul_assoc, Int.mul_comm x 18446744073709551616, Int.mul_assoc, Int.add_mul_emod_self_left]
  omega
theorem wrap_emod (x : Int) : IntKind.u64.wrap x = x % 18446744073709551616 := by rw [IntKind.wrap_u64]
theorem mul1_inj (x y : Int) (hx : 0 ≤ x ∧ x ≤ 18446744073709551615) (hy : 0 ≤ y ∧ y ≤ 18446744073709551615) (h : mul1 x = mul1 y) : x = y := by
  unfold mul1 at h
  rw [wrap_emod, wrap_emod] at h
  rw [← mul_back 13787848793156543929 10871156337175269513 8125545580553827436 x (by decide) hx, h, mul_back 13787848793156543929 10871156337175269513 8125545580553827436 y (by decide) hy]
theorem mul2_inj (x y : Int) (hx : 0 ≤ x ∧ x ≤ 18446744073709551615) (hy : 0 ≤ y ∧ y ≤ 18446744073709551615) (h : mul2 x = mul2 y) : x = y := by
  unfold mul2 at h
  rw [wrap_emod, wrap_emod] at h
  rw [← mul_back 10723151780598845931 3573116690164977347 2077064247507883091 x (by decide) hx, h, mul_back 10723151780598845931 3573116690164977347 2077064247507883091 y (by decide) hy]
theorem add0_inj (x y : Int) (hx : 0 ≤ x ∧ x ≤ 18446744073709551615) (hy : 0 ≤ y ∧ y ≤ 18446744073709551615) (h : add0 x = add0 y) : x = y := by
  unfold add0 at h
  rw [wrap_emod, wrap_emod] at h
  omega
theorem next_inj (s t : Int) (hs : 0 ≤ s ∧ s ≤ 18446744073709551615) (ht : 0 ≤ t ∧ t ≤ 18446744073709551615) (h : nextV s = nextV t) : s = t := by
  have a1 : ∀ x : Int, 0 ≤ add0 x ∧ add0 x ≤ 18446744073709551615 := fun x => wrap_bd _
  have m1 : ∀ x : Int, 0 ≤ mul1 x ∧ mul1 x ≤ 18446744073709551615 := fun x => wrap_bd _
  have m2 : ∀ x : Int, 0 ≤ mul2 x ∧ mul2 x ≤ 18446744073709551615 := fun x => wrap_bd _
  have x1 : ∀ x : Int, 0 ≤ xs (add0 x) 1073741824 ∧ xs (add0 x) 1073741824 ≤ 18446744073709551615 := fun x => xs_bd (a1 x).1 (a1 x).2 (by decide)
  have x2 : ∀ x : Int, 0 ≤ xs (mul1 x) 134217728 ∧ xs (mul1 x) 134217728 ≤ 18446744073709551615 := fun x => xs_bd (m1 x).1 (m1 x).2 (by decide)
  unfold nextV at h
  have h1 := xs_inj 31 (by decide) _ _ (m2 _) (m2 _) h
  have h2 := mul2_inj _ _ (x2 _) (x2 _) h1
  have h3 := xs_inj 27 (by decide) _ _ (m1 _) (m1 _) h2
  have h4 := mul1_inj _ _ (x1 _) (x1 _) h3
  have h5 := xs_inj 30 (by decide) _ _ (a1 _) (a1 _) h4
  exact add0_inj s t hs ht h5

/-! ### lists -/
theorem getD_set (l : List Int) (i j : Nat) (x : Int) : (l.set i x).getD j 0 = if j = i ∧ i < l.length then x else l.getD j 0 := by
  simp only [List.getD_eq_getElem?_getD, List.getElem?_set]
  split <;> rename_i h
  · subst h
    split <;> rename_i h2
    · rw [if_pos ⟨rfl, h2⟩]; rfl
    · rw [if_neg (fun hh => h2 hh.2), List.getElem?_eq_none (by omega)]
  · rw [if_neg (fun hh => h hh.1.symm)]
theorem swapI_len (l : List Int) (i k : Nat) : (swapI l i k).length = l.length := by simp [swapI]
def sw (i k j : Nat) : Nat := if j = k then i else if j = i then k else j
theorem swapI_getD (l : List Int) (i k j : Nat) (hi : i < l.length) (hk : k < l.length) : (swapI l i k).getD j 0 = l.getD (sw i k j) 0 := by
  unfold swapI sw
  rw [getD_set, getD_set, List.length_set]
  by_cases h1 : j = k
  · rw [if_pos ⟨h1, hk⟩, if_pos h1]
  · rw [if_neg (fun h => h1 h.1), if_neg h1]
    by_cases h2 : j = i
    · rw [if_pos ⟨h2, hi⟩, if_pos h2]
    · rw [if_neg (fun h => h2 h.1), if_neg h2]
theorem sw_lt {n i k j : Nat} (hi : i < n) (hk : k < n) (hj : j < n) : sw i k j < n := by unfold sw; split <;> (try split) <;> omega
theorem sw_inj {i k j j' : Nat} (h : sw i k j = sw i k j') : j = j' := by
  unfold sw at h
  split at h <;> split at h <;> (try split at h) <;> (try split at h) <;> omega

theorem pick_lt (s : Int) {n k : Nat} (hk : k < n) (h0 : 0 ≤ s) : pickN s n k < n := by have := pickN_lt s hk h0; omega
theorem iota_getD {n j : Nat} (h : j < n) : ((List.range n).map (fun (j : Nat) => (j : Int))).getD j 0 = (j : Int) := by
  simp [List.getD_eq_getElem?_getD, h]
theorem permK_once (s : Int) (n : Nat) (h0 : 0 ≤ s) : ∀ k, k ≤ n → (∀ j, j < n → 0 ≤ (permK s n k).getD j 0 ∧ (permK s n k).getD j 0 < n) ∧ (∀ i j, i < n → j < n → (permK s n k).getD i 0 = (permK s n k).getD j 0 → i = j)
  | 0, _ => by
    refine ⟨fun j hj => ?_, fun i j hi hj h => ?_⟩
    · rw [permK, iota_getD hj]; omega
    · rw [permK, iota_getD hi, iota_getD hj] at h; omega
  | k + 1, hk => by
    obtain ⟨h1, h2⟩ := permK_once s n h0 k (by omega)
    have hl := permK_len s n k
    have hp := pick_lt s (n := n) (k := k) (by omega) h0
    have hg : ∀ j, (permK s n (k + 1)).getD j 0 = (permK s n k).getD (sw (n - 1 - k) (pickN s n k) j) 0 := fun j => by
      rw [permK]; exact swapI_getD _ _ _ _ (by omega) (by omega)
    refine ⟨fun j hj => ?_, fun i j hi hj h => ?_⟩
    · rw [hg]; exact h1 _ (sw_lt (by omega) hp hj)
    · rw [hg, hg] at h
      exact sw_inj (h2 _ _ (sw_lt (by omega) hp hi) (sw_lt (by omega) hp hj) h)

theorem stV_next (s : Int) : ∀ k, stV (nextV s) k = stV s (k + 1)
  | 0 => rfl
  | k + 1 => by rw [stV, stV_next s k]; rfl
/-- How the list of n comes out of that of n - 1. -/
theorem permK_step (s : Int) (n : Nat) (h0 : 0 ≤ s) (hn : 2 ≤ n) : ∀ k, k ≤ n - 2 →
    (∀ j, j < n - 1 → (permK s n (k + 1)).getD j 0 = if (permK (nextV s) (n - 1) k).getD j 0 = pickN s n 0 then ((n - 1 : Nat) : Int) else (permK (nextV s) (n - 1) k).getD j 0) ∧
    (permK s n (k + 1)).getD (n - 1) 0 = pickN s n 0
  | 0, _ => by
    have hp := pick_lt s (n := n) (k := 0) (by omega) h0
    have hl := permK_len s n 0
    have hg : ∀ j, (permK s n (0 + 1)).getD j 0 = (permK s n 0).getD (sw (n - 1 - 0) (pickN s n 0) j) 0 := fun j =>
      swapI_getD (permK s n 0) (n - 1 - 0) (pickN s n 0) j (by omega) (by omega)
    refine ⟨fun j hj => ?_, ?_⟩
    · rw [hg]
      have e1 : (permK s n 0).getD (sw (n - 1 - 0) (pickN s n 0) j) 0 = ((sw (n - 1 - 0) (pickN s n 0) j : Nat) : Int) := by
        rw [permK]; exact iota_getD (sw_lt (by omega) hp (by omega))
      have e2 : (permK (nextV s) (n - 1) 0).getD j 0 = (j : Int) := by rw [permK]; exact iota_getD hj
      rw [e1, e2]
      unfold sw
      split <;> (try split) <;> (try split) <;> omega
    · rw [hg]
      have e1 : (permK s n 0).getD (sw (n - 1 - 0) (pickN s n 0) (n - 1)) 0 = ((sw (n - 1 - 0) (pickN s n 0) (n - 1) : Nat) : Int) := by
        rw [permK]; exact iota_getD (sw_lt (by omega) hp (by omega))
      rw [e1]
      unfold sw
      split <;> (try split) <;> omega
  | k + 1, hk => by
    obtain ⟨h1, h2⟩ := permK_step s n h0 hn k (by omega)
    have hx0 := (nextV_bd s).1
    have hp := pickN_lt s (n := n) (k := k + 1) (by omega) h0
    have hp' := pickN_lt (nextV s) (n := n - 1) (k := k) (by omega) hx0
    have hpe : pickN (nextV s) (n - 1) k = pickN s n (k + 1) := by
      unfold pickN
      rw [stV_next, show n - 1 - 1 - k = n - 1 - (k + 1) from by omega]
    have hl := permK_len s n (k + 1)
    have hl' := permK_len (nextV s) (n - 1) k
    have hg : ∀ j, (permK s n (k + 1 + 1)).getD j 0 = (permK s n (k + 1)).getD (sw (n - 1 - (k + 1)) (pickN s n (k + 1)) j) 0 := fun j => by
      rw [permK]; exact swapI_getD _ _ _ _ (by omega) (by omega)
    have hg' : ∀ j, (permK (nextV s) (n - 1) (k + 1)).getD j 0 = (permK (nextV s) (n - 1) k).getD (sw (n - 1 - (k + 1)) (pickN s n (k + 1)) j) 0 := fun j => by
      rw [permK, hpe, show n - 1 - 1 - k = n - 1 - (k + 1) from by omega]; exact swapI_getD _ _ _ _ (by omega) (by omega)
    refine ⟨fun j hj => ?_, ?_⟩
    · rw [hg, hg', h1 _ (sw_lt (by omega) (by omega) hj)]
    · rw [hg, show sw (n - 1 - (k + 1)) (pickN s n (k + 1)) (n - 1) = n - 1 from by unfold sw; split <;> (try split) <;> omega]
      exact h2
theorem pick_below (s : Int) {n : Nat} (h1 : 1 ≤ n) (h2 : n ≤ 1000) : belowV s n = ((pickN s n 0 : Nat) : Int) := by
  unfold belowV pickN
  rw [if_pos (by omega)]
  have hb := hn_bd s
  rw [show ((n - 1 - 0 : Nat) : Int) + 1 = (n : Int) from by omega]
  exact (Int.toNat_of_nonneg (Int.emod_nonneg _ (by omega))).symm
end Go.Proofs.YthcfpikalmklbaaDoor
