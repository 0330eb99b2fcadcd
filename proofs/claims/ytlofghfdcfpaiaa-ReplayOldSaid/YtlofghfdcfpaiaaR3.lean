/- Proved: the plain arithmetic of the reference's windows: bit by bit they are the program's. Conditions: those that each theorem names. -/
import Derived.Test.YtlofghfdcfpaiaaR2
namespace Go.Proofs.Ytlofghfdcfpaiaa
open Go.RowKit Go.Sort
set_option linter.unusedVariables false

theorem one_bit (j : Nat) : Nat.testBit 1 j = decide (j = 0) := by
  cases j with
  | zero => rfl
  | succ j => rw [Nat.testBit_succ]; simp
theorem high_bits {B : Nat} (hB : B < U) {i : Nat} (hi : 64 ≤ i) : B.testBit i = false := by
  apply Nat.testBit_lt_two_pow
  rw [U_pow] at hB
  exact Nat.lt_of_lt_of_le hB (Nat.pow_le_pow_right (by decide) hi)

theorem div_zero_iff (B k : Nat) : B / 2 ^ k = 0 ↔ ∀ i, k ≤ i → B.testBit i = false := by
  constructor
  · intro h i hi
    have hlt : B < 2 ^ k := by
      rcases Nat.lt_or_ge B (2 ^ k) with h' | h'
      · exact h'
      · have := Nat.div_pos h' (Nat.two_pow_pos k); omega
    exact Nat.testBit_lt_two_pow (Nat.lt_of_lt_of_le hlt (Nat.pow_le_pow_right (by decide) hi))
  · intro h
    apply Nat.eq_of_testBit_eq
    intro i
    rw [Nat.testBit_div_two_pow, Nat.zero_testBit]
    exact h _ (by omega)

theorem valid_eq {T : Int} {B : Nat} (hB : B < U) (h1 : 1 ≤ T) (h2 : T ≤ 1000000000) (hall : ∀ j : Nat, j < 64 → T - j < 1 → B.testBit j = false) : validN T B = B.testBit 0 := by
  have hc : counterN T = true := by simp [counterN]; omega
  have hh : hasN B 0 = B.testBit 0 := by simp [hasN]
  have hT : ¬ T = 0 := by omega
  have hz : (decide (64 ≤ T) || decide (B / 2 ^ T.toNat = 0)) = true := by
    by_cases h : 64 ≤ T
    · simp [h]
    · have : B / 2 ^ T.toNat = 0 := (div_zero_iff _ _).2 fun i hi => by
        by_cases h64 : i < 64
        · exact hall i h64 (by omega)
        · exact high_bits hB (by omega)
      simp [this]
  simp only [validN, hT, if_false, hc, hh, hz]
  simp

theorem valid_no {T : Int} {B : Nat} (h1 : 1 ≤ T) {j : Nat} (hj : j < 64) (hjT : T - j < 1) (hb : B.testBit j = true) : validN T B = false := by
  have hT : ¬ T = 0 := by omega
  have h64 : ¬ 64 ≤ T := by omega
  have hz : ¬ B / 2 ^ T.toNat = 0 := fun h => by
    have := (div_zero_iff _ _).1 h j (by omega)
    rw [this] at hb; cases hb
  simp [validN, hT, h64, hz]

/-- What the reference asks of the bit for the counter i below the top. -/
def condN (T : Int) (B : Nat) (n : Int) (i : Nat) : Bool :=
  decide (max T n - i = n) || (decide (max T n - i ≤ T) && decide (T - 64 < max T n - i) && B.testBit (T - (max T n - i)).toNat)

theorem up_bit {B : Nat} {d : Int} (hd : 0 ≤ d) (j : Nat) : (upN B d).testBit j = (decide (j < 64) && (decide (d ≤ j) && B.testBit (j - d.toNat))) := by
  unfold upN
  split
  · rename_i h
    rw [Nat.zero_testBit]
    by_cases h1 : j < 64
    · have : ¬ d ≤ (j : Int) := by omega
      simp [this]
    · simp [h1]
  · rw [U_pow, Nat.testBit_mod_two_pow, Nat.testBit_shiftLeft]
    by_cases h2 : d ≤ (j : Int)
    · have : d.toNat ≤ j := by omega
      simp [h2, this]
    · have : ¬ d.toNat ≤ j := by omega
      simp [h2, this]

theorem note_bit {T : Int} {B : Nat} {n : Int} (hB : B < U) (hf : freshN T B n = true) (j : Nat) (hj : j < 64) :
    (withN (upN B (max T n - T)) (max T n - n)).testBit j = condN T B n j := by
  obtain ⟨hv, hc, hd⟩ := fresh_bd hf
  unfold withN condN
  rw [Nat.testBit_or, up_bit (by omega), Nat.testBit_shiftLeft]
  have e1 : (decide ((max T n - n).toNat ≤ j) && Nat.testBit 1 (j - (max T n - n).toNat)) = decide (max T n - j = n) := by
    rw [one_bit]
    by_cases h : max T n - j = n
    · have h1 : (max T n - n).toNat ≤ j := by omega
      have h2 : j - (max T n - n).toNat = 0 := by omega
      rw [h2]; simp [h, h1]
    · by_cases h1 : (max T n - n).toNat ≤ j
      · have h2 : ¬ (j - (max T n - n).toNat = 0) := by omega
        simp [h, h1, h2]
      · simp [h, h1]
  rw [e1, Bool.or_comm]
  congr 1
  by_cases h1 : max T n - T ≤ (j : Int)
  · have h2 : max T n - (j : Int) ≤ T := by omega
    have h3 : T - 64 < max T n - (j : Int) := by omega
    have h4 : (T - (max T n - (j : Int))).toNat = j - (max T n - T).toNat := by omega
    simp [hj, h1, h2, h3, h4]
  · have h2 : ¬ max T n - (j : Int) ≤ T := by omega
    simp [h1, h2]

/-- A number of sixty-four bits that has just the reference's bits is the program's. -/
theorem note_eq {T : Int} {B : Nat} {n : Int} {X : Nat} (hB : B < U) (hf : freshN T B n = true) (hX : X < U) (h : ∀ j, j < 64 → X.testBit j = condN T B n j) :
    X = withN (upN B (max T n - T)) (max T n - n) := by
  apply Nat.eq_of_testBit_eq
  intro j
  obtain ⟨hv, hc, hd⟩ := fresh_bd hf
  by_cases hj : j < 64
  · rw [h j hj, note_bit hB hf j hj]
  · rw [high_bits hX (by omega), high_bits (withN_lt (upN_lt _ _) (by omega) (by omega)) (by omega)]

theorem or_bit (X i j : Nat) : (X ||| 1 <<< i).testBit j = (X.testBit j || decide (j = i)) := by
  rw [Nat.testBit_or, Nat.testBit_shiftLeft, one_bit]
  congr 1
  by_cases h : j = i
  · subst h; simp
  · by_cases h1 : i ≤ j
    · have : ¬ j - i = 0 := by omega
      simp [h, h1, this]
    · simp [h, h1]
theorem or_lt {X i : Nat} (hX : X < U) (hi : i < 64) : X ||| 1 <<< i < U := by
  rw [U_pow] at *
  refine Nat.or_lt_two_pow hX ?_
  rw [Nat.shiftLeft_eq, Nat.one_mul]
  exact Nat.pow_lt_pow_right (by decide) hi
end Go.Proofs.Ytlofghfdcfpaiaa
