/- Proved: the plain arithmetic of windows of counters: sixty-four bits below a greatest counter. Conditions: those that each theorem names. -/
import Derived.Test.YtlofghfdcfpaiaaKit
namespace Go.Proofs.Ytlofghfdcfpaiaa
open Go.RowKit Go.Sort
set_option linter.unusedVariables false

def U : Nat := 18446744073709551616
theorem U_pow : U = 2 ^ 64 := by decide

theorem bit_and (B i : Nat) (hB : B < U) : (bits .and .u64 ((B : Int) / 2 ^ i) 1 == 1) = B.testBit i := by
  have e : ((B : Int) / 2 ^ i) = ((B / 2 ^ i : Nat) : Int) := by
    rw [Int.natCast_ediv]; norm_cast
  have hlt : B / 2 ^ i < 18446744073709551616 := Nat.lt_of_le_of_lt (Nat.div_le_self _ _) hB
  have h := u64_and_nat (B / 2 ^ i) 1 hlt (by decide)
  rw [e, show ((1 : Int) = ((1 : Nat) : Int)) from rfl, h, nat_mask1, Nat.testBit_eq_decide_div_mod_eq]
  by_cases hb : B / 2 ^ i % 2 = 1
  · simp [hb]
  · have : B / 2 ^ i % 2 = 0 := by omega
    simp [this]

theorem shl_nat (B i : Nat) : IntKind.u64.wrap ((B : Int) * 2 ^ i) = (((B <<< i) % U : Nat) : Int) := by
  rw [IntKind.wrap_u64, Nat.shiftLeft_eq, Int.natCast_emod, Int.natCast_mul, Int.natCast_pow]
  rfl
theorem one_nat (i : Nat) (hi : i < 64) : IntKind.u64.wrap (2 ^ i) = ((1 <<< i : Nat) : Int) := by
  have h := shl_nat 1 i
  rw [show (((1 : Nat) : Int) * 2 ^ i) = 2 ^ i from by simp] at h
  rw [h, Nat.mod_eq_of_lt]
  rw [Nat.shiftLeft_eq, U_pow, Nat.one_mul]
  exact Nat.pow_lt_pow_right (by decide) hi

def counterN (n : Int) : Bool := decide (1 ≤ n ∧ n ≤ 1000000000)
def hasN (B : Nat) (i : Int) : Bool := decide (0 ≤ i ∧ i < 64) && B.testBit i.toNat
def upN (B : Nat) (by_ : Int) : Nat := if 64 ≤ by_ then 0 else (B <<< by_.toNat) % U
def withN (B : Nat) (i : Int) : Nat := B ||| (1 <<< i.toNat)
def validN (T : Int) (B : Nat) : Bool :=
  if T = 0 then decide (B = 0) else counterN T && hasN B 0 && (decide (64 ≤ T) || decide (B / 2 ^ T.toNat = 0))
def freshN (T : Int) (B : Nat) (n : Int) : Bool := validN T B && counterN n && decide (T - n < 64) && !hasN B (T - n)
def noteE (T : Int) (B : Nat) (n : Int) : Int := if validN T B = false ∨ counterN n = false then 1 else if freshN T B n = false then 14 else 0
def noteT (T : Int) (B : Nat) (n : Int) : Int := if noteE T B n = 0 then max T n else 0
def noteB (T : Int) (B : Nat) (n : Int) : Nat := if noteE T B n = 0 then withN (upN B (max T n - T)) (max T n - n) else 0

theorem upN_lt (B : Nat) (k : Int) : upN B k < U := by
  unfold upN; split
  · decide
  · exact Nat.mod_lt _ (by decide)
theorem withN_lt {B : Nat} (hB : B < U) {i : Int} (h0 : 0 ≤ i) (h1 : i < 64) : withN B i < U := by
  unfold withN
  rw [U_pow] at *
  refine Nat.or_lt_two_pow hB ?_
  rw [Nat.shiftLeft_eq, Nat.one_mul]
  exact Nat.pow_lt_pow_right (by decide) (by omega)
theorem counter_bd {n : Int} (h : counterN n = true) : 1 ≤ n ∧ n ≤ 1000000000 := by simpa [counterN] using h
theorem valid_bd {T : Int} {B : Nat} (h : validN T B = true) : 0 ≤ T ∧ T ≤ 1000000000 := by
  unfold validN at h
  split at h
  · omega
  · simp only [Bool.and_eq_true] at h
    have := counter_bd h.1.1
    omega
theorem fresh_bd {T : Int} {B : Nat} {n : Int} (h : freshN T B n = true) : validN T B = true ∧ counterN n = true ∧ T - n < 64 := by
  simp only [freshN, Bool.and_eq_true, decide_eq_true_eq] at h
  exact ⟨h.1.1.1, h.1.1.2, h.1.2⟩
theorem note_ok {T : Int} {B : Nat} {n : Int} : noteE T B n = 0 ↔ freshN T B n = true := by
  unfold noteE
  constructor
  · intro h
    split at h
    · omega
    · split at h
      · omega
      · rename_i h2; simpa using h2
  · intro h
    have := fresh_bd h
    simp [this.1, this.2.1, h]
theorem noteB_lt (T : Int) (B : Nat) (n : Int) : noteB T B n < U := by
  unfold noteB
  split
  · rename_i h
    have := fresh_bd (note_ok.1 h)
    have := counter_bd this.2.1
    exact withN_lt (upN_lt _ _) (by omega) (by omega)
  · decide
end Go.Proofs.Ytlofghfdcfpaiaa
