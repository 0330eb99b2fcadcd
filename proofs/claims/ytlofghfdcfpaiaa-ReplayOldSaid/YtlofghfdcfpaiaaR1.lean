/- Proved: what the functions of package replay return, and that they write nothing that was there. Conditions: the bits of a window fit into a uint64. -/
import Derived.Test.YtlofghfdcfpaiaaR0
namespace Go.Proofs.Ytlofghfdcfpaiaa
open Go.RowKit Go.Sort
set_option linter.unusedVariables false
attribute [local go_sem] cell_alloc_old

theorem ret_u {a b : Int} {k : IntKind} (h : a = b) : Ending.returned (.int k a) = .returned (.int k b) := by rw [h]
theorem ret_b {a b : Bool} (h : a = b) : Ending.returned (.bool a) = .returned (.bool b) := by rw [h]

theorem has_any (B : Nat) (i : Int) (w : World) (hB : B < U) :
    Calls Try.prog 24 #[.int .u64 B, .int .i64 i] w fun e w' => e = .returned (.bool (hasN B i)) ∧ w = w' := by
  by_cases h0 : 0 ≤ i
  · by_cases h1 : i < 64
    · have hb := bit_and B i.toNat hB
      have e1 : hasN B i = B.testBit i.toNat := by simp [hasN, h0, h1]
      have E1 := Lib.hid e1; have HB := Lib.hid hb; clear e1 hb
      have hB' : (B : Int) < 18446744073709551616 := by unfold U at hB; omega
      go_enter Try.func24, Try.ntmps24
      go_wp2
      go_ret
      exact ⟨ret_b (by rw [E1.out]; exact HB.out), rfl⟩
    · have e1 : hasN B i = false := by simp [hasN, h1]
      rw [e1]
      go_enter Try.func24, Try.ntmps24
      go_wp2
      go_ret
      exact ⟨rfl, rfl⟩
  · have e1 : hasN B i = false := by simp [hasN, h0]
    rw [e1]
    go_enter Try.func24, Try.ntmps24
    go_wp2
    go_ret
    exact ⟨rfl, rfl⟩

theorem up_any (B : Nat) (k : Int) (w : World) (hk : 0 ≤ k) :
    Calls Try.prog 21 #[.int .u64 B, .int .i64 k] w fun e w' => e = .returned (.int .u64 (upN B k)) ∧ w = w' := by
  by_cases h : 64 ≤ k
  · have e1 : ((upN B k : Nat) : Int) = 0 := by simp [upN, h]
    rw [e1]
    go_enter Try.func21, Try.ntmps21
    go_wp2
    go_ret
    exact ⟨rfl, rfl⟩
  · have e1 : upN B k = (B <<< k.toNat) % U := by simp [upN, h]
    have hs := shl_nat B k.toNat
    have E1 := Lib.hid e1; have HS := Lib.hid hs; clear e1 hs
    go_enter Try.func21, Try.ntmps21
    go_wp2
    go_ret
    exact ⟨ret_u (by rw [E1.out]; exact HS.out), rfl⟩

theorem with_any (B : Nat) (i : Int) (w : World) (hB : B < U) (h0 : 0 ≤ i) (h1 : i < 64) :
    Calls Try.prog 22 #[.int .u64 B, .int .i64 i] w fun e w' => e = .returned (.int .u64 (withN B i)) ∧ w = w' := by
  have h2 := one_nat i.toNat (by omega)
  have h3 : 1 <<< i.toNat < 18446744073709551616 := by
    rw [Nat.shiftLeft_eq, Nat.one_mul]; exact Nat.lt_of_lt_of_le (Nat.pow_lt_pow_right (by decide) (show i.toNat < 64 by omega)) (by decide)
  have h4 := u64_or_nat B (1 <<< i.toNat) hB h3
  have H2 := Lib.hid h2; have H4 := Lib.hid h4; clear h2 h3 h4
  go_enter Try.func22, Try.ntmps22
  go_wp2
  go_ret
  exact ⟨ret_u (by unfold withN; rw [← H4.out, ← H2.out]), rfl⟩

theorem isCounter_any (n : Int) (w : World) :
    Calls Try.prog 19 #[.int .i64 n] w fun e w' => e = .returned (.bool (counterN n)) ∧ w = w' := by
  by_cases h0 : 1 ≤ n
  · by_cases h1 : n ≤ 1000000000
    · have e1 : counterN n = true := by simp [counterN, h0, h1]
      rw [e1]
      go_enter Try.func19, Try.ntmps19
      go_wp2
      go_ret
      exact ⟨rfl, rfl⟩
    · have e1 : counterN n = false := by simp [counterN, h1]
      rw [e1]
      go_enter Try.func19, Try.ntmps19
      go_wp2
      go_ret
      exact ⟨rfl, rfl⟩
  · have e1 : counterN n = false := by simp [counterN, h0]
    rw [e1]
    go_enter Try.func19, Try.ntmps19
    go_wp2
    go_ret
    exact ⟨rfl, rfl⟩

/-- The block in which a window that comes in is laid. -/
abbrev box (T : Int) (B : Nat) : Obj := .cells #[.int .i64 T, .int .u64 B] 24

theorem valid_any (T : Int) (B : Nat) (w : World) (hB : B < U) :
    Calls Try.prog 12 #[.agg #[.int .i64 T, .int .u64 B]] w fun e w' => e = .returned (.bool (validN T B)) ∧ w.alloc (box T B) = w' := by
  by_cases hT : T = 0
  · subst hT
    have e1 : validN 0 B = ((B : Int) == 0) := by
      simp only [validN, if_true]
      by_cases hb : B = 0 <;> simp [hb]
    have E1 := Lib.hid e1; clear e1
    go_enter Try.func12, Try.ntmps12
    go_wp2
    all_goals
      go_ret
      exact ⟨ret_b (by rw [E1.out]), rfl⟩
  · have hT' : (T == 0) = false := by simpa using hT
    cases hc : counterN T
    · have e1 : validN T B = false := by simp [validN, hT, hc]
      rw [e1]
      have HT := Lib.hid hT; clear hT
      go_enter Try.func12, Try.ntmps12
      go_wp2_with (first | (go_at_call 19; refine (isCounter_any _ _).mono ?_; rintro e w' ⟨rfl, rfl⟩))
      go_ret
      exact ⟨rfl, rfl⟩
    · obtain ⟨c1, c2⟩ := counter_bd hc
      cases hh : hasN B 0
      · have e1 : validN T B = false := by simp [validN, hT, hh]
        rw [e1]
        have HT := Lib.hid hT; clear hT
        go_enter Try.func12, Try.ntmps12
        go_wp2_with (first | (go_at_call 19; refine (isCounter_any _ _).mono ?_; rintro e w' ⟨rfl, rfl⟩) | (go_at_call 24; refine (has_any _ _ _ hB).mono ?_; rintro e w' ⟨rfl, rfl⟩))
        go_ret
        exact ⟨rfl, rfl⟩
      · by_cases h64 : T < 64
        · have e1 : validN T B = ((B : Int) / 2 ^ T.toNat == 0) := by
            have : ¬ 64 ≤ T := by omega
            simp only [validN, hT, hc, hh, if_false, this, decide_false, Bool.false_or, Bool.true_and]
            rw [show ((B : Int) / 2 ^ T.toNat) = ((B / 2 ^ T.toNat : Nat) : Int) from by rw [Int.natCast_ediv]; norm_cast]
            by_cases hb : B / 2 ^ T.toNat = 0
            · rw [hb]; rfl
            · rw [decide_eq_false hb]; symm; rw [beq_eq_false_iff_ne]; omega
          have E1 := Lib.hid e1; clear e1
          have HT := Lib.hid hT; clear hT
          go_enter Try.func12, Try.ntmps12
          go_wp2_with (first | (go_at_call 19; refine (isCounter_any _ _).mono ?_; rintro e w' ⟨rfl, rfl⟩) | (go_at_call 24; refine (has_any _ _ _ hB).mono ?_; rintro e w' ⟨rfl, rfl⟩))
          all_goals
            go_ret
            exact ⟨ret_b (by rw [E1.out]), rfl⟩
        · have e1 : validN T B = true := by simp [validN, hT, hc, hh]; omega
          rw [e1]
          have HT := Lib.hid hT; clear hT
          go_enter Try.func12, Try.ntmps12
          go_wp2_with (first | (go_at_call 19; refine (isCounter_any _ _).mono ?_; rintro e w' ⟨rfl, rfl⟩) | (go_at_call 24; refine (has_any _ _ _ hB).mono ?_; rintro e w' ⟨rfl, rfl⟩))
          go_ret
          exact ⟨rfl, rfl⟩
end Go.Proofs.Ytlofghfdcfpaiaa
