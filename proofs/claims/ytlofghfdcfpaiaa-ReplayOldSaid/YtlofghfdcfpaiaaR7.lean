/- Proved: the plain laws of windows of counters: moved, after a jump, and after any further counter. Conditions: those that each theorem names. -/
import Derived.Test.YtlofghfdcfpaiaaR3
namespace Go.Proofs.Ytlofghfdcfpaiaa
open Go.RowKit Go.Sort
set_option linter.unusedVariables false

theorem hasN_out {B : Nat} {i : Int} (h : ¬ (0 ≤ i ∧ i < 64)) : hasN B i = false := by
  unfold hasN; rw [decide_eq_false h, Bool.false_and]
theorem hasN_in {B : Nat} {i : Int} (h0 : 0 ≤ i) (h1 : i < 64) : hasN B i = B.testBit i.toNat := by
  unfold hasN; rw [decide_eq_true ⟨h0, h1⟩, Bool.true_and]

/-- Whether a window remembers a counter. -/
def seenN (T : Int) (B : Nat) (m : Int) : Bool := hasN B (T - m)

theorem valid_high {T : Int} {B : Nat} (h64 : 64 ≤ T) (h : T ≤ 1000000000) : validN T B = B.testBit 0 := by
  unfold validN counterN hasN
  rw [if_neg (by omega)]
  have h1 : (1 : Int) ≤ T := by omega
  simp [h64, h1, h]

theorem fresh_moved {T : Int} {B : Nat} {n k : Int} (hv : validN T B = true) (h64 : 64 ≤ T) (hT : T ≤ 500000000) (hn : counterN n = true) (hn2 : n ≤ 500000000) (h0 : 0 ≤ k) (h1 : k ≤ 65535) :
    freshN (T + k) B (n + k) = freshN T B n ∧ validN (T + k) B = true ∧ counterN (n + k) = true := by
  have c := counter_bd hn
  have e1 : validN (T + k) B = true := by
    rw [valid_high (by omega) (by omega)]; rw [valid_high h64 (by omega)] at hv; exact hv
  have e2 : counterN (n + k) = true := by simp [counterN]; omega
  refine ⟨?_, e1, e2⟩
  unfold freshN
  rw [e1, e2, hv, hn, show T + k - (n + k) = T - n from by omega]

theorem note_moved {T : Int} {B : Nat} {n k : Int} (hv : validN T B = true) (h64 : 64 ≤ T) (hT : T ≤ 500000000) (hn : counterN n = true) (hn2 : n ≤ 500000000) (h0 : 0 ≤ k) (h1 : k ≤ 65535) :
    noteE (T + k) B (n + k) = noteE T B n ∧ (noteE T B n = 0 → noteT (T + k) B (n + k) = noteT T B n + k) ∧ noteB (T + k) B (n + k) = noteB T B n := by
  obtain ⟨e0, e1, e2⟩ := fresh_moved hv h64 hT hn hn2 h0 h1
  have e3 : noteE (T + k) B (n + k) = noteE T B n := by unfold noteE; rw [e0, e1, e2, hv, hn]
  refine ⟨e3, ?_, ?_⟩
  · intro h; unfold noteT; rw [e3]; simp only [h, if_true]; omega
  · unfold noteB; rw [e3, show max (T + k) (n + k) - (T + k) = max T n - T from by omega, show max (T + k) (n + k) - (n + k) = max T n - n from by omega]

theorem jump_fresh {T : Int} {B : Nat} {d : Int} (hv : validN T B = true) (h0 : 1 ≤ d) (h1 : T + d ≤ 1000000000) : freshN T B (T + d) = true := by
  have v := valid_bd hv
  have e2 : counterN (T + d) = true := by simp [counterN]; omega
  have e3 : hasN B (T - (T + d)) = false := hasN_out (by omega)
  have e4 : T - (T + d) < 64 := by omega
  simp [freshN, hv, e2, e3, e4]
theorem jump_note {T : Int} {B : Nat} {d : Int} (hv : validN T B = true) (h0 : 1 ≤ d) (h1 : T + d ≤ 1000000000) :
    noteE T B (T + d) = 0 ∧ noteT T B (T + d) = T + d ∧ noteB T B (T + d) = if d < 64 then 1 ||| ((B <<< d.toNat) % U) else 1 := by
  have e := note_ok.2 (jump_fresh hv h0 h1)
  refine ⟨e, ?_, ?_⟩
  · unfold noteT; rw [if_pos e]; omega
  · unfold noteB withN upN
    rw [if_pos e, show max T (T + d) - T = d from by omega, show max T (T + d) - (T + d) = 0 from by omega]
    by_cases h : d < 64
    · rw [if_neg (by omega), if_pos h, Nat.or_comm]; rfl
    · rw [if_pos (by omega), if_neg h]; rfl

theorem seen_note {T : Int} {B : Nat} {n : Int} (hB : B < U) (hf : freshN T B n = true) (m : Int) :
    seenN (noteT T B n) (noteB T B n) m = (decide (m = n) || (seenN T B m && decide (noteT T B n - 64 < m))) := by
  have e := note_ok.2 hf
  have b := fresh_bd hf
  have c := counter_bd b.2.1
  have v := valid_bd b.1
  have eT : noteT T B n = max T n := by unfold noteT; rw [if_pos e]
  rw [eT]
  unfold seenN
  by_cases h : 0 ≤ max T n - m ∧ max T n - m < 64
  · have e1 := note_bit hB hf (max T n - m).toNat (by omega)
    rw [hasN_in h.1 h.2, show noteB T B n = withN (upN B (max T n - T)) (max T n - n) from by unfold noteB; rw [if_pos e], e1]
    unfold condN
    rw [show (max T n - ((max T n - m).toNat : Nat) : Int) = m from by omega]
    have h2 : max T n - 64 < m := by omega
    by_cases h3 : m = n
    · simp [h3]
    · by_cases h4 : m ≤ T
      · by_cases h5 : T - 64 < m
        · rw [hasN_in (by omega) (by omega)]
          simp [h3, h4, h5, h2]
        · omega
      · rw [hasN_out (B := B) (i := T - m) (by omega)]
        simp [h3, h4]
  · rw [hasN_out (B := noteB T B n) h]
    have h3 : ¬ m = n := by omega
    by_cases h4 : max T n - 64 < m
    · rw [hasN_out (B := B) (i := T - m) (by omega)]
      simp [h3]
    · simp [h3, h4]

theorem valid_note {T : Int} {B : Nat} {n : Int} (hB : B < U) (hf : freshN T B n = true) : validN (noteT T B n) (noteB T B n) = true := by
  have e := note_ok.2 hf
  have b := fresh_bd hf
  have c := counter_bd b.2.1
  have v := valid_bd b.1
  have eT : noteT T B n = max T n := by unfold noteT; rw [if_pos e]
  have hs := seen_note hB hf
  rw [eT] at hs ⊢
  have hb : ∀ j : Nat, j < 64 → (noteB T B n).testBit j = seenN (max T n) (noteB T B n) (max T n - j) := by
    intro j hj
    unfold seenN hasN
    rw [show max T n - (max T n - (j : Int)) = j from by omega]
    have : (j : Int) < 64 := by omega
    simp [this]
  rw [valid_eq (noteB_lt _ _ _) (by omega) (by omega)]
  · rw [hb 0 (by omega), hs]
    by_cases h : n = max T n
    · have : max T n - ((0 : Nat) : Int) = n := by omega
      rw [decide_eq_true this, Bool.true_or]
    · have hT : max T n = T := by omega
      have h2 : seenN T B T = true := by
        unfold seenN
        have hv := b.1
        unfold validN at hv
        rw [if_neg (by omega)] at hv
        simp only [Bool.and_eq_true] at hv
        rw [Int.sub_self]; exact hv.1.2
      have h3 : T - 64 < T := by omega
      rw [hT, show T - ((0 : Nat) : Int) = T from by omega, h2, decide_eq_true h3, Bool.true_and, Bool.or_true]
  · intro j hj hlt
    rw [hb j hj, hs]
    have h1 : ¬ (max T n - (j : Int) = n) := by omega
    have h2 : seenN T B (max T n - j) = false := by
      by_cases hT0 : T = 0
      · have hv := b.1
        unfold validN at hv
        rw [if_pos hT0] at hv
        have : B = 0 := by simpa using hv
        subst this
        unfold seenN hasN; simp
      · have hv := b.1
        unfold validN at hv
        rw [if_neg hT0] at hv
        simp only [Bool.and_eq_true] at hv
        by_cases h64 : 64 ≤ T
        · exact hasN_out (by omega)
        · unfold seenN hasN; have h3 : B / 2 ^ T.toNat = 0 := by
            have := hv.2; simp only [Bool.or_eq_true, decide_eq_true_eq] at this; omega
          have := (div_zero_iff B T.toNat).1 h3 (T - (max T n - (j : Int))).toNat (by omega)
          rw [this]; simp
    simp [h1, h2]

/-- What an old counter is: it is a counter, the window is valid, and it is not fresh. -/
theorem old_iff {T : Int} {B : Nat} {n : Int} : noteE T B n = 14 ↔ validN T B = true ∧ counterN n = true ∧ freshN T B n = false := by
  unfold noteE
  cases hv : validN T B <;> cases hc : counterN n <;> cases hf : freshN T B n <;> simp
theorem old_stays {T : Int} {B : Nat} {n m : Int} (hB : B < U) (h : noteE T B n = 14) (hm : noteE T B m = 0) : noteE (noteT T B m) (noteB T B m) n = 14 := by
  obtain ⟨h1, h2, h3⟩ := old_iff.1 h
  have hf := note_ok.1 hm
  have eT : noteT T B m = max T m := by unfold noteT; rw [if_pos hm]
  refine old_iff.2 ⟨valid_note hB hf, h2, ?_⟩
  have hs := seen_note hB hf n
  unfold freshN at h3 ⊢
  rw [h1, h2] at h3
  rw [valid_note hB hf, h2]
  simp only [Bool.true_and, Bool.and_eq_false_iff, decide_eq_false_iff_not, Bool.not_eq_false'] at h3 ⊢
  unfold seenN at hs
  by_cases hlt : noteT T B m - n < 64
  · right
    rw [hs]
    have : hasN B (T - n) = true := by
      rcases h3 with h3 | h3
      · omega
      · exact h3
    have h4 : noteT T B m - 64 < n := by omega
    simp [this, h4]
  · exact Or.inl hlt
end Go.Proofs.Ytlofghfdcfpaiaa
