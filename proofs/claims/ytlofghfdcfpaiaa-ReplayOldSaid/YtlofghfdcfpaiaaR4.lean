/- Proved: what the reference functions of layer 29 return: the program's results. Conditions: the bits of a window fit into a uint64. -/
import Derived.Test.YtlofghfdcfpaiaaR3
namespace Go.Proofs.Ytlofghfdcfpaiaa
open Go.RowKit Go.Sort
set_option linter.unusedVariables false
attribute [local go_sem] cell_alloc_old

theorem rcounter_any (n : Int) (w : World) :
    Calls Try.prog 18 #[.int .i64 n] w fun e w' => e = .returned (.bool (counterN n)) ∧ w = w' := by
  by_cases h0 : 1 ≤ n
  · by_cases h1 : n ≤ 1000000000
    · have e1 : counterN n = true := by simp [counterN, h0, h1]
      rw [e1]
      go_enter Try.func18, Try.ntmps18
      go_wp2
      go_ret
      exact ⟨rfl, rfl⟩
    · have e1 : counterN n = false := by simp [counterN, h1]
      rw [e1]
      go_enter Try.func18, Try.ntmps18
      go_wp2
      go_ret
      exact ⟨rfl, rfl⟩
  · have e1 : counterN n = false := by simp [counterN, h0]
    rw [e1]
    go_enter Try.func18, Try.ntmps18
    go_wp2
    go_ret
    exact ⟨rfl, rfl⟩

theorem there_any (T : Int) (B : Nat) (n : Int) (w : World) (hB : B < U) (h0 : n ≤ T) (h1 : -1000 ≤ n) (h2 : T ≤ 1000000000) :
    Calls Try.prog 23 #[.agg #[.int .i64 T, .int .u64 B], .int .i64 n] w fun e w' => e = .returned (.bool (B.testBit (T - n).toNat)) ∧ w.alloc (box T B) = w' := by
  have h3 : 0 ≤ T - n := by omega
  by_cases h4 : T - n < 64
  · have hb := bit_and B (T - n).toNat hB
    have HB := Lib.hid hb; clear hb
    go_enter Try.func23, Try.ntmps23
    go_wp2
    go_ret
    exact ⟨ret_b HB.out, rfl⟩
  · have hb : (bits .and .u64 ((B : Int) / 18446744073709551616) 1 == 1) = B.testBit 64 := by
      rw [show (18446744073709551616 : Int) = 2 ^ 64 from by decide]; exact bit_and B 64 hB
    have e1 : B.testBit (T - n).toNat = B.testBit 64 := by rw [high_bits hB (by omega), high_bits hB (by omega)]
    have HB := Lib.hid hb; have E1 := Lib.hid e1; clear hb e1
    go_enter Try.func23, Try.ntmps23
    go_wp2
    go_ret
    exact ⟨ret_b (by rw [E1.out]; exact HB.out), rfl⟩

theorem rvalid_any (T : Int) (B : Nat) (w : World) (hB : B < U) :
    Calls Try.prog 13 #[.agg #[.int .i64 T, .int .u64 B]] w fun e w' => e = .returned (.bool (validN T B)) ∧ Below w.heap.size w w' := by
  have B0 : Below w.heap.size w (w.alloc (box T B)) := (Below.refl _ _).alloc (Nat.le_refl _) _
  by_cases hT0 : T < 0
  · have e1 : validN T B = false := by
        have hT : ¬ T = 0 := by omega
        have hc : counterN T = false := by simp [counterN]; omega
        simp [validN, hT, hc]
    rw [e1]
    go_enter Try.func13, Try.ntmps13
    go_wp2
    go_ret
    exact ⟨rfl, B0⟩
  · by_cases hT1 : 1000000000 < T
    · have e1 : validN T B = false := by
        have hT : ¬ T = 0 := by omega
        have hc : counterN T = false := by simp [counterN]; omega
        simp [validN, hT, hc]
      rw [e1]
      go_enter Try.func13, Try.ntmps13
      go_wp2
      go_ret
      exact ⟨rfl, B0⟩
    · by_cases hT : T = 0
      · subst hT
        have e1 : validN 0 B = ((B : Int) == 0) := by
          simp only [validN, if_true]
          by_cases hb : B = 0 <;> simp [hb]
        have E1 := Lib.hid e1; clear e1
        go_enter Try.func13, Try.ntmps13
        go_wp2
        all_goals
          go_ret
          exact ⟨ret_b (by rw [E1.out]), B0⟩
      · have hT' : (T == 0) = false := by simpa using hT
        have h1 : 1 ≤ T := by omega
        have HT := Lib.hid hT; clear hT
        go_enter Try.func13, Try.ntmps13
        go_wp2
        go_loopw [3] (fun i wr => ∃ k : Nat, k ≤ 64 ∧ i = .int .i64 k ∧ (∀ j : Nat, j < k → T - j < 1 → B.testBit j = false) ∧
            wr.cell? ⟨w.heap.size, 0, none⟩ = some (.int .i64 T) ∧ wr.cell? ⟨w.heap.size, 1, none⟩ = some (.int .u64 B) ∧ Below w.heap.size w wr) (fun i _ => 64 - (intOf i).toNat)
        case atStart => exact ⟨0, by omega, rfl, fun j hj => by omega, by simp, by simp, B0⟩
        case round =>
          obtain ⟨k, hk, rfl, hall, c0, c1, hb⟩ := hrel
          have HA := Lib.hid hall; clear hall
          by_cases hlt : k < 64
          · by_cases hlow : T - k < 1
            · have ek : (T - (T - (k : Int))).toNat = k := by omega
              have EK := Lib.hid ek; clear ek
              cases hbit : B.testBit k
              · go_wp2_with (first | (go_at_call 23; refine (there_any T B _ _ hB (by omega) (by omega) (by omega)).mono ?_; rw [EK.out, hbit]; rintro e w' ⟨rfl, rfl⟩))
                go_roundw
                case rel =>
                  refine ⟨k + 1, by omega, by go_num, fun j hj hjT => ?_, old1 c0 _, old1 c1 _, ball hb _⟩
                  by_cases hjk : j = k
                  · rw [hjk]; exact hbit
                  · exact HA.out j (by omega) hjT
                case measure => simp [intOf]; omega
              · have e1 := valid_no h1 hlt hlow hbit
                have E1 := Lib.hid e1; clear e1
                go_wp2_with (first | (go_at_call 23; refine (there_any T B _ _ hB (by omega) (by omega) (by omega)).mono ?_; rw [EK.out, hbit]; rintro e w' ⟨rfl, rfl⟩))
                go_ret
                exact ⟨ret_b E1.out.symm, ball hb _⟩
            · go_wp2
              go_roundw
              case rel =>
                refine ⟨k + 1, by omega, by go_num, fun j hj hjT => ?_, c0, c1, hb⟩
                by_cases hjk : j = k
                · rw [hjk] at hjT; omega
                · exact HA.out j (by omega) hjT
              case measure => simp [intOf]; omega
          · obtain rfl : k = 64 := by omega
            have e1 := valid_eq hB h1 (by omega) HA.out
            have E1 := Lib.hid e1; clear e1
            go_wp2_with (first | (go_at_call 23; refine (there_any T B _ _ hB (by omega) (by omega) (by omega)).mono ?_; rintro e w' ⟨rfl, rfl⟩))
            go_ret
            refine ⟨ret_b ?_, ball hb _⟩
            rw [E1.out, Nat.testBit_zero]

theorem rfresh_any (T : Int) (B : Nat) (n : Int) (w : World) (hB : B < U) :
    Calls Try.prog 15 #[.agg #[.int .i64 T, .int .u64 B], .int .i64 n] w fun e w' => e = .returned (.bool (freshN T B n)) ∧ Below w.heap.size w w' := by
  have B0 : Below w.heap.size w (w.alloc (box T B)) := (Below.refl _ _).alloc (Nat.le_refl _) _
  cases hv : validN T B
  · have e1 : freshN T B n = false := by simp [freshN, hv]
    rw [e1]
    go_enter Try.func15, Try.ntmps15
    go_wp2_with (first | (go_at_call 13; refine (rvalid_any _ _ _ hB).mono ?_; rintro e w1 ⟨rfl, hb⟩))
    go_ret
    exact ⟨rfl, bstep B0 hb⟩
  · obtain ⟨v1, v2⟩ := valid_bd hv
    cases hc : counterN n
    · have e1 : freshN T B n = false := by simp [freshN, hc]
      rw [e1]
      go_enter Try.func15, Try.ntmps15
      go_wp2_with (first | (go_at_call 13; refine (rvalid_any _ _ _ hB).mono ?_; rintro e w1 ⟨rfl, hb⟩) | (go_at_call 18; refine (rcounter_any _ _).mono ?_; rintro e w' ⟨rfl, rfl⟩))
      go_ret
      exact ⟨rfl, bstep B0 hb⟩
    · obtain ⟨c1, c2⟩ := counter_bd hc
      by_cases hd : n ≤ T - 64
      · have e1 : freshN T B n = false := by
          have : ¬ T - n < 64 := by omega
          simp [freshN, this]
        rw [e1]
        go_enter Try.func15, Try.ntmps15
        go_wp2_with fail
        refine (rvalid_any _ _ _ hB).mono ?_
        rw [hv]
        rintro e w1 ⟨rfl, hb⟩
        have d0 : w1.cell? ⟨w.heap.size, 0, none⟩ = some (.int .i64 T) := keep1 hb (by simp)
        have d1 : w1.cell? ⟨w.heap.size, 1, none⟩ = some (.int .u64 B) := keep1 hb (by simp)
        go_wp2_with (first | (go_at_call 18; refine (rcounter_any _ _).mono ?_; rintro e w' ⟨rfl, rfl⟩))
        go_ret
        exact ⟨rfl, bstep B0 hb⟩
      · have hd' : T - n < 64 := by omega
        by_cases hnT : T < n
        · have e1 : freshN T B n = true := by
            have : hasN B (T - n) = false := by simp [hasN]; omega
            simp [freshN, hv, hc, hd', this]
          rw [e1]
          go_enter Try.func15, Try.ntmps15
          go_wp2_with fail
          refine (rvalid_any _ _ _ hB).mono ?_
          rw [hv]
          rintro e w1 ⟨rfl, hb⟩
          have d0 : w1.cell? ⟨w.heap.size, 0, none⟩ = some (.int .i64 T) := keep1 hb (by simp)
          have d1 : w1.cell? ⟨w.heap.size, 1, none⟩ = some (.int .u64 B) := keep1 hb (by simp)
          go_wp2_with (first | (go_at_call 18; refine (rcounter_any _ _).mono ?_; rintro e w' ⟨rfl, rfl⟩))
          go_ret
          exact ⟨rfl, bstep B0 hb⟩
        · have e1 : freshN T B n = !B.testBit (T - n).toNat := by
            have : hasN B (T - n) = B.testBit (T - n).toNat := by simp [hasN, hd']; omega
            simp [freshN, hv, hc, hd', this]
          rw [e1]
          go_enter Try.func15, Try.ntmps15
          go_wp2_with fail
          refine (rvalid_any _ _ _ hB).mono ?_
          rw [hv]
          rintro e w1 ⟨rfl, hb⟩
          have d0 : w1.cell? ⟨w.heap.size, 0, none⟩ = some (.int .i64 T) := keep1 hb (by simp)
          have d1 : w1.cell? ⟨w.heap.size, 1, none⟩ = some (.int .u64 B) := keep1 hb (by simp)
          go_wp2_with (first | (go_at_call 18; refine (rcounter_any _ _).mono ?_; rintro e w' ⟨rfl, rfl⟩) | (go_at_call 23; refine (there_any T B _ _ hB (by omega) (by omega) (by omega)).mono ?_; rintro e w' ⟨rfl, rfl⟩))
          go_ret
          exact ⟨ret_b (by have : ¬ T < n := by omega
                           simp [this]), ball (bstep B0 hb) _⟩
end Go.Proofs.Ytlofghfdcfpaiaa
