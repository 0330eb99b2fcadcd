/- Proved: what replay.Fresh and replay.Note return, and that they write nothing that was there. Conditions: the bits of a window fit into a uint64. -/
import Derived.Test.YtlofghfdcfpaiaaR1
namespace Go.Proofs.Ytlofghfdcfpaiaa
open Go.RowKit Go.Sort
set_option linter.unusedVariables false
attribute [local go_sem] cell_alloc_old

theorem fresh_any (T : Int) (B : Nat) (n : Int) (w : World) (hB : B < U) :
    Calls Try.prog 14 #[.agg #[.int .i64 T, .int .u64 B], .int .i64 n] w fun e w' => e = .returned (.bool (freshN T B n)) ∧ (w.alloc (box T B)).alloc (box T B) = w' := by
  cases hv : validN T B
  · have e1 : freshN T B n = false := by simp [freshN, hv]
    rw [e1]
    go_enter Try.func14, Try.ntmps14
    go_wp2_with (first | (go_at_call 12; refine (valid_any _ _ _ hB).mono ?_; rintro e w' ⟨rfl, rfl⟩))
    go_ret
    exact ⟨rfl, rfl⟩
  · obtain ⟨v1, v2⟩ := valid_bd hv
    cases hc : counterN n
    · have e1 : freshN T B n = false := by simp [freshN, hc]
      rw [e1]
      go_enter Try.func14, Try.ntmps14
      go_wp2_with (first | (go_at_call 12; refine (valid_any _ _ _ hB).mono ?_; rintro e w' ⟨rfl, rfl⟩) | (go_at_call 19; refine (isCounter_any _ _).mono ?_; rintro e w' ⟨rfl, rfl⟩))
      go_ret
      exact ⟨rfl, rfl⟩
    · obtain ⟨c1, c2⟩ := counter_bd hc
      by_cases hd : T - n < 64
      · have e1 : freshN T B n = !hasN B (T - n) := by simp [freshN, hv, hc, hd]
        rw [e1]
        go_enter Try.func14, Try.ntmps14
        go_wp2_with (first | (go_at_call 12; refine (valid_any _ _ _ hB).mono ?_; rintro e w' ⟨rfl, rfl⟩) | (go_at_call 19; refine (isCounter_any _ _).mono ?_; rintro e w' ⟨rfl, rfl⟩) | (go_at_call 24; refine (has_any _ _ _ hB).mono ?_; rintro e w' ⟨rfl, rfl⟩))
        go_ret
        exact ⟨rfl, rfl⟩
      · have e1 : freshN T B n = false := by simp [freshN, hd]
        rw [e1]
        go_enter Try.func14, Try.ntmps14
        go_wp2_with (first | (go_at_call 12; refine (valid_any _ _ _ hB).mono ?_; rintro e w' ⟨rfl, rfl⟩) | (go_at_call 19; refine (isCounter_any _ _).mono ?_; rintro e w' ⟨rfl, rfl⟩))
        go_ret
        exact ⟨rfl, rfl⟩

theorem seen_any (T : Int) (B : Nat) (at_ : Int) (b : Nat) (w : World) (h0 : w.cell? ⟨b, 0, none⟩ = some (.int .i64 T)) (h1 : w.cell? ⟨b, 1, none⟩ = some (.int .u64 B)) (hT : 0 ≤ T) (ha : T ≤ at_) (ha' : at_ ≤ 1000000000) :
    Calls Try.prog 20 #[.int .i64 at_, .pointer (some ⟨b, 0, none⟩)] w fun e w' => e = .returned (.int .u64 (upN B (at_ - T))) ∧ w = w' := by
  go_enter Try.func20, Try.ntmps20
  go_wp2_with (first | (go_at_call 21; refine (up_any _ _ _ (by omega)).mono ?_; rintro e w' ⟨rfl, rfl⟩))
  go_ret
  exact ⟨rfl, rfl⟩

theorem note_any (T : Int) (B : Nat) (n : Int) (w : World) (hB : B < U) :
    Calls Try.prog 10 #[.agg #[.int .i64 T, .int .u64 B], .int .i64 n] w fun e w' =>
      e = .returned (.tuple #[.agg #[.int .i64 (noteT T B n), .int .u64 (noteB T B n)], .int .i64 (noteE T B n)]) ∧ Below w.heap.size w w' := by
  cases hv : validN T B
  · have e1 : noteE T B n = 1 := by simp [noteE, hv]
    have e2 : noteT T B n = 0 := by simp [noteT, e1]
    have e3 : ((noteB T B n : Nat) : Int) = 0 := by simp [noteB, e1]
    rw [e1, e2, e3]; clear e1 e2 e3
    go_enter Try.func10, Try.ntmps10
    go_wp2_with (first | (go_at_call 12; refine (valid_any _ _ _ hB).mono ?_; rintro e w' ⟨rfl, rfl⟩))
    refine bodyPost_ret (v := .tuple #[.agg #[.int .i64 0, .int .u64 0], .int .i64 1]) (by simp [results, Try.results10, go_sem]) rfl ⟨rfl, ?_⟩
    repeat (first | exact Below.refl _ _ | refine Below.setCell ?_ (by simp) _ | refine Below.alloc ?_ (by simp <;> omega) _)
  · obtain ⟨v1, v2⟩ := valid_bd hv
    cases hc : counterN n
    · have e1 : noteE T B n = 1 := by simp [noteE, hc]
      have e2 : noteT T B n = 0 := by simp [noteT, e1]
      have e3 : ((noteB T B n : Nat) : Int) = 0 := by simp [noteB, e1]
      rw [e1, e2, e3]; clear e1 e2 e3
      go_enter Try.func10, Try.ntmps10
      go_wp2_with (first | (go_at_call 12; refine (valid_any _ _ _ hB).mono ?_; rintro e w' ⟨rfl, rfl⟩) | (go_at_call 19; refine (isCounter_any _ _).mono ?_; rintro e w' ⟨rfl, rfl⟩))
      refine bodyPost_ret (v := .tuple #[.agg #[.int .i64 0, .int .u64 0], .int .i64 1]) (by simp [results, Try.results10, go_sem]) rfl ⟨rfl, ?_⟩
      repeat (first | exact Below.refl _ _ | refine Below.setCell ?_ (by simp) _ | refine Below.alloc ?_ (by simp <;> omega) _)
    · obtain ⟨c1, c2⟩ := counter_bd hc
      cases hf : freshN T B n
      · have e1 : noteE T B n = 14 := by simp [noteE, hv, hc, hf]
        have e2 : noteT T B n = 0 := by simp [noteT, e1]
        have e3 : ((noteB T B n : Nat) : Int) = 0 := by simp [noteB, e1]
        rw [e1, e2, e3]; clear e1 e2 e3
        go_enter Try.func10, Try.ntmps10
        go_wp2_with (first | (go_at_call 12; refine (valid_any _ _ _ hB).mono ?_; rintro e w' ⟨rfl, rfl⟩) | (go_at_call 19; refine (isCounter_any _ _).mono ?_; rintro e w' ⟨rfl, rfl⟩) | (go_at_call 14; refine (fresh_any _ _ _ _ hB).mono ?_; rintro e w' ⟨rfl, rfl⟩))
        refine bodyPost_ret (v := .tuple #[.agg #[.int .i64 0, .int .u64 0], .int .i64 14]) (by simp [results, Try.results10, go_sem]) rfl ⟨rfl, ?_⟩
        repeat (first | exact Below.refl _ _ | refine Below.setCell ?_ (by simp) _ | refine Below.alloc ?_ (by simp <;> omega) _)
      · have e1 : noteE T B n = 0 := by simp [noteE, hv, hc, hf]
        have e2 : noteT T B n = max T n := by simp [noteT, e1]
        have e3 : noteB T B n = withN (upN B (max T n - T)) (max T n - n) := by simp [noteB, e1]
        have hd := (fresh_bd hf).2.2
        have hul := upN_lt B (max T n - T)
        rw [e1, e2, e3]; clear e1 e2 e3
        go_enter Try.func10, Try.ntmps10
        go_wp2_with (first | (go_at_call 12; refine (valid_any _ _ _ hB).mono ?_; rintro e w' ⟨rfl, rfl⟩) | (go_at_call 19; refine (isCounter_any _ _).mono ?_; rintro e w' ⟨rfl, rfl⟩) | (go_at_call 14; refine (fresh_any _ _ _ _ hB).mono ?_; rintro e w' ⟨rfl, rfl⟩) | (go_at_call 20; refine (seen_any T B _ _ _ (by repeat (first | (simp; done) | refine old1 ?_ _)) (by repeat (first | (simp; done) | refine old1 ?_ _)) v1 (by omega) (by omega)).mono ?_; rintro e w' ⟨rfl, rfl⟩) | (go_at_call 22; refine (with_any _ _ _ hul (by omega) (by omega)).mono ?_; rintro e w' ⟨rfl, rfl⟩))
        refine bodyPost_ret (v := .tuple #[.agg #[.int .i64 (max T n), .int .u64 (withN (upN B (max T n - T)) (max T n - n))], .int .i64 0]) (by simp [results, Try.results10, go_sem]) rfl ⟨rfl, ?_⟩
        repeat (first | exact Below.refl _ _ | refine Below.setCell ?_ (by simp) _ | refine Below.alloc ?_ (by simp <;> omega) _)
end Go.Proofs.Ytlofghfdcfpaiaa
