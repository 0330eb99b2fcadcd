/- Proved: what random.Below, random.Mask and their references return: they are the same. Conditions: the table of steps holds its numbers; a state is not negative. -/
import Derived.Test.YteeajkopigdblaaDoorR2
namespace Go.Proofs.YteeajkopigdblaaDoor
open Go.RowKit Go.Sort Go.BigFrame Go.Proofs.YteeajkopigdblaaDoor.K
set_option linter.unusedVariables false
set_option linter.unusedSimpArgs false
attribute [local go_sem] cell_alloc_old

theorem half_bd {s : Int} (h0 : 0 ≤ s) (h1 : s ≤ 18446744073709551615) : 0 ≤ halfV s ∧ halfV s ≤ 4294967295 := by unfold halfV; omega
theorem hn_bd (s : Int) : 0 ≤ halfV (nextV s) ∧ halfV (nextV s) ≤ 4294967295 := half_bd (nextV_bd s).1 (nextV_bd s).2
def belowV (s n : Int) : Int := if 1 ≤ n ∧ n ≤ 1000000000 then halfV (nextV s) % n else 0

theorem first_at (s v : Int) (w : World) (h0 : 0 ≤ s) (hT : Tab w) (hv : halfV (nextV s) = v) :
    Calls Tryd.prog 31 #[.int .u64 s] w fun e w' => e = .returned (.int .i64 v) ∧ Below w.heap.size w w' := by rw [← hv]; exact first_any s w h0 hT
theorem rnext_at (s v : Int) (w : World) (h0 : 0 ≤ s) (hv : nextV s = v) :
    Calls Tryd.prog 33 #[.int .u64 s] w fun e w' => e = .returned (.int .u64 v) ∧ w = w' := by rw [← hv]; exact rnext_any s w h0
theorem half_at (s v : Int) (w : World) (h0 : 0 ≤ s) (h1 : s ≤ 18446744073709551615) (hv : halfV s = v) :
    Calls Tryd.prog 32 #[.int .u64 s] w fun e w' => e = .returned (.int .i64 v) ∧ w = w' := by rw [← hv]; exact half_any s w h0 h1

theorem below_any (s n : Int) (w : World) (h0 : 0 ≤ s) (hT : Tab w) :
    Calls Tryd.prog 29 #[.int .u64 s, .int .i64 n] w fun e w' => e = .returned (.int .i64 (belowV s n)) ∧ Below w.heap.size w w' := by
  by_cases hn : n < 1
  · have e1 : belowV s n = 0 := by unfold belowV; rw [if_neg (by omega)]
    rw [e1]; clear e1
    go_enter Tryd.func29, Tryd.ntmps29
    go_wp2
    go_ret
    exact ⟨rfl, Below.refl _ _⟩
  · by_cases hn2 : 1000000000 < n
    · have e1 : belowV s n = 0 := by unfold belowV; rw [if_neg (by omega)]
      rw [e1]; clear e1
      go_enter Tryd.func29, Tryd.ntmps29
      go_wp2
      go_ret
      exact ⟨rfl, Below.refl _ _⟩
    · have hb := hn_bd s
      have e1 : belowV s n = halfV (nextV s) % n := by unfold belowV; rw [if_pos (by omega)]
      rw [e1]; clear e1
      obtain ⟨v, hv⟩ : ∃ v, halfV (nextV s) = v := ⟨_, rfl⟩
      rw [hv] at hb ⊢
      have HV := Lib.hid hv; clear hv
      have ne0 : ¬ n = 0 := by omega
      have n1 : 1 ≤ n := by omega
      go_enter Tryd.func29, Tryd.ntmps29
      go_wp2_with fail
      refine (first_at s v _ h0 hT HV.out).mono ?_
      rintro e w1 ⟨rfl, hb1⟩
      go_wp2_with fail
      go_ret
      exact ⟨by simp [Int.tmod_eq_emod_of_nonneg hb.1], hb1⟩

theorem rbelow_any (s n : Int) (w : World) (h0 : 0 ≤ s) :
    Calls Tryd.prog 30 #[.int .u64 s, .int .i64 n] w fun e w' => e = .returned (.int .i64 (belowV s n)) ∧ w = w' := by
  by_cases hn : n < 1
  · have e1 : belowV s n = 0 := by unfold belowV; rw [if_neg (by omega)]
    rw [e1]; clear e1
    go_enter Tryd.func30, Tryd.ntmps30
    go_wp2
    go_ret
    exact ⟨rfl, rfl⟩
  · by_cases hn2 : 1000000000 < n
    · have e1 : belowV s n = 0 := by unfold belowV; rw [if_neg (by omega)]
      rw [e1]; clear e1
      go_enter Tryd.func30, Tryd.ntmps30
      go_wp2
      go_ret
      exact ⟨rfl, rfl⟩
    · have hb := hn_bd s
      have e1 : belowV s n = halfV (nextV s) % n := by unfold belowV; rw [if_pos (by omega)]
      rw [e1]; clear e1
      obtain ⟨x0, x1⟩ := nextV_bd s
      obtain ⟨x, hx⟩ : ∃ x, nextV s = x := ⟨_, rfl⟩
      rw [hx] at x0 x1 hb ⊢
      obtain ⟨v, hv⟩ : ∃ v, halfV x = v := ⟨_, rfl⟩
      rw [hv] at hb ⊢
      have HX := Lib.hid hx; have HV := Lib.hid hv; have X1 := Lib.hid x1; clear hx hv x1
      have ne0 : ¬ n = 0 := by omega
      have n1 : 1 ≤ n := by omega
      go_enter Tryd.func30, Tryd.ntmps30
      go_wp2_with fail
      refine (rnext_at s x _ h0 HX.out).mono ?_
      rintro e w1 ⟨rfl, rfl⟩
      go_wp2_with fail
      refine (half_at x v _ x0 X1.out HV.out).mono ?_
      rintro e w1 ⟨rfl, rfl⟩
      go_wp2_with fail
      go_ret
      exact ⟨by simp [Int.tmod_eq_emod_of_nonneg hb.1], rfl⟩

theorem below_at (s n v : Int) (w : World) (h0 : 0 ≤ s) (hT : Tab w) (hv : belowV s n = v) :
    Calls Tryd.prog 29 #[.int .u64 s, .int .i64 n] w fun e w' => e = .returned (.int .i64 v) ∧ Below w.heap.size w w' := by rw [← hv]; exact below_any s n w h0 hT

end Go.Proofs.YteeajkopigdblaaDoor
