/- Proved: what random.Below, random.Mask and their references return: they are the same. Conditions: the table of steps holds its numbers; a state is not negative. -/
import Derived.Test.YtgmabjlehjpboaaDoorR2
namespace Go.Proofs.YtgmabjlehjpboaaDoor
open Go.RowKit Go.Sort Go.BigFrame Go.Proofs.YtgmabjlehjpboaaDoor.K
set_option linter.unusedVariables false
set_option linter.unusedSimpArgs false
attribute [local go_sem] cell_alloc_old

theorem half_bd {s : Int} (h0 : 0 ≤ s) (h1 : s ≤ 18446744073709551615) : 0 ≤ halfV s ∧ halfV s ≤ 4294967295 := by unfold halfV; omega
theorem hn_bd (s : Int) : 0 ≤ halfV (nextV s) ∧ halfV (nextV s) ≤ 4294967295 := half_bd (nextV_bd s).1 (nextV_bd s).2
def belowV (s n : Int) : Int := if 1 ≤ n ∧ n ≤ 1000000000 then halfV (nextV s) % n else 0
def maskV (s n : Int) : Int := if 1 ≤ n ∧ n ≤ 16 then 1 + halfV (nextV s) % (2 ^ n.toNat - 1) else 0

theorem first_at (s v : Int) (w : World) (h0 : 0 ≤ s) (hT : Tab w) (hv : halfV (nextV s) = v) :
    Calls Tryd.prog 60 #[.int .u64 s] w fun e w' => e = .returned (.int .i64 v) ∧ Below w.heap.size w w' := by rw [← hv]; exact first_any s w h0 hT

theorem below_any (s n : Int) (w : World) (h0 : 0 ≤ s) (hT : Tab w) :
    Calls Tryd.prog 53 #[.int .u64 s, .int .i64 n] w fun e w' => e = .returned (.int .i64 (belowV s n)) ∧ Below w.heap.size w w' := by
  by_cases hn : n < 1
  · have e1 : belowV s n = 0 := by unfold belowV; rw [if_neg (by omega)]
    rw [e1]; clear e1
    go_enter Tryd.func53, Tryd.ntmps53
    go_wp2
    go_ret
    exact ⟨rfl, Below.refl _ _⟩
  · by_cases hn2 : 1000000000 < n
    · have e1 : belowV s n = 0 := by unfold belowV; rw [if_neg (by omega)]
      rw [e1]; clear e1
      go_enter Tryd.func53, Tryd.ntmps53
      go_wp2
      go_ret
      exact ⟨rfl, Below.refl _ _⟩
    · have hb := hn_bd s
      have e1 : belowV s n = halfV (nextV s) % n := by unfold belowV; rw [if_pos (by omega)]
      rw [e1]; clear e1
      obtain ⟨v, hv⟩ : ∃ v, halfV (nextV s) = v := ⟨_, rfl⟩
      rw [hv] at hb ⊢
      have HV := Lib.hid hv; clear hv
      have ne0 : ¬ n = 0 := by omega
      have n1 : 1 ≤ n := by omega
      go_enter Tryd.func53, Tryd.ntmps53
      go_wp2_with fail
      refine (first_at s v _ h0 hT HV.out).mono ?_
      rintro e w1 ⟨rfl, hb1⟩
      go_wp2_with fail
      go_ret
      exact ⟨by simp [Int.tmod_eq_emod_of_nonneg hb.1], hb1⟩

theorem below_at (s n v : Int) (w : World) (h0 : 0 ≤ s) (hT : Tab w) (hv : belowV s n = v) :
    Calls Tryd.prog 53 #[.int .u64 s, .int .i64 n] w fun e w' => e = .returned (.int .i64 v) ∧ Below w.heap.size w w' := by rw [← hv]; exact below_any s n w h0 hT

end Go.Proofs.YtgmabjlehjpboaaDoor
