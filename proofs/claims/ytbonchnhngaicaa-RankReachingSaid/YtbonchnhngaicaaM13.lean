/- Proved: that loop, a function of the statements, finds no loop where a count goes down from each node to its parent. Conditions: those that the theorem names. -/
import Derived.Test.YtbonchnhngaicaaM5
namespace Go.Proofs.Ytbonchnhngaicaa
open Go.RowKit Go.Sort Go.BigFrame
set_option linter.unusedVariables false
set_option linter.unusedSimpArgs false
attribute [local go_sem] cell_alloc_old
attribute [local go_sem ↓] Go.wp_at_zero Go.wp_at_succ

set_option maxRecDepth 100000 in
set_option maxHeartbeats 8000000 in
theorem loop_false (K : Nat → Prop) (w0 w : World) (mb n : Nat) (M : Msh) (gr cr : Nat) (tv hv : Value) (ts hs : Nat → Value) (hM : MeshIs K w0 w mb n n n M (.slice (some ⟨gr, 0, none⟩) n cr) tv hv ts hs)
    (hn2 : n ≤ 100) (cnt : Nat → Nat) (hc : Hid (∀ i, i < n → cnt i < n)) (hp : Hid (∀ i, i < n → (M.R i).p < 0 ∨ ∃ q : Nat, q < n ∧ (M.R i).p = q ∧ cnt q < cnt i)) : Calls Try.prog 28 #[.pointer (some ⟨mb, 0, none⟩)] w (Yes false w) := by
  go_enter Try.func28, Try.ntmps28
  have m0 := hM.c 0 _ rfl
  go_upto_region 2 with (fail)
  go_loopw [10] (fun g wr => ∃ j : Nat, j ≤ n ∧ g = .int .i64 j ∧ wr = w) (fun g _ => n - (intOf g).toNat)
  case atStart => exact ⟨0, Nat.zero_le _, rfl, rfl⟩
  case round =>
    obtain ⟨j, hj, rfl, rfl⟩ := hrel
    by_cases hlt : j < n
    · have hlt1 : (j : Int) < (n : Int) := by omega
      go_upto_region 6 with (fail)
      go_loopw [4, 19] (fun a g w9 => ∃ t b : Nat, b < n ∧ cnt b + t < n ∧ a = .int .i64 b ∧ g = .int .i64 t ∧ w9 = wr) (fun _ g _ => n - (intOf g).toNat)
      case atStart => exact ⟨0, j, hlt, by have := hc.out j hlt; omega, rfl, rfl, rfl⟩
      case round =>
        obtain ⟨t, b, hb, hct, rfl, rfl, rfl⟩ := hrel
        have ht1 : (t : Int) < (n : Int) := by omega
        have hb1 : (b : Int) < (n : Int) := by omega
        have hb0 : (0 : Int) ≤ (b : Int) := by omega
        obtain ⟨_, _, _, _, r4⟩ := hM.route hb
        obtain ⟨q, hq⟩ : ∃ q, (M.R b).p = q := ⟨_, rfl⟩
        have h := hp.out b hb
        rw [hq] at r4 h
        clear hq
        by_cases hq0 : q < 0
        · clear h
          have hq1 : ¬ (0 : Int) ≤ q := by omega
          go_wp2_with fail
          go_roundw
          case rel => exact ⟨j + 1, by omega, by go_num, trivial⟩
          case measure => simp [intOf]; omega
        · rcases h with h | ⟨b', hb', hqb, hcb⟩
          · exact absurd h hq0
          subst hqb
          have hq1 : (b' : Int) < (n : Int) := by omega
          have hq2 : ¬ (n : Int) ≤ (b' : Int) := by omega
          go_wp2_with fail
          go_roundw
          case rel => exact ⟨t + 1, b', hb', by omega, rfl, by go_num, trivial⟩
          case measure => simp [intOf]; omega
    · have hlt1 : ¬ (j : Int) < (n : Int) := by omega
      go_wp2_with fail
      go_ret
      exact ⟨rfl, Below.refl _ _⟩
end Go.Proofs.Ytbonchnhngaicaa
