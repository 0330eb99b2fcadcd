/- Proved: what random.Next, its reference and the halves of a state return. Conditions: the table of steps holds its numbers; a state is not negative. -/
import Derived.Test.YtgmabjlehjpboaaDoorMixIn
import Derived.Test.YtgmabjlehjpboaaDoorBd
namespace Go.Proofs.YtgmabjlehjpboaaDoor
open Go.RowKit Go.Sort Go.BigFrame Go.Proofs.YtgmabjlehjpboaaDoor.K
set_option linter.unusedVariables false
set_option linter.unusedSimpArgs false
attribute [local go_sem] cell_alloc_old

def xs (x d : Int) : Int := bits .xor .u64 x (x / d)
def add0 (s : Int) : Int := IntKind.u64.wrap (s + 11400714819323198485)
def mul1 (x : Int) : Int := IntKind.u64.wrap (x * 13787848793156543929)
def mul2 (x : Int) : Int := IntKind.u64.wrap (x * 10723151780598845931)
def nextV (s : Int) : Int := xs (mul2 (xs (mul1 (xs (add0 s) 1073741824)) 134217728)) 2147483648
def halfV (s : Int) : Int := s / 4294967296

/-- The table of steps, as the row lists it. -/
def Tab (w : World) : Prop := w.cell? ⟨0, 0, none⟩ = some (.int .i64 30) ∧ w.cell? ⟨0, 1, none⟩ = some (.int .u64 13787848793156543929) ∧ w.cell? ⟨0, 2, none⟩ = some (.int .i64 27) ∧
  w.cell? ⟨0, 3, none⟩ = some (.int .u64 10723151780598845931) ∧ w.cell? ⟨0, 4, none⟩ = some (.int .i64 31) ∧ w.cell? ⟨0, 5, none⟩ = some (.int .u64 1)
theorem Tab.keep {w w' : World} (h : Tab w) (hb : Below w.heap.size w w') : Tab w' := ⟨keep1 hb h.1, keep1 hb h.2.1, keep1 hb h.2.2.1, keep1 hb h.2.2.2.1, keep1 hb h.2.2.2.2.1, keep1 hb h.2.2.2.2.2⟩

theorem wrap_bd (x : Int) : 0 ≤ IntKind.u64.wrap x ∧ IntKind.u64.wrap x ≤ 18446744073709551615 := by rw [IntKind.wrap_u64]; omega
theorem add0_bd (s : Int) : 0 ≤ add0 s := (wrap_bd _).1
theorem mul1_bd (s : Int) : 0 ≤ mul1 s := (wrap_bd _).1
theorem mul2_bd (s : Int) : 0 ≤ mul2 s := (wrap_bd _).1
theorem wrap_in {x : Int} (h0 : 0 ≤ x) (h1 : x ≤ 18446744073709551615) : IntKind.u64.wrap x = x := by rw [IntKind.wrap_u64]; omega
theorem xs_bd {x d : Int} (hx : 0 ≤ x) (hx1 : x ≤ 18446744073709551615) (hd : 0 ≤ d) : 0 ≤ xs x d ∧ xs x d ≤ 18446744073709551615 := by
  by_cases h : 0 ≤ x ∧ x ≤ 18446744073709551615 ∧ 0 ≤ d
  · obtain ⟨h0, h1, h2⟩ := h
    obtain ⟨X, rfl⟩ := Int.eq_ofNat_of_zero_le h0
    obtain ⟨D, rfl⟩ := Int.eq_ofNat_of_zero_le h2
    have hX : X < 18446744073709551616 := by omega
    unfold xs
    rw [xorShift_u64 X D hX]
    have h3 : X / D < 2 ^ 64 := Nat.lt_of_le_of_lt (Nat.div_le_self _ _) hX
    have h4 : X ^^^ X / D < 2 ^ 64 := Nat.xor_lt_two_pow hX h3
    have h5 : (2 : Nat) ^ 64 = 18446744073709551616 := by decide
    omega
  · exact absurd ⟨hx, hx1, hd⟩ h

theorem nextV_bd (s : Int) : 0 ≤ nextV s ∧ nextV s ≤ 18446744073709551615 := xs_bd (mul2_bd _) (wrap_bd _).2 (by decide)

set_option maxRecDepth 100000 in
set_option maxHeartbeats 1000000 in
theorem next_any (s : Int) (w : World) (h0 : 0 ≤ s) (hT : Tab w) :
    Calls Tryd.prog 70 #[.int .u64 s] w fun e w' => e = .returned (.int .u64 (nextV s)) ∧ Below w.heap.size w w' := by
  obtain ⟨t0, t1, t2, t3, t4, t5⟩ := hT
  have i0 : ∀ w, (Instr.index 132 (.agg #[.int .i64 30, .int .u64 13787848793156543929, .int .i64 27, .int .u64 10723151780598845931, .int .i64 31, .int .u64 1]) (.int .i64 0)).run Tryd.prog w = .ok (.agg #[.int .i64 30, .int .u64 13787848793156543929]) w := fun _ => by kernel_rfl
  have i1 : ∀ w, (Instr.index 132 (.agg #[.int .i64 30, .int .u64 13787848793156543929, .int .i64 27, .int .u64 10723151780598845931, .int .i64 31, .int .u64 1]) (.int .i64 1)).run Tryd.prog w = .ok (.agg #[.int .i64 27, .int .u64 10723151780598845931]) w := fun _ => by kernel_rfl
  have i2 : ∀ w, (Instr.index 132 (.agg #[.int .i64 30, .int .u64 13787848793156543929, .int .i64 27, .int .u64 10723151780598845931, .int .i64 31, .int .u64 1]) (.int .i64 2)).run Tryd.prog w = .ok (.agg #[.int .i64 31, .int .u64 1]) w := fun _ => by kernel_rfl
  go_enter Tryd.func70, Tryd.ntmps70
  go_wp2_with fail
  refine wp_loop_rounds 4 ?_
  rw [rounds_succ]
  go_wp2_with fail
  go_quiet (fail)
  go_wp2_with fail
  rw [rounds_succ]
  go_wp2_with fail
  go_quiet (fail)
  go_wp2_with fail
  rw [rounds_succ]
  go_wp2_with fail
  go_quiet (fail)
  go_wp2_with fail
  rw [rounds_succ]
  go_wp2_with fail
  go_ret
  refine ⟨?_, ?_⟩
  · have e : IntKind.u64.wrap (nextV s) = nextV s := wrap_in (nextV_bd s).1 (nextV_bd s).2
    rw [← e]
    simp [nextV, xs, add0, mul1, mul2]
  · repeat (first | exact Below.refl _ _ | refine below_drewN ?_ _ | refine Below.alloc ?_ (by simp <;> omega) _)
end Go.Proofs.YtgmabjlehjpboaaDoor
