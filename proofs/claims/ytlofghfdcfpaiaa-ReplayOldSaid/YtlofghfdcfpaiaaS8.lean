/- Proved: the six laws of the windows once more, at whole numbers as they come in. Conditions: the numbers fit their types. -/
import Derived.Test.YtlofghfdcfpaiaaR8
import Derived.Test.YtlofghfdcfpaiaaR9
import Derived.Test.YtlofghfdcfpaiaaS5
import Derived.Test.YtlofghfdcfpaiaaS7
namespace Go.Proofs.Ytlofghfdcfpaiaa
open Go.RowKit
set_option linter.unusedVariables false
theorem u64_bd {B : Int} (h : (Lit.int .u64 B).wf = true) : 0 ≤ B ∧ B ≤ 18446744073709551615 := wf_bd h
theorem u64_nat {B : Int} (h : (Lit.int .u64 B).wf = true) : ∃ n : Nat, B = n ∧ n < U := by
  have := u64_bd h
  exact ⟨B.toNat, by omega, by unfold U; omega⟩
theorem i64_bd {B : Int} (h : (Lit.int .i64 B).wf = true) : -9223372036854775808 ≤ B ∧ B ≤ 9223372036854775807 := wf_bd h
theorem u16_bd {B : Int} (h : (Lit.int .u16 B).wf = true) : 0 ≤ B ∧ B ≤ 65535 := wf_bd h
theorem u8_bd {B : Int} (h : (Lit.int .u8 B).wf = true) : 0 ≤ B ∧ B ≤ 255 := wf_bd h
theorem finMatches (T B n : Int) (w : World) (h1 : (Lit.int .i64 T).wf = true) (h2 : (Lit.int .u64 B).wf = true) (h3 : (Lit.int .i64 n).wf = true) :
    Calls Try.prog 3 #[.agg #[.int .i64 T, .int .u64 B], .int .i64 n] w fun e w' => e = .returned (.bool true) ∧ Below w.heap.size w w' := by
  obtain ⟨B, rfl, hB⟩ := u64_nat h2
  exact lawMatches T B n w hB
theorem finMoving (T B n k : Int) (w : World) (h1 : (Lit.int .i64 T).wf = true) (h2 : (Lit.int .u64 B).wf = true) (h3 : (Lit.int .i64 n).wf = true) (h4 : (Lit.int .u16 k).wf = true) :
    Calls Try.prog 6 #[.agg #[.int .i64 T, .int .u64 B], .int .i64 n, .int .u16 k] w fun e w' => e = .returned (.bool true) ∧ Below w.heap.size w w' := by
  obtain ⟨B, rfl, hB⟩ := u64_nat h2
  exact lawMoving T B n k w hB (u16_bd h4).1 (u16_bd h4).2
theorem finJumps (T B k : Int) (w : World) (h1 : (Lit.int .i64 T).wf = true) (h2 : (Lit.int .u64 B).wf = true) (h4 : (Lit.int .u16 k).wf = true) :
    Calls Try.prog 7 #[.agg #[.int .i64 T, .int .u64 B], .int .u16 k] w fun e w' => e = .returned (.bool true) ∧ Below w.heap.size w w' := by
  obtain ⟨B, rfl, hB⟩ := u64_nat h2
  exact lawJumps T B k w hB (u16_bd h4).1 (u16_bd h4).2 (i64_bd h1)
theorem finOrder (F S t : Int) (w : World) (h1 : (Lit.int .u16 F).wf = true) (h2 : (Lit.int .u64 S).wf = true) (h3 : (Lit.int .u8 t).wf = true) :
    Calls Try.prog 5 #[.int .u16 F, .int .u64 S, .int .u8 t] w fun e w' => e = .returned (.bool true) ∧ Below w.heap.size w w' := by
  obtain ⟨S, rfl, hS⟩ := u64_nat h2
  exact lawOrder F S t w (u16_bd h1).1 (u16_bd h1).2 hS (u8_bd h3).1 (u8_bd h3).2
theorem finOld (T B n : Int) (a : Option Addr) (cap : Nat) (zs : List Int) (w : World) (h1 : (Lit.int .i64 T).wf = true) (h2 : (Lit.int .u64 B).wf = true) (h3 : (Lit.int .i64 n).wf = true) (hz : IntsAt .i8 w a zs) (hm : zs.length ≤ maxLen) (hwf : ∀ z ∈ zs, (Lit.int .i8 z).wf = true) :
    Calls Try.prog 8 #[.agg #[.int .i64 T, .int .u64 B], .int .i64 n, .slice a zs.length cap] w fun e w' => e = .returned (.bool true) ∧ Below w.heap.size w w' := by
  obtain ⟨B, rfl, hB⟩ := u64_nat h2
  exact lawOld T B n a cap zs w hB hz hm hwf
end Go.Proofs.Ytlofghfdcfpaiaa
