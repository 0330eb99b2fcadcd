/- Proved: what a number that fits its type is bounded by. Conditions: none. -/
import Derived.Test.YtgmabjlehjpboaaDoorKit
namespace Go.Proofs.YtgmabjlehjpboaaDoor.K
theorem okWide_array {P : Program} {w : World} {r : Reach} {base : Nat} {t e : TypeId} {n : Nat} {v : Value} (ht : P.underlying t = some (.array n e)) (h : Value.okWide P w r base t v) : ∃ cs, v = .agg cs ∧ cs.size = P.cellsOf t := by
  simp only [Value.okWide, ht] at h
  obtain ⟨cs, h1, h2, _⟩ := h
  exact ⟨cs, h1, h2⟩
theorem u64_bd {B : Int} (h : (Lit.int .u64 B).wf = true) : 0 ≤ B ∧ B ≤ 18446744073709551615 := wf_bd h
theorem i64_bd {B : Int} (h : (Lit.int .i64 B).wf = true) : -9223372036854775808 ≤ B ∧ B ≤ 9223372036854775807 := wf_bd h
theorem u32_bd {B : Int} (h : (Lit.int .u32 B).wf = true) : 0 ≤ B ∧ B ≤ 4294967295 := wf_bd h
theorem u16_bd {B : Int} (h : (Lit.int .u16 B).wf = true) : 0 ≤ B ∧ B ≤ 65535 := wf_bd h
theorem u8_bd {B : Int} (h : (Lit.int .u8 B).wf = true) : 0 ≤ B ∧ B ≤ 255 := wf_bd h
end Go.Proofs.YtgmabjlehjpboaaDoor.K
