/- Proved: single operations run by their operands' values, so that a long list of slots is not walked. Conditions: those that each theorem names. -/
import Derived.Test.YtbonchnhngaicaaM3
namespace Go.Proofs.Ytbonchnhngaicaa
open Go.RowKit Go.Sort Go.BigFrame
set_option linter.unusedVariables false
set_option linter.unusedSimpArgs false
theorem wp_of_value {P : Program} {o : Oper} {a : Act} {w w' : World} {v : Value} {K : Act → World → Prop} {Q : Exit → Act → World → Prop} (h : (execOp a.eval o).run P w = .ok (.value v) w') (hK : K (a.put o.dst v) w') : o.wp P a w K Q := by
  unfold Oper.wp; rw [h]; exact hK
theorem wp_of_skip {P : Program} {o : Oper} {a : Act} {w w' : World} {K : Act → World → Prop} {Q : Exit → Act → World → Prop} (h : (execOp a.eval o).run P w = .ok .skip w') (hK : K (a.put o.dst undef) w') : o.wp P a w K Q := by
  unfold Oper.wp; rw [h]; exact hK
set_option maxHeartbeats 1000000 in
theorem exec_index52 {ev : Operand → Value} {w : World} {o : Oper} {x y : Operand} {g n c i : Nat} (ho : o.op = .indexAddr 52 x y) (h1 : ev x = .slice (some ⟨g, 0, none⟩) n c) (h2 : ev y = .int .i64 i) (hi : i < n) :
    (execOp ev o).run Try.prog w = .ok (.value (.pointer (some ⟨g, i, none⟩))) w := by
  have hi1 : (i : Int) < (n : Int) := by omega
  have hi0 : (0 : Int) ≤ (i : Int) := by omega
  unfold execOp
  simp only [ho, h1, h2]
  go_simp
set_option maxHeartbeats 1000000 in
theorem exec_store72 {ev : Operand → Value} {w : World} {o : Oper} {x y : Operand} {g n c i : Nat} {a : Option Addr} {u : Value} (ho : o.op = .store 72 x y) (h1 : ev x = .pointer (some ⟨g, i, none⟩)) (h2 : ev y = .slice a n c) (hc : w.cell? ⟨g, i, none⟩ = some u) (hf : w.frozen? ⟨g, i, none⟩ = false) :
    (execOp ev o).run Try.prog w = .ok .skip (w.setCell ⟨g, i, none⟩ (.slice a n c)) := by
  unfold execOp
  simp only [ho, h1, h2]
  go_simp
theorem flatD_get (l : List Ds) {i : Nat} (hi : i < l.length) : (flatD l)[i * 2]? = some (.int .i64 (l.getD i default).s) ∧ (flatD l)[i * 2 + 1]? = some (.int .i64 (l.getD i default).r) := by
  have key : ∀ j, j < 2 → (flatD l)[i * 2 + j]? = (l.getD i default).cs[j]? := fun j hj => by
    rw [flatD_blk]; exact blk_get (s := 2) (fun i => rfl) l.length i j hi hj
  exact ⟨key 0 (by omega), key 1 (by omega)⟩
end Go.Proofs.Ytbonchnhngaicaa
