/- Proved: what the small functions of package claims and of its reference return: which claim is better, what was heard lately, which tables are few. Conditions: those that each theorem names. -/
import Derived.Test.YtleenbfldkmcaaaK1
import Derived.Deep.MidRow
namespace Go.Proofs.Ytleenbfldkmcaaa
open Go.RowKit Go.Sort Go.BigFrame
set_option linter.unusedVariables false
set_option linter.unusedSimpArgs false
attribute [local go_sem] cell_alloc_old

/-! ### loads of what was heard, and of a beacon, taken whole -/
@[irreducible] def load61 (v : Value) : Sem Value := Instr.loadAt 61 v
@[irreducible] def load59 (v : Value) : Sem Value := Instr.loadAt 59 v
theorem exec_load61 (ρ : Operand → Value) (dst : Option Tmp) (x : Operand) (ty : TypeId) (pos : String) (after : Array Edge) (guard : Option (Nat × Bool)) :
    execOp ρ { dst, op := .load 61 x, type := ty, pos, after, guard } = (do pure (.value (← load61 (ρ x)))) := by unfold load61; rfl
theorem exec_load59 (ρ : Operand → Value) (dst : Option Tmp) (x : Operand) (ty : TypeId) (pos : String) (after : Array Edge) (guard : Option (Nat × Bool)) :
    execOp ρ { dst, op := .load 59 x, type := ty, pos, after, guard } = (do pure (.value (← load59 (ρ x)))) := by unfold load59; rfl
theorem run_load61 {w : World} {b o : Nat} (x : Nv) (hc : ∀ j v, x.cs[j]? = some v → w.cell? ⟨b, o + j, none⟩ = some v) : (load61 (.pointer (some ⟨b, o, none⟩))).run Try.prog w = .ok x.v w := by
  unfold load61; exact run_loadAt_mid (P := Try.prog) w b o 61 x.cs _ hc Try.underlying61 rfl (by kernel_rfl)
theorem run_load59 {w : World} {b o : Nat} (x : Nv) (hc : ∀ j v, x.bs[j]? = some v → w.cell? ⟨b, o + j, none⟩ = some v) : (load59 (.pointer (some ⟨b, o, none⟩))).run Try.prog w = .ok x.b w := by
  unfold load59; exact run_loadAt_mid (P := Try.prog) w b o 59 x.bs _ hc Try.underlying59 rfl (by kernel_rfl)
/-- A claim: stamp and sender. -/
abbrev clv (t p : Int) : Value := .agg #[.int .i64 t, .int .i64 p]
set_option maxRecDepth 100000 in
theorem better_any (t p t' p' : Int) (w : World) : Calls Try.prog 30 #[clv t p, clv t' p'] w (Yes (betB t p t' p') w) := by
  go_enter Try.func30, Try.ntmps30
  go_wp2_with fail
  all_goals
    go_ret
    exact ⟨by simp [betB, *] <;> omega, ball (ball (Below.refl _ _) _) _⟩
theorem better_at (t p t' p' : Int) (y : Bool) (w : World) (hy : betB t p t' p' = y) : Calls Try.prog 30 #[clv t p, clv t' p'] w (Yes y w) := by rw [← hy]; exact better_any t p t' p' w
set_option maxRecDepth 100000 in
theorem rbetter_any (t p t' p' : Int) (w : World) : Calls Try.prog 34 #[.int .i64 t, .int .i64 p, .int .i64 t', .int .i64 p'] w (Yes (betB t p t' p') w) := by
  go_enter Try.func34, Try.ntmps34
  go_wp2_with fail
  all_goals
    go_ret
    exact ⟨by simp [betB, *] <;> omega, Below.refl _ _⟩
theorem rbetter_at (t p t' p' : Int) (y : Bool) (w : World) (hy : betB t p t' p' = y) : Calls Try.prog 34 #[.int .i64 t, .int .i64 p, .int .i64 t', .int .i64 p'] w (Yes y w) := by rw [← hy]; exact rbetter_any t p t' p' w
set_option maxRecDepth 100000 in
theorem rlately_any (n : Nv) (fr : Int) (w : World) : Calls Try.prog 33 #[n.v, .int .i64 fr] w (Yes (latB n.B.f fr) w) := by
  unfold latB
  obtain ⟨p, h1⟩ : ∃ p, (n.B.f == fr) = p := ⟨_, rfl⟩
  obtain ⟨q, h2⟩ : ∃ q, (n.B.f == wrap64 (fr - 1)) = q := ⟨_, rfl⟩
  rw [h1, h2]
  cases p
  all_goals
    go_enter Try.func33, Try.ntmps33
    go_wp2_with fail
    go_ret
    exact ⟨rfl, ball (Below.refl _ _) _⟩
theorem rlately_at (n : Nv) (fr : Int) (y : Bool) (w : World) (hy : latB n.B.f fr = y) : Calls Try.prog 33 #[n.v, .int .i64 fr] w (Yes y w) := by rw [← hy]; exact rlately_any n fr w
/-- Short tables. -/
def fewB (t : Tv) : Bool := decide ((t.nu : Int) ≤ 40) && decide ((t.ng : Int) ≤ 40) && decide ((t.na : Int) ≤ 40)
set_option maxRecDepth 100000 in
theorem few_any (t : Tv) (w : World) : Calls Try.prog 11 #[t.v] w (Yes (fewB t) w) := by
  obtain ⟨T, ua, nu, uc, ga, ng, gc, aa, na, ac⟩ := t
  unfold fewB
  simp only
  go_enter Try.func11, Try.ntmps11
  go_wp2_with fail
  all_goals
    go_ret
    exact ⟨by simp [*] <;> omega, ball (Below.refl _ _) _⟩
theorem few_at (t : Tv) (y : Bool) (w : World) (hy : fewB t = y) : Calls Try.prog 11 #[t.v] w (Yes y w) := by rw [← hy]; exact few_any t w
end Go.Proofs.Ytleenbfldkmcaaa
