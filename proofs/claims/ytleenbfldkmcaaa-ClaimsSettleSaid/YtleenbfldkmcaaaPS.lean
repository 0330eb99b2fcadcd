/- Proved: the given statements of the laws named below: for every input the law returns true and what came in reads as before. Conditions: none but the given rows own. (Printed by wip/tools/gen2.py.) -/
import Derived.Test.YtleenbfldkmcaaaRows
import Derived.Test.YtleenbfldkmcaaaKit
import Derived.Test.YtleenbfldkmcaaaK28
import Derived.WalkKit
import Derived.ProofKit
import Derived.OpenShut
import Derived.ShutString
import Derived.ChangeOld
import Derived.Below
namespace Go.Proofs.Ytleenbfldkmcaaa
open Go.ChangeShapes Go.WideShapes Go.ChangeAt Go.RowKit
set_option linter.unusedVariables false
theorem own : ownKnob Try.prog.godebug = none := by kernel_rfl
theorem laidOut : laidOutB Try.prog = true := by kernel_rfl
theorem pSettle (a : Option Addr) (ca : Nat) (H : List (List Bool)) (a2 : Option Addr) (cb : Nat) (T : List Tv) (f : Int) (a4 : Option Addr) (c4 : Nat) (late : List Bool) (w : World)
    (hH : TabAt w a H) (xH : H.length ≤ maxLen) (hT : TsAt w a2 T) (xT : T.length ≤ maxLen) (wf : (Lit.int .u32 f).wf = true) (hL : BoolsAt w a4 late) (xL : late.length ≤ maxLen) :
    Calls Try.prog 5 #[.slice a H.length ca, .slice a2 T.length cb, .int .u32 f, .slice a4 late.length c4] w (Yes true w) :=
  settle_at H _ a ca T _ a2 cb f late _ a4 c4 w (Lib.hid rfl) (Lib.hid rfl) (Lib.hid rfl) hH hT hL xH xT xL (u32_bd wf).1 (u32_bd wf).2


/-! ### ClaimsSettle -/
namespace claimsSettle
set_option maxRecDepth 100000 in
theorem lifted (os : Os) (started : os.Started) (H : Type) (enc : TypeId × Value → H) :
    ReturnsInHanded {} Try.checked os 5 .any (Rows.claimsSettleSpec.pre6 enc Try.prog Try.f5 Rows.claimsSettleRow.domain false) (Rows.claimsSettleSpec.post enc Try.prog Try.f5 false true false false) := by
  refine returnsInHanded_of_change (C := Try.checked) own started (by kernel_rfl) Try.func5
    (ChangeSpec.witness6 (enc := enc) (C := Try.checked) false ⟨#[], #[.slice none 0 0, .slice none 0 0, .int .u32 0, .slice none 0 0], []⟩ 8 (by kernel_rfl) (by kernel_rfl) (by kernel_rfl) (by kernel_rfl)) ?_
  intro W base args ds gs before hval0 hW hcnd _
  have hval : ∀ (j : Nat) t v, Try.f5.params[j]? = some t → args[j]? = some v → Value.okWide Try.prog W .any base t v := hval0
  have hW' := hW
  obtain ⟨p, q, hA0, hV, rfl, hfz, hnd⟩ := hW
  have hA : DataW.TrodAll enc Try.prog W 0 (fun _ => true) true Try.f5.params.toList args.toList ds p := hA0
  rw [Try.params5] at hA hval
  obtain ⟨v0, vs0, d0, ds0, p0, q0, hargs, rfl, rfl, h0, r0⟩ := trodAll_cons hA
  obtain ⟨v1, vs1, d1, ds1, p1, q1, rfl, rfl, rfl, h1, r1⟩ := trodAll_cons r0
  obtain ⟨v2, vs2, d2, ds2, p2, q2, rfl, rfl, rfl, h2, r2⟩ := trodAll_cons r1
  obtain ⟨v3, vs3, d3, ds3, p3, q3, rfl, rfl, rfl, h3, r3⟩ := trodAll_cons r2
  obtain ⟨rfl, rfl, rfl⟩ := trodAll_nil r3
  obtain rfl : args = #[v0, v1, v2, v3] := by cases args; simp_all
  obtain ⟨rfl, rfl⟩ := trodVars_none hV
  have k0 := h0
  have lt0 : ∀ x ∈ p0, x.block < W.heap.size := by obtain ⟨m, hm⟩ := k0; exact DataW.trod_lt m _ _ _ hm
  obtain ⟨a0, len0, cap0, rfl⟩ := okWide_slice Try.underlying28 (hval 0 28 v0 rfl rfl)
  obtain ⟨A0, C0, l0, e0, hl0, hm0, ho0⟩ := tab_rd (rd_of_trod rfl h0)
  cases e0
  have hx0 := Nat.le_trans hl0 hm0
  have k1 := h1
  have lt1 : ∀ x ∈ p1, x.block < W.heap.size := by obtain ⟨m, hm⟩ := k1; exact DataW.trod_lt m _ _ _ hm
  obtain ⟨a1, len1, cap1, rfl⟩ := okWide_slice Try.underlying29 (hval 1 29 v1 rfl rfl)
  obtain ⟨A1, C1, l1, e1, hl1, hm1, ho1⟩ := ts_rd (rd_of_trod rfl h1)
  cases e1
  have hx1 := Nat.le_trans hl1 hm1
  obtain ⟨a2, rfl, rfl, rfl, w2⟩ := open_int Try.underlying65 (hval 2 65 v2 rfl rfl) h2
  have k3 := h3
  have lt3 : ∀ x ∈ p3, x.block < W.heap.size := by obtain ⟨m, hm⟩ := k3; exact DataW.trod_lt m _ _ _ hm
  obtain ⟨a3, len3, cap3, rfl⟩ := okWide_slice Try.underlying66 (hval 3 66 v3 rfl rfl)
  obtain ⟨A3, C3, l3, e3, hl3, hm3, ho3⟩ := bo_rd (rd_of_trod rfl h3)
  cases e3
  have hx3 := Nat.le_trans hl3 hm3
  clear hA0 hval0
  refine (pSettle _ _ l0 _ _ l1 a2 _ _ l3 W ho0 hx0 ho1 hx1 w2 ho3 hx3).mono fun e W' ⟨he, bel⟩ => ?_
  subst he
  exact ⟨_, rfl, _, _, _, [], _, [], hW', trodAll_mk1 (shut_bool Try.underlying4 _), (trodAll_cons_mk (Below.trod laidOut (by kernel_rfl) (of_decide_eq_true (by kernel_rfl)) k0 bel lt0) (trodAll_cons_mk (Below.trod laidOut (by kernel_rfl) (of_decide_eq_true (by kernel_rfl)) k1 bel lt1) (trodAll_cons_mk (shut_int Try.underlying65 w2) (trodAll_cons_mk (Below.trod laidOut (by kernel_rfl) (of_decide_eq_true (by kernel_rfl)) k3 bel lt3) trodAll_mk0)))), rfl, bel.frame _, fun h => by cases h⟩
theorem over : Rows.claimsSettleRow.holds Try.pinned (OpenSpec.ofChange Rows.claimsSettleSpec) :=
  OpenClaim.holds_of_wide 5 Try.f5 rfl rfl rfl rfl rfl rfl rfl ⟨rfl, rfl, rfl, rfl, rfl⟩ rfl rfl rfl rfl rfl (by kernel_rfl) Try.func5 (by kernel_rfl)
    (of_decide_eq_true (by kernel_rfl)) (by unfold Func.isWrapper; first | (rw [if_pos (by decide +kernel)]; kernel_rfl) | (rw [if_neg (by decide +kernel)]; exact ⟨rfl, rfl⟩))
    (fun os started H enc _ => lifted os started H enc)
theorem proved : Rows.ClaimsSettleSaid := over
end claimsSettle
end Go.Proofs.Ytleenbfldkmcaaa
