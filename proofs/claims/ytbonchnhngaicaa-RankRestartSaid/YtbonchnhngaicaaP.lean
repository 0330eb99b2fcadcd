/- Proved: the given statements of the laws named below: for every input the law returns true and what came in reads as before. Conditions: none but the given rows own. (Printed by wip/tools/gen2.py.) -/
import Derived.Test.YtbonchnhngaicaaRows
import Derived.Test.YtbonchnhngaicaaKit
import Derived.Test.YtbonchnhngaicaaX18
import Derived.WalkKit
import Derived.ProofKit
import Derived.OpenShut
import Derived.ShutString
import Derived.ChangeOld
import Derived.Below
namespace Go.Proofs.Ytbonchnhngaicaa
open Go.ChangeShapes Go.WideShapes Go.ChangeAt Go.RowKit
set_option linter.unusedVariables false
theorem own : ownKnob Try.prog.godebug = none := by kernel_rfl
theorem laidOut : laidOutB Try.prog = true := by kernel_rfl

/-! ### RankMatchesReference -/
namespace rankMatchesReference
set_option maxRecDepth 100000 in
theorem lifted (os : Os) (started : os.Started) (H : Type) (enc : TypeId × Value → H) :
    ReturnsInHanded {} Try.checked os 3 .any (Rows.rankMatchesReferenceSpec.pre6 enc Try.prog Try.f3 Rows.rankMatchesReferenceRow.domain false) (Rows.rankMatchesReferenceSpec.post enc Try.prog Try.f3 false true false false) := by
  refine returnsInHanded_of_change (C := Try.checked) own started (by kernel_rfl) Try.func3
    (ChangeSpec.witness6 (enc := enc) (C := Try.checked) false ⟨#[], #[.agg #[.int .i64 0, .int .i64 0, .int .i64 0, .int .i64 0, .int .i64 0], .slice none 0 0, .agg #[.int .i64 0, .int .i64 0], .agg #[.int .i64 0, .int .i64 0], .bool false, .int .i64 0], []⟩ 8 (by kernel_rfl) (by kernel_rfl) (by kernel_rfl) (by kernel_rfl)) ?_
  intro W base args ds gs before hval0 hW hcnd _
  have hval : ∀ (j : Nat) t v, Try.f3.params[j]? = some t → args[j]? = some v → Value.okWide Try.prog W .any base t v := hval0
  have hW' := hW
  obtain ⟨p, q, hA0, hV, rfl, hfz, hnd⟩ := hW
  have hA : DataW.TrodAll enc Try.prog W 0 (fun _ => true) true Try.f3.params.toList args.toList ds p := hA0
  rw [Try.params3] at hA hval
  obtain ⟨v0, vs0, d0, ds0, p0, q0, hargs, rfl, rfl, h0, r0⟩ := trodAll_cons hA
  obtain ⟨v1, vs1, d1, ds1, p1, q1, rfl, rfl, rfl, h1, r1⟩ := trodAll_cons r0
  obtain ⟨v2, vs2, d2, ds2, p2, q2, rfl, rfl, rfl, h2, r2⟩ := trodAll_cons r1
  obtain ⟨v3, vs3, d3, ds3, p3, q3, rfl, rfl, rfl, h3, r3⟩ := trodAll_cons r2
  obtain ⟨v4, vs4, d4, ds4, p4, q4, rfl, rfl, rfl, h4, r4⟩ := trodAll_cons r3
  obtain ⟨v5, vs5, d5, ds5, p5, q5, rfl, rfl, rfl, h5, r5⟩ := trodAll_cons r4
  obtain ⟨rfl, rfl, rfl⟩ := trodAll_nil r5
  obtain rfl : args = #[v0, v1, v2, v3, v4, v5] := by cases args; simp_all
  obtain ⟨rfl, rfl⟩ := trodVars_none hV
  have k0 := h0
  have lt0 : ∀ x ∈ p0, x.block < W.heap.size := by obtain ⟨m, hm⟩ := k0; exact DataW.trod_lt m _ _ _ hm
  obtain ⟨cs0, rfl, _⟩ := okWide_struct Try.underlying25 (hval 0 25 v0 rfl rfl)
  obtain ⟨l0⟩ := cs0
  obtain ⟨fu0, hf0⟩ := h0
  obtain ⟨fl0, fk0⟩ := flat_of_trod 6 25 [some .i64, some .i64, some .i64, some .i64, some .i64] fu0 _ _ (by kernel_rfl) hf0
  obtain ⟨c0_0, c0_1, c0_2, c0_3, c0_4, rfl⟩ := list5 (l := l0) (by simpa [Value.cells] using fl0)
  obtain ⟨_, e, a0_0, rfl, w0_0⟩ := fk0 0 _ rfl
  simp [Value.cells] at e; subst e
  obtain ⟨_, e, a0_1, rfl, w0_1⟩ := fk0 1 _ rfl
  simp [Value.cells] at e; subst e
  obtain ⟨_, e, a0_2, rfl, w0_2⟩ := fk0 2 _ rfl
  simp [Value.cells] at e; subst e
  obtain ⟨_, e, a0_3, rfl, w0_3⟩ := fk0 3 _ rfl
  simp [Value.cells] at e; subst e
  obtain ⟨_, e, a0_4, rfl, w0_4⟩ := fk0 4 _ rfl
  simp [Value.cells] at e; subst e
  obtain ⟨a1, len1, cap1, rfl⟩ := okWide_slice Try.underlying26 (hval 1 26 v1 rfl rfl)
  have k1 := h1
  have lt1 : ∀ x ∈ p1, x.block < W.heap.size := by obtain ⟨m, hm⟩ := k1; exact DataW.trod_lt m _ _ _ hm
  obtain ⟨css1, hn1, hl1, hm1, hfl1, hr1⟩ := row_of_trod (n := 6) (ks := [some .i64, some .i64, some .i64, some .i64]) Try.underlying26 (by kernel_rfl) (by kernel_rfl) (by decide) h1
  have hx1 := Nat.le_trans hl1 hm1
  subst hn1
  have k2 := h2
  have lt2 : ∀ x ∈ p2, x.block < W.heap.size := by obtain ⟨m, hm⟩ := k2; exact DataW.trod_lt m _ _ _ hm
  obtain ⟨cs2, rfl, _⟩ := okWide_struct Try.underlying23 (hval 2 23 v2 rfl rfl)
  obtain ⟨l2⟩ := cs2
  obtain ⟨fu2, hf2⟩ := h2
  obtain ⟨fl2, fk2⟩ := flat_of_trod 6 23 [some .i64, some .i64] fu2 _ _ (by kernel_rfl) hf2
  obtain ⟨c2_0, c2_1, rfl⟩ := list2 (l := l2) (by simpa [Value.cells] using fl2)
  obtain ⟨_, e, a2_0, rfl, w2_0⟩ := fk2 0 _ rfl
  simp [Value.cells] at e; subst e
  obtain ⟨_, e, a2_1, rfl, w2_1⟩ := fk2 1 _ rfl
  simp [Value.cells] at e; subst e
  have k3 := h3
  have lt3 : ∀ x ∈ p3, x.block < W.heap.size := by obtain ⟨m, hm⟩ := k3; exact DataW.trod_lt m _ _ _ hm
  obtain ⟨cs3, rfl, _⟩ := okWide_struct Try.underlying23 (hval 3 23 v3 rfl rfl)
  obtain ⟨l3⟩ := cs3
  obtain ⟨fu3, hf3⟩ := h3
  obtain ⟨fl3, fk3⟩ := flat_of_trod 6 23 [some .i64, some .i64] fu3 _ _ (by kernel_rfl) hf3
  obtain ⟨c3_0, c3_1, rfl⟩ := list2 (l := l3) (by simpa [Value.cells] using fl3)
  obtain ⟨_, e, a3_0, rfl, w3_0⟩ := fk3 0 _ rfl
  simp [Value.cells] at e; subst e
  obtain ⟨_, e, a3_1, rfl, w3_1⟩ := fk3 1 _ rfl
  simp [Value.cells] at e; subst e
  obtain ⟨a4, rfl, rfl, rfl⟩ := open_bool Try.underlying4 (hval 4 4 v4 rfl rfl) h4
  obtain ⟨a5, rfl, rfl, rfl, w5⟩ := open_int Try.underlying3 (hval 5 3 v5 rfl rfl) h5
  clear hA0 hval0
  refine ((fun q1 q2 q3 q4 q5 a cap css t1 t2 o1 o2 root q w _ _ _ _ _ hr _ hf hl hm _ _ _ _ _ => pMatches q1 q2 q3 q4 q5 a cap css w hr hf hl hm t1 t2 o1 o2 root q) a0_0 a0_1 a0_2 a0_3 a0_4 a1 cap1 css1 a2_0 a2_1 a3_0 a3_1 a4 a5 W w0_0 w0_1 w0_2 w0_3 w0_4 hr1 hx1 hfl1 hl1 hm1 w2_0 w2_1 w3_0 w3_1 w5).mono fun e W' ⟨he, bel⟩ => ?_
  subst he
  exact ⟨_, rfl, _, _, _, [], _, [], hW', trodAll_mk1 (shut_bool Try.underlying4 _), (trodAll_cons_mk (Below.trod laidOut (by kernel_rfl) (of_decide_eq_true (by kernel_rfl)) k0 bel lt0) (trodAll_cons_mk (Below.trod laidOut (by kernel_rfl) (of_decide_eq_true (by kernel_rfl)) k1 bel lt1) (trodAll_cons_mk (Below.trod laidOut (by kernel_rfl) (of_decide_eq_true (by kernel_rfl)) k2 bel lt2) (trodAll_cons_mk (Below.trod laidOut (by kernel_rfl) (of_decide_eq_true (by kernel_rfl)) k3 bel lt3) (trodAll_cons_mk (shut_bool Try.underlying4 _) (trodAll_cons_mk (shut_int Try.underlying3 w5) trodAll_mk0)))))), rfl, bel.frame _, fun h => by cases h⟩
theorem over : Rows.rankMatchesReferenceRow.holds Try.pinned (OpenSpec.ofChange Rows.rankMatchesReferenceSpec) :=
  OpenClaim.holds_of_wide 3 Try.f3 rfl rfl rfl rfl rfl rfl rfl ⟨rfl, rfl, rfl, rfl, rfl⟩ rfl rfl rfl rfl rfl (by kernel_rfl) Try.func3 (by kernel_rfl)
    (of_decide_eq_true (by kernel_rfl)) (by unfold Func.isWrapper; first | (rw [if_pos (by decide +kernel)]; kernel_rfl) | (rw [if_neg (by decide +kernel)]; exact ⟨rfl, rfl⟩))
    (fun os started H enc _ => lifted os started H enc)
theorem proved : Rows.RankMatchesReferenceSaid := over
end rankMatchesReference

/-! ### RankOrder -/
namespace rankOrder
set_option maxRecDepth 100000 in
theorem lifted (os : Os) (started : os.Started) (H : Type) (enc : TypeId × Value → H) :
    ReturnsInHanded {} Try.checked os 4 .any (Rows.rankOrderSpec.pre6 enc Try.prog Try.f4 Rows.rankOrderRow.domain false) (Rows.rankOrderSpec.post enc Try.prog Try.f4 false true false false) := by
  refine returnsInHanded_of_change (C := Try.checked) own started (by kernel_rfl) Try.func4
    (ChangeSpec.witness6 (enc := enc) (C := Try.checked) false ⟨#[], #[.agg #[.int .i64 0, .int .i64 0], .agg #[.int .i64 0, .int .i64 0], .agg #[.int .i64 0, .int .i64 0], .agg #[.int .i64 0, .int .i64 0, .int .i64 0, .int .i64 0, .int .i64 0], .agg #[.int .i64 0, .int .i64 0, .int .i64 0, .int .i64 0, .int .i64 0]], []⟩ 8 (by kernel_rfl) (by kernel_rfl) (by kernel_rfl) (by kernel_rfl)) ?_
  intro W base args ds gs before hval0 hW hcnd _
  have hval : ∀ (j : Nat) t v, Try.f4.params[j]? = some t → args[j]? = some v → Value.okWide Try.prog W .any base t v := hval0
  have hW' := hW
  obtain ⟨p, q, hA0, hV, rfl, hfz, hnd⟩ := hW
  have hA : DataW.TrodAll enc Try.prog W 0 (fun _ => true) true Try.f4.params.toList args.toList ds p := hA0
  rw [Try.params4] at hA hval
  obtain ⟨v0, vs0, d0, ds0, p0, q0, hargs, rfl, rfl, h0, r0⟩ := trodAll_cons hA
  obtain ⟨v1, vs1, d1, ds1, p1, q1, rfl, rfl, rfl, h1, r1⟩ := trodAll_cons r0
  obtain ⟨v2, vs2, d2, ds2, p2, q2, rfl, rfl, rfl, h2, r2⟩ := trodAll_cons r1
  obtain ⟨v3, vs3, d3, ds3, p3, q3, rfl, rfl, rfl, h3, r3⟩ := trodAll_cons r2
  obtain ⟨v4, vs4, d4, ds4, p4, q4, rfl, rfl, rfl, h4, r4⟩ := trodAll_cons r3
  obtain ⟨rfl, rfl, rfl⟩ := trodAll_nil r4
  obtain rfl : args = #[v0, v1, v2, v3, v4] := by cases args; simp_all
  obtain ⟨rfl, rfl⟩ := trodVars_none hV
  have k0 := h0
  have lt0 : ∀ x ∈ p0, x.block < W.heap.size := by obtain ⟨m, hm⟩ := k0; exact DataW.trod_lt m _ _ _ hm
  obtain ⟨cs0, rfl, _⟩ := okWide_struct Try.underlying23 (hval 0 23 v0 rfl rfl)
  obtain ⟨l0⟩ := cs0
  obtain ⟨fu0, hf0⟩ := h0
  obtain ⟨fl0, fk0⟩ := flat_of_trod 6 23 [some .i64, some .i64] fu0 _ _ (by kernel_rfl) hf0
  obtain ⟨c0_0, c0_1, rfl⟩ := list2 (l := l0) (by simpa [Value.cells] using fl0)
  obtain ⟨_, e, a0_0, rfl, w0_0⟩ := fk0 0 _ rfl
  simp [Value.cells] at e; subst e
  obtain ⟨_, e, a0_1, rfl, w0_1⟩ := fk0 1 _ rfl
  simp [Value.cells] at e; subst e
  have k1 := h1
  have lt1 : ∀ x ∈ p1, x.block < W.heap.size := by obtain ⟨m, hm⟩ := k1; exact DataW.trod_lt m _ _ _ hm
  obtain ⟨cs1, rfl, _⟩ := okWide_struct Try.underlying23 (hval 1 23 v1 rfl rfl)
  obtain ⟨l1⟩ := cs1
  obtain ⟨fu1, hf1⟩ := h1
  obtain ⟨fl1, fk1⟩ := flat_of_trod 6 23 [some .i64, some .i64] fu1 _ _ (by kernel_rfl) hf1
  obtain ⟨c1_0, c1_1, rfl⟩ := list2 (l := l1) (by simpa [Value.cells] using fl1)
  obtain ⟨_, e, a1_0, rfl, w1_0⟩ := fk1 0 _ rfl
  simp [Value.cells] at e; subst e
  obtain ⟨_, e, a1_1, rfl, w1_1⟩ := fk1 1 _ rfl
  simp [Value.cells] at e; subst e
  have k2 := h2
  have lt2 : ∀ x ∈ p2, x.block < W.heap.size := by obtain ⟨m, hm⟩ := k2; exact DataW.trod_lt m _ _ _ hm
  obtain ⟨cs2, rfl, _⟩ := okWide_struct Try.underlying23 (hval 2 23 v2 rfl rfl)
  obtain ⟨l2⟩ := cs2
  obtain ⟨fu2, hf2⟩ := h2
  obtain ⟨fl2, fk2⟩ := flat_of_trod 6 23 [some .i64, some .i64] fu2 _ _ (by kernel_rfl) hf2
  obtain ⟨c2_0, c2_1, rfl⟩ := list2 (l := l2) (by simpa [Value.cells] using fl2)
  obtain ⟨_, e, a2_0, rfl, w2_0⟩ := fk2 0 _ rfl
  simp [Value.cells] at e; subst e
  obtain ⟨_, e, a2_1, rfl, w2_1⟩ := fk2 1 _ rfl
  simp [Value.cells] at e; subst e
  have k3 := h3
  have lt3 : ∀ x ∈ p3, x.block < W.heap.size := by obtain ⟨m, hm⟩ := k3; exact DataW.trod_lt m _ _ _ hm
  obtain ⟨cs3, rfl, _⟩ := okWide_struct Try.underlying25 (hval 3 25 v3 rfl rfl)
  obtain ⟨l3⟩ := cs3
  obtain ⟨fu3, hf3⟩ := h3
  obtain ⟨fl3, fk3⟩ := flat_of_trod 6 25 [some .i64, some .i64, some .i64, some .i64, some .i64] fu3 _ _ (by kernel_rfl) hf3
  obtain ⟨c3_0, c3_1, c3_2, c3_3, c3_4, rfl⟩ := list5 (l := l3) (by simpa [Value.cells] using fl3)
  obtain ⟨_, e, a3_0, rfl, w3_0⟩ := fk3 0 _ rfl
  simp [Value.cells] at e; subst e
  obtain ⟨_, e, a3_1, rfl, w3_1⟩ := fk3 1 _ rfl
  simp [Value.cells] at e; subst e
  obtain ⟨_, e, a3_2, rfl, w3_2⟩ := fk3 2 _ rfl
  simp [Value.cells] at e; subst e
  obtain ⟨_, e, a3_3, rfl, w3_3⟩ := fk3 3 _ rfl
  simp [Value.cells] at e; subst e
  obtain ⟨_, e, a3_4, rfl, w3_4⟩ := fk3 4 _ rfl
  simp [Value.cells] at e; subst e
  have k4 := h4
  have lt4 : ∀ x ∈ p4, x.block < W.heap.size := by obtain ⟨m, hm⟩ := k4; exact DataW.trod_lt m _ _ _ hm
  obtain ⟨cs4, rfl, _⟩ := okWide_struct Try.underlying25 (hval 4 25 v4 rfl rfl)
  obtain ⟨l4⟩ := cs4
  obtain ⟨fu4, hf4⟩ := h4
  obtain ⟨fl4, fk4⟩ := flat_of_trod 6 25 [some .i64, some .i64, some .i64, some .i64, some .i64] fu4 _ _ (by kernel_rfl) hf4
  obtain ⟨c4_0, c4_1, c4_2, c4_3, c4_4, rfl⟩ := list5 (l := l4) (by simpa [Value.cells] using fl4)
  obtain ⟨_, e, a4_0, rfl, w4_0⟩ := fk4 0 _ rfl
  simp [Value.cells] at e; subst e
  obtain ⟨_, e, a4_1, rfl, w4_1⟩ := fk4 1 _ rfl
  simp [Value.cells] at e; subst e
  obtain ⟨_, e, a4_2, rfl, w4_2⟩ := fk4 2 _ rfl
  simp [Value.cells] at e; subst e
  obtain ⟨_, e, a4_3, rfl, w4_3⟩ := fk4 3 _ rfl
  simp [Value.cells] at e; subst e
  obtain ⟨_, e, a4_4, rfl, w4_4⟩ := fk4 4 _ rfl
  simp [Value.cells] at e; subst e
  clear hA0 hval0
  refine ((fun a1 a2 b1 b2 c1 c2 r1 r2 r3 r4 r5 s1 s2 s3 s4 s5 w _ _ _ _ _ _ _ _ _ _ _ _ _ _ _ _ => pOrder a1 a2 b1 b2 c1 c2 r1 r2 r3 r4 r5 s1 s2 s3 s4 s5 w) a0_0 a0_1 a1_0 a1_1 a2_0 a2_1 a3_0 a3_1 a3_2 a3_3 a3_4 a4_0 a4_1 a4_2 a4_3 a4_4 W w0_0 w0_1 w1_0 w1_1 w2_0 w2_1 w3_0 w3_1 w3_2 w3_3 w3_4 w4_0 w4_1 w4_2 w4_3 w4_4).mono fun e W' ⟨he, bel⟩ => ?_
  subst he
  exact ⟨_, rfl, _, _, _, [], _, [], hW', trodAll_mk1 (shut_bool Try.underlying4 _), (trodAll_cons_mk (Below.trod laidOut (by kernel_rfl) (of_decide_eq_true (by kernel_rfl)) k0 bel lt0) (trodAll_cons_mk (Below.trod laidOut (by kernel_rfl) (of_decide_eq_true (by kernel_rfl)) k1 bel lt1) (trodAll_cons_mk (Below.trod laidOut (by kernel_rfl) (of_decide_eq_true (by kernel_rfl)) k2 bel lt2) (trodAll_cons_mk (Below.trod laidOut (by kernel_rfl) (of_decide_eq_true (by kernel_rfl)) k3 bel lt3) (trodAll_cons_mk (Below.trod laidOut (by kernel_rfl) (of_decide_eq_true (by kernel_rfl)) k4 bel lt4) trodAll_mk0))))), rfl, bel.frame _, fun h => by cases h⟩
theorem over : Rows.rankOrderRow.holds Try.pinned (OpenSpec.ofChange Rows.rankOrderSpec) :=
  OpenClaim.holds_of_wide 4 Try.f4 rfl rfl rfl rfl rfl rfl rfl ⟨rfl, rfl, rfl, rfl, rfl⟩ rfl rfl rfl rfl rfl (by kernel_rfl) Try.func4 (by kernel_rfl)
    (of_decide_eq_true (by kernel_rfl)) (by unfold Func.isWrapper; first | (rw [if_pos (by decide +kernel)]; kernel_rfl) | (rw [if_neg (by decide +kernel)]; exact ⟨rfl, rfl⟩))
    (fun os started H enc _ => lifted os started H enc)
theorem proved : Rows.RankOrderSaid := over
end rankOrder

/-! ### RankValid -/
namespace rankValid
set_option maxRecDepth 100000 in
theorem lifted (os : Os) (started : os.Started) (H : Type) (enc : TypeId × Value → H) :
    ReturnsInHanded {} Try.checked os 5 .any (Rows.rankValidSpec.pre6 enc Try.prog Try.f5 Rows.rankValidRow.domain false) (Rows.rankValidSpec.post enc Try.prog Try.f5 false true false false) := by
  refine returnsInHanded_of_change (C := Try.checked) own started (by kernel_rfl) Try.func5
    (ChangeSpec.witness6 (enc := enc) (C := Try.checked) false ⟨#[], #[.agg #[.int .i64 0, .int .i64 0, .int .i64 0, .int .i64 0, .int .i64 0], .slice none 0 0, .int .i64 0], []⟩ 8 (by kernel_rfl) (by kernel_rfl) (by kernel_rfl) (by kernel_rfl)) ?_
  intro W base args ds gs before hval0 hW hcnd _
  have hval : ∀ (j : Nat) t v, Try.f5.params[j]? = some t → args[j]? = some v → Value.okWide Try.prog W .any base t v := hval0
  have hW' := hW
  obtain ⟨p, q, hA0, hV, rfl, hfz, hnd⟩ := hW
  have hA : DataW.TrodAll enc Try.prog W 0 (fun _ => true) true Try.f5.params.toList args.toList ds p := hA0
  rw [Try.params5] at hA hval
  obtain ⟨v0, vs0, d0, ds0, p0, q0, hargs, rfl, rfl, h0, r0⟩ := trodAll_cons hA
  obtain ⟨v1, vs1, d1, ds1, p1, q1, rfl, rfl, rfl, h1, r1⟩ := trodAll_cons r0
  obtain ⟨v2, vs2, d2, ds2, p2, q2, rfl, rfl, rfl, h2, r2⟩ := trodAll_cons r1
  obtain ⟨rfl, rfl, rfl⟩ := trodAll_nil r2
  obtain rfl : args = #[v0, v1, v2] := by cases args; simp_all
  obtain ⟨rfl, rfl⟩ := trodVars_none hV
  have k0 := h0
  have lt0 : ∀ x ∈ p0, x.block < W.heap.size := by obtain ⟨m, hm⟩ := k0; exact DataW.trod_lt m _ _ _ hm
  obtain ⟨cs0, rfl, _⟩ := okWide_struct Try.underlying25 (hval 0 25 v0 rfl rfl)
  obtain ⟨l0⟩ := cs0
  obtain ⟨fu0, hf0⟩ := h0
  obtain ⟨fl0, fk0⟩ := flat_of_trod 6 25 [some .i64, some .i64, some .i64, some .i64, some .i64] fu0 _ _ (by kernel_rfl) hf0
  obtain ⟨c0_0, c0_1, c0_2, c0_3, c0_4, rfl⟩ := list5 (l := l0) (by simpa [Value.cells] using fl0)
  obtain ⟨_, e, a0_0, rfl, w0_0⟩ := fk0 0 _ rfl
  simp [Value.cells] at e; subst e
  obtain ⟨_, e, a0_1, rfl, w0_1⟩ := fk0 1 _ rfl
  simp [Value.cells] at e; subst e
  obtain ⟨_, e, a0_2, rfl, w0_2⟩ := fk0 2 _ rfl
  simp [Value.cells] at e; subst e
  obtain ⟨_, e, a0_3, rfl, w0_3⟩ := fk0 3 _ rfl
  simp [Value.cells] at e; subst e
  obtain ⟨_, e, a0_4, rfl, w0_4⟩ := fk0 4 _ rfl
  simp [Value.cells] at e; subst e
  obtain ⟨a1, len1, cap1, rfl⟩ := okWide_slice Try.underlying26 (hval 1 26 v1 rfl rfl)
  have k1 := h1
  have lt1 : ∀ x ∈ p1, x.block < W.heap.size := by obtain ⟨m, hm⟩ := k1; exact DataW.trod_lt m _ _ _ hm
  obtain ⟨css1, hn1, hl1, hm1, hfl1, hr1⟩ := row_of_trod (n := 6) (ks := [some .i64, some .i64, some .i64, some .i64]) Try.underlying26 (by kernel_rfl) (by kernel_rfl) (by decide) h1
  have hx1 := Nat.le_trans hl1 hm1
  subst hn1
  obtain ⟨a2, rfl, rfl, rfl, w2⟩ := open_int Try.underlying3 (hval 2 3 v2 rfl rfl) h2
  clear hA0 hval0
  refine ((fun q1 q2 q3 q4 q5 a cap css q w _ _ _ _ _ hr _ hf hl hm _ => pValid q1 q2 q3 q4 q5 a cap css w hr hf hl hm q) a0_0 a0_1 a0_2 a0_3 a0_4 a1 cap1 css1 a2 W w0_0 w0_1 w0_2 w0_3 w0_4 hr1 hx1 hfl1 hl1 hm1 w2).mono fun e W' ⟨he, bel⟩ => ?_
  subst he
  exact ⟨_, rfl, _, _, _, [], _, [], hW', trodAll_mk1 (shut_bool Try.underlying4 _), (trodAll_cons_mk (Below.trod laidOut (by kernel_rfl) (of_decide_eq_true (by kernel_rfl)) k0 bel lt0) (trodAll_cons_mk (Below.trod laidOut (by kernel_rfl) (of_decide_eq_true (by kernel_rfl)) k1 bel lt1) (trodAll_cons_mk (shut_int Try.underlying3 w2) trodAll_mk0))), rfl, bel.frame _, fun h => by cases h⟩
theorem over : Rows.rankValidRow.holds Try.pinned (OpenSpec.ofChange Rows.rankValidSpec) :=
  OpenClaim.holds_of_wide 5 Try.f5 rfl rfl rfl rfl rfl rfl rfl ⟨rfl, rfl, rfl, rfl, rfl⟩ rfl rfl rfl rfl rfl (by kernel_rfl) Try.func5 (by kernel_rfl)
    (of_decide_eq_true (by kernel_rfl)) (by unfold Func.isWrapper; first | (rw [if_pos (by decide +kernel)]; kernel_rfl) | (rw [if_neg (by decide +kernel)]; exact ⟨rfl, rfl⟩))
    (fun os started H enc _ => lifted os started H enc)
theorem proved : Rows.RankValidSaid := over
end rankValid

/-! ### RankChoice -/
namespace rankChoice
set_option maxRecDepth 100000 in
theorem lifted (os : Os) (started : os.Started) (H : Type) (enc : TypeId × Value → H) :
    ReturnsInHanded {} Try.checked os 6 .any (Rows.rankChoiceSpec.pre6 enc Try.prog Try.f6 Rows.rankChoiceRow.domain false) (Rows.rankChoiceSpec.post enc Try.prog Try.f6 false true false false) := by
  refine returnsInHanded_of_change (C := Try.checked) own started (by kernel_rfl) Try.func6
    (ChangeSpec.witness6 (enc := enc) (C := Try.checked) false ⟨#[], #[.agg #[.int .i64 0, .int .i64 0, .int .i64 0, .int .i64 0, .int .i64 0], .slice none 0 0, .int .u8 0, .int .u8 0], []⟩ 8 (by kernel_rfl) (by kernel_rfl) (by kernel_rfl) (by kernel_rfl)) ?_
  intro W base args ds gs before hval0 hW hcnd _
  have hval : ∀ (j : Nat) t v, Try.f6.params[j]? = some t → args[j]? = some v → Value.okWide Try.prog W .any base t v := hval0
  have hW' := hW
  obtain ⟨p, q, hA0, hV, rfl, hfz, hnd⟩ := hW
  have hA : DataW.TrodAll enc Try.prog W 0 (fun _ => true) true Try.f6.params.toList args.toList ds p := hA0
  rw [Try.params6] at hA hval
  obtain ⟨v0, vs0, d0, ds0, p0, q0, hargs, rfl, rfl, h0, r0⟩ := trodAll_cons hA
  obtain ⟨v1, vs1, d1, ds1, p1, q1, rfl, rfl, rfl, h1, r1⟩ := trodAll_cons r0
  obtain ⟨v2, vs2, d2, ds2, p2, q2, rfl, rfl, rfl, h2, r2⟩ := trodAll_cons r1
  obtain ⟨v3, vs3, d3, ds3, p3, q3, rfl, rfl, rfl, h3, r3⟩ := trodAll_cons r2
  obtain ⟨rfl, rfl, rfl⟩ := trodAll_nil r3
  obtain rfl : args = #[v0, v1, v2, v3] := by cases args; simp_all
  obtain ⟨rfl, rfl⟩ := trodVars_none hV
  have k0 := h0
  have lt0 : ∀ x ∈ p0, x.block < W.heap.size := by obtain ⟨m, hm⟩ := k0; exact DataW.trod_lt m _ _ _ hm
  obtain ⟨cs0, rfl, _⟩ := okWide_struct Try.underlying25 (hval 0 25 v0 rfl rfl)
  obtain ⟨l0⟩ := cs0
  obtain ⟨fu0, hf0⟩ := h0
  obtain ⟨fl0, fk0⟩ := flat_of_trod 6 25 [some .i64, some .i64, some .i64, some .i64, some .i64] fu0 _ _ (by kernel_rfl) hf0
  obtain ⟨c0_0, c0_1, c0_2, c0_3, c0_4, rfl⟩ := list5 (l := l0) (by simpa [Value.cells] using fl0)
  obtain ⟨_, e, a0_0, rfl, w0_0⟩ := fk0 0 _ rfl
  simp [Value.cells] at e; subst e
  obtain ⟨_, e, a0_1, rfl, w0_1⟩ := fk0 1 _ rfl
  simp [Value.cells] at e; subst e
  obtain ⟨_, e, a0_2, rfl, w0_2⟩ := fk0 2 _ rfl
  simp [Value.cells] at e; subst e
  obtain ⟨_, e, a0_3, rfl, w0_3⟩ := fk0 3 _ rfl
  simp [Value.cells] at e; subst e
  obtain ⟨_, e, a0_4, rfl, w0_4⟩ := fk0 4 _ rfl
  simp [Value.cells] at e; subst e
  obtain ⟨a1, len1, cap1, rfl⟩ := okWide_slice Try.underlying26 (hval 1 26 v1 rfl rfl)
  have k1 := h1
  have lt1 : ∀ x ∈ p1, x.block < W.heap.size := by obtain ⟨m, hm⟩ := k1; exact DataW.trod_lt m _ _ _ hm
  obtain ⟨css1, hn1, hl1, hm1, hfl1, hr1⟩ := row_of_trod (n := 6) (ks := [some .i64, some .i64, some .i64, some .i64]) Try.underlying26 (by kernel_rfl) (by kernel_rfl) (by decide) h1
  have hx1 := Nat.le_trans hl1 hm1
  subst hn1
  obtain ⟨a2, rfl, rfl, rfl, w2⟩ := open_int Try.underlying5 (hval 2 5 v2 rfl rfl) h2
  obtain ⟨a3, rfl, rfl, rfl, w3⟩ := open_int Try.underlying5 (hval 3 5 v3 rfl rfl) h3
  clear hA0 hval0
  refine ((fun q1 q2 q3 q4 q5 a cap css t u w _ _ _ _ _ hr _ hf hl hm ht hu => pChoice q1 q2 q3 q4 q5 a cap css w hr hf hl hm t u ht hu) a0_0 a0_1 a0_2 a0_3 a0_4 a1 cap1 css1 a2 a3 W w0_0 w0_1 w0_2 w0_3 w0_4 hr1 hx1 hfl1 hl1 hm1 w2 w3).mono fun e W' ⟨he, bel⟩ => ?_
  subst he
  exact ⟨_, rfl, _, _, _, [], _, [], hW', trodAll_mk1 (shut_bool Try.underlying4 _), (trodAll_cons_mk (Below.trod laidOut (by kernel_rfl) (of_decide_eq_true (by kernel_rfl)) k0 bel lt0) (trodAll_cons_mk (Below.trod laidOut (by kernel_rfl) (of_decide_eq_true (by kernel_rfl)) k1 bel lt1) (trodAll_cons_mk (shut_int Try.underlying5 w2) (trodAll_cons_mk (shut_int Try.underlying5 w3) trodAll_mk0)))), rfl, bel.frame _, fun h => by cases h⟩
theorem over : Rows.rankChoiceRow.holds Try.pinned (OpenSpec.ofChange Rows.rankChoiceSpec) :=
  OpenClaim.holds_of_wide 6 Try.f6 rfl rfl rfl rfl rfl rfl rfl ⟨rfl, rfl, rfl, rfl, rfl⟩ rfl rfl rfl rfl rfl (by kernel_rfl) Try.func6 (by kernel_rfl)
    (of_decide_eq_true (by kernel_rfl)) (by unfold Func.isWrapper; first | (rw [if_pos (by decide +kernel)]; kernel_rfl) | (rw [if_neg (by decide +kernel)]; exact ⟨rfl, rfl⟩))
    (fun os started H enc _ => lifted os started H enc)
theorem proved : Rows.RankChoiceSaid := over
end rankChoice

/-! ### RankDownhill -/
namespace rankDownhill
set_option maxRecDepth 100000 in
theorem lifted (os : Os) (started : os.Started) (H : Type) (enc : TypeId × Value → H) :
    ReturnsInHanded {} Try.checked os 7 .any (Rows.rankDownhillSpec.pre6 enc Try.prog Try.f7 Rows.rankDownhillRow.domain false) (Rows.rankDownhillSpec.post enc Try.prog Try.f7 false true false false) := by
  refine returnsInHanded_of_change (C := Try.checked) own started (by kernel_rfl) Try.func7
    (ChangeSpec.witness6 (enc := enc) (C := Try.checked) false ⟨#[], #[.agg #[.int .i64 0, .int .i64 0, .int .i64 0, .int .i64 0, .int .i64 0], .slice none 0 0, .agg #[.int .i64 0, .int .i64 0]], []⟩ 8 (by kernel_rfl) (by kernel_rfl) (by kernel_rfl) (by kernel_rfl)) ?_
  intro W base args ds gs before hval0 hW hcnd _
  have hval : ∀ (j : Nat) t v, Try.f7.params[j]? = some t → args[j]? = some v → Value.okWide Try.prog W .any base t v := hval0
  have hW' := hW
  obtain ⟨p, q, hA0, hV, rfl, hfz, hnd⟩ := hW
  have hA : DataW.TrodAll enc Try.prog W 0 (fun _ => true) true Try.f7.params.toList args.toList ds p := hA0
  rw [Try.params7] at hA hval
  obtain ⟨v0, vs0, d0, ds0, p0, q0, hargs, rfl, rfl, h0, r0⟩ := trodAll_cons hA
  obtain ⟨v1, vs1, d1, ds1, p1, q1, rfl, rfl, rfl, h1, r1⟩ := trodAll_cons r0
  obtain ⟨v2, vs2, d2, ds2, p2, q2, rfl, rfl, rfl, h2, r2⟩ := trodAll_cons r1
  obtain ⟨rfl, rfl, rfl⟩ := trodAll_nil r2
  obtain rfl : args = #[v0, v1, v2] := by cases args; simp_all
  obtain ⟨rfl, rfl⟩ := trodVars_none hV
  have k0 := h0
  have lt0 : ∀ x ∈ p0, x.block < W.heap.size := by obtain ⟨m, hm⟩ := k0; exact DataW.trod_lt m _ _ _ hm
  obtain ⟨cs0, rfl, _⟩ := okWide_struct Try.underlying25 (hval 0 25 v0 rfl rfl)
  obtain ⟨l0⟩ := cs0
  obtain ⟨fu0, hf0⟩ := h0
  obtain ⟨fl0, fk0⟩ := flat_of_trod 6 25 [some .i64, some .i64, some .i64, some .i64, some .i64] fu0 _ _ (by kernel_rfl) hf0
  obtain ⟨c0_0, c0_1, c0_2, c0_3, c0_4, rfl⟩ := list5 (l := l0) (by simpa [Value.cells] using fl0)
  obtain ⟨_, e, a0_0, rfl, w0_0⟩ := fk0 0 _ rfl
  simp [Value.cells] at e; subst e
  obtain ⟨_, e, a0_1, rfl, w0_1⟩ := fk0 1 _ rfl
  simp [Value.cells] at e; subst e
  obtain ⟨_, e, a0_2, rfl, w0_2⟩ := fk0 2 _ rfl
  simp [Value.cells] at e; subst e
  obtain ⟨_, e, a0_3, rfl, w0_3⟩ := fk0 3 _ rfl
  simp [Value.cells] at e; subst e
  obtain ⟨_, e, a0_4, rfl, w0_4⟩ := fk0 4 _ rfl
  simp [Value.cells] at e; subst e
  obtain ⟨a1, len1, cap1, rfl⟩ := okWide_slice Try.underlying26 (hval 1 26 v1 rfl rfl)
  have k1 := h1
  have lt1 : ∀ x ∈ p1, x.block < W.heap.size := by obtain ⟨m, hm⟩ := k1; exact DataW.trod_lt m _ _ _ hm
  obtain ⟨css1, hn1, hl1, hm1, hfl1, hr1⟩ := row_of_trod (n := 6) (ks := [some .i64, some .i64, some .i64, some .i64]) Try.underlying26 (by kernel_rfl) (by kernel_rfl) (by decide) h1
  have hx1 := Nat.le_trans hl1 hm1
  subst hn1
  have k2 := h2
  have lt2 : ∀ x ∈ p2, x.block < W.heap.size := by obtain ⟨m, hm⟩ := k2; exact DataW.trod_lt m _ _ _ hm
  obtain ⟨cs2, rfl, _⟩ := okWide_struct Try.underlying23 (hval 2 23 v2 rfl rfl)
  obtain ⟨l2⟩ := cs2
  obtain ⟨fu2, hf2⟩ := h2
  obtain ⟨fl2, fk2⟩ := flat_of_trod 6 23 [some .i64, some .i64] fu2 _ _ (by kernel_rfl) hf2
  obtain ⟨c2_0, c2_1, rfl⟩ := list2 (l := l2) (by simpa [Value.cells] using fl2)
  obtain ⟨_, e, a2_0, rfl, w2_0⟩ := fk2 0 _ rfl
  simp [Value.cells] at e; subst e
  obtain ⟨_, e, a2_1, rfl, w2_1⟩ := fk2 1 _ rfl
  simp [Value.cells] at e; subst e
  clear hA0 hval0
  refine ((fun q1 q2 q3 q4 q5 a cap css t1 t2 w _ _ _ _ _ hr _ hf hl hm _ _ => pDownhill q1 q2 q3 q4 q5 a cap css w hr hf hl hm t1 t2) a0_0 a0_1 a0_2 a0_3 a0_4 a1 cap1 css1 a2_0 a2_1 W w0_0 w0_1 w0_2 w0_3 w0_4 hr1 hx1 hfl1 hl1 hm1 w2_0 w2_1).mono fun e W' ⟨he, bel⟩ => ?_
  subst he
  exact ⟨_, rfl, _, _, _, [], _, [], hW', trodAll_mk1 (shut_bool Try.underlying4 _), (trodAll_cons_mk (Below.trod laidOut (by kernel_rfl) (of_decide_eq_true (by kernel_rfl)) k0 bel lt0) (trodAll_cons_mk (Below.trod laidOut (by kernel_rfl) (of_decide_eq_true (by kernel_rfl)) k1 bel lt1) (trodAll_cons_mk (Below.trod laidOut (by kernel_rfl) (of_decide_eq_true (by kernel_rfl)) k2 bel lt2) trodAll_mk0))), rfl, bel.frame _, fun h => by cases h⟩
theorem over : Rows.rankDownhillRow.holds Try.pinned (OpenSpec.ofChange Rows.rankDownhillSpec) :=
  OpenClaim.holds_of_wide 7 Try.f7 rfl rfl rfl rfl rfl rfl rfl ⟨rfl, rfl, rfl, rfl, rfl⟩ rfl rfl rfl rfl rfl (by kernel_rfl) Try.func7 (by kernel_rfl)
    (of_decide_eq_true (by kernel_rfl)) (by unfold Func.isWrapper; first | (rw [if_pos (by decide +kernel)]; kernel_rfl) | (rw [if_neg (by decide +kernel)]; exact ⟨rfl, rfl⟩))
    (fun os started H enc _ => lifted os started H enc)
theorem proved : Rows.RankDownhillSaid := over
end rankDownhill

/-! ### RankRestart -/
namespace rankRestart
set_option maxRecDepth 100000 in
theorem lifted (os : Os) (started : os.Started) (H : Type) (enc : TypeId × Value → H) :
    ReturnsInHanded {} Try.checked os 10 .any (Rows.rankRestartSpec.pre6 enc Try.prog Try.f10 Rows.rankRestartRow.domain false) (Rows.rankRestartSpec.post enc Try.prog Try.f10 false true false false) := by
  refine returnsInHanded_of_change (C := Try.checked) own started (by kernel_rfl) Try.func10
    (ChangeSpec.witness6 (enc := enc) (C := Try.checked) false ⟨#[], #[.agg #[.int .i64 0, .int .i64 0, .int .i64 0, .int .i64 0, .int .i64 0], .slice none 0 0], []⟩ 8 (by kernel_rfl) (by kernel_rfl) (by kernel_rfl) (by kernel_rfl)) ?_
  intro W base args ds gs before hval0 hW hcnd _
  have hval : ∀ (j : Nat) t v, Try.f10.params[j]? = some t → args[j]? = some v → Value.okWide Try.prog W .any base t v := hval0
  have hW' := hW
  obtain ⟨p, q, hA0, hV, rfl, hfz, hnd⟩ := hW
  have hA : DataW.TrodAll enc Try.prog W 0 (fun _ => true) true Try.f10.params.toList args.toList ds p := hA0
  rw [Try.params10] at hA hval
  obtain ⟨v0, vs0, d0, ds0, p0, q0, hargs, rfl, rfl, h0, r0⟩ := trodAll_cons hA
  obtain ⟨v1, vs1, d1, ds1, p1, q1, rfl, rfl, rfl, h1, r1⟩ := trodAll_cons r0
  obtain ⟨rfl, rfl, rfl⟩ := trodAll_nil r1
  obtain rfl : args = #[v0, v1] := by cases args; simp_all
  obtain ⟨rfl, rfl⟩ := trodVars_none hV
  have k0 := h0
  have lt0 : ∀ x ∈ p0, x.block < W.heap.size := by obtain ⟨m, hm⟩ := k0; exact DataW.trod_lt m _ _ _ hm
  obtain ⟨cs0, rfl, _⟩ := okWide_struct Try.underlying25 (hval 0 25 v0 rfl rfl)
  obtain ⟨l0⟩ := cs0
  obtain ⟨fu0, hf0⟩ := h0
  obtain ⟨fl0, fk0⟩ := flat_of_trod 6 25 [some .i64, some .i64, some .i64, some .i64, some .i64] fu0 _ _ (by kernel_rfl) hf0
  obtain ⟨c0_0, c0_1, c0_2, c0_3, c0_4, rfl⟩ := list5 (l := l0) (by simpa [Value.cells] using fl0)
  obtain ⟨_, e, a0_0, rfl, w0_0⟩ := fk0 0 _ rfl
  simp [Value.cells] at e; subst e
  obtain ⟨_, e, a0_1, rfl, w0_1⟩ := fk0 1 _ rfl
  simp [Value.cells] at e; subst e
  obtain ⟨_, e, a0_2, rfl, w0_2⟩ := fk0 2 _ rfl
  simp [Value.cells] at e; subst e
  obtain ⟨_, e, a0_3, rfl, w0_3⟩ := fk0 3 _ rfl
  simp [Value.cells] at e; subst e
  obtain ⟨_, e, a0_4, rfl, w0_4⟩ := fk0 4 _ rfl
  simp [Value.cells] at e; subst e
  obtain ⟨a1, len1, cap1, rfl⟩ := okWide_slice Try.underlying26 (hval 1 26 v1 rfl rfl)
  have k1 := h1
  have lt1 : ∀ x ∈ p1, x.block < W.heap.size := by obtain ⟨m, hm⟩ := k1; exact DataW.trod_lt m _ _ _ hm
  obtain ⟨css1, hn1, hl1, hm1, hfl1, hr1⟩ := row_of_trod (n := 6) (ks := [some .i64, some .i64, some .i64, some .i64]) Try.underlying26 (by kernel_rfl) (by kernel_rfl) (by decide) h1
  have hx1 := Nat.le_trans hl1 hm1
  subst hn1
  clear hA0 hval0
  refine ((fun q1 q2 q3 q4 q5 a cap css w _ _ _ _ _ hr _ hf hl hm => pRestart q1 q2 q3 q4 q5 a cap css w hr hf hl hm) a0_0 a0_1 a0_2 a0_3 a0_4 a1 cap1 css1 W w0_0 w0_1 w0_2 w0_3 w0_4 hr1 hx1 hfl1 hl1 hm1).mono fun e W' ⟨he, bel⟩ => ?_
  subst he
  exact ⟨_, rfl, _, _, _, [], _, [], hW', trodAll_mk1 (shut_bool Try.underlying4 _), (trodAll_cons_mk (Below.trod laidOut (by kernel_rfl) (of_decide_eq_true (by kernel_rfl)) k0 bel lt0) (trodAll_cons_mk (Below.trod laidOut (by kernel_rfl) (of_decide_eq_true (by kernel_rfl)) k1 bel lt1) trodAll_mk0)), rfl, bel.frame _, fun h => by cases h⟩
theorem over : Rows.rankRestartRow.holds Try.pinned (OpenSpec.ofChange Rows.rankRestartSpec) :=
  OpenClaim.holds_of_wide 10 Try.f10 rfl rfl rfl rfl rfl rfl rfl ⟨rfl, rfl, rfl, rfl, rfl⟩ rfl rfl rfl rfl rfl (by kernel_rfl) Try.func10 (by kernel_rfl)
    (of_decide_eq_true (by kernel_rfl)) (by unfold Func.isWrapper; first | (rw [if_pos (by decide +kernel)]; kernel_rfl) | (rw [if_neg (by decide +kernel)]; exact ⟨rfl, rfl⟩))
    (fun os started H enc _ => lifted os started H enc)
theorem proved : Rows.RankRestartSaid := over
end rankRestart
end Go.Proofs.Ytbonchnhngaicaa
