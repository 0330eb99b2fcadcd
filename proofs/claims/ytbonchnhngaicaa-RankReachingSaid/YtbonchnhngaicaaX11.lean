/- Proved: that the law RankOrder of the statements returns true for every input. Conditions: none. -/
import Derived.Test.YtbonchnhngaicaaX10
namespace Go.Proofs.Ytbonchnhngaicaa
open Go.RowKit Go.Sort Go.BigFrame
set_option linter.unusedVariables false
set_option linter.unusedSimpArgs false
attribute [local go_sem] cell_alloc_old
attribute [local go_sem ↓] Go.wp_at_zero Go.wp_at_succ

set_option maxRecDepth 100000 in
set_option maxHeartbeats 1000000 in
theorem order_a0 (a b c : Ds) (r s : Rt) (w : World) (HX : Hid (betterB a b = true)) (HY : Hid (betterB b a = false)) (HE : Hid ((a.s == b.s) = false)) (HBC : Hid (betterB b c = true)) (HAC : Hid (betterB a c = true)) : Calls Try.prog 4 #[a.v, b.v, c.v, r.v, s.v] w (Yes true w) := by
  go_enter Try.func4, Try.ntmps4
  have hse : (a.s == b.s) = false := HE.out
  go_wp2_with fail
  have Ta := CAt.new (w) [.int .i64 a.s, .int .i64 a.r] 23
  have BB : Below w.heap.size w ((w).alloc (.cells #[.int .i64 a.s, .int .i64 a.r] 23)) := ball (Below.refl _ _) _
  have Tb := CAt.new (w.alloc (.cells #[.int .i64 a.s, .int .i64 a.r] 23)) [.int .i64 b.s, .int .i64 b.r] 23
  replace Ta := Ta.alloc (.cells #[.int .i64 b.s, .int .i64 b.r] 23)
  replace BB := ball BB (.cells #[.int .i64 b.s, .int .i64 b.r] 23)
  have Tc := CAt.new ((w.alloc (.cells #[.int .i64 a.s, .int .i64 a.r] 23)).alloc (.cells #[.int .i64 b.s, .int .i64 b.r] 23)) [.int .i64 c.s, .int .i64 c.r] 23
  replace Ta := Ta.alloc (.cells #[.int .i64 c.s, .int .i64 c.r] 23)
  replace Tb := Tb.alloc (.cells #[.int .i64 c.s, .int .i64 c.r] 23)
  replace BB := ball BB (.cells #[.int .i64 c.s, .int .i64 c.r] 23)
  have Tr := CAt.new (((w.alloc (.cells #[.int .i64 a.s, .int .i64 a.r] 23)).alloc (.cells #[.int .i64 b.s, .int .i64 b.r] 23)).alloc (.cells #[.int .i64 c.s, .int .i64 c.r] 23)) [.int .i64 r.o.s, .int .i64 r.o.r, .int .i64 r.l.s, .int .i64 r.l.r, .int .i64 r.p] 25
  replace Ta := Ta.alloc (.cells #[.int .i64 r.o.s, .int .i64 r.o.r, .int .i64 r.l.s, .int .i64 r.l.r, .int .i64 r.p] 25)
  replace Tb := Tb.alloc (.cells #[.int .i64 r.o.s, .int .i64 r.o.r, .int .i64 r.l.s, .int .i64 r.l.r, .int .i64 r.p] 25)
  replace Tc := Tc.alloc (.cells #[.int .i64 r.o.s, .int .i64 r.o.r, .int .i64 r.l.s, .int .i64 r.l.r, .int .i64 r.p] 25)
  replace BB := ball BB (.cells #[.int .i64 r.o.s, .int .i64 r.o.r, .int .i64 r.l.s, .int .i64 r.l.r, .int .i64 r.p] 25)
  have Ts := CAt.new ((((w.alloc (.cells #[.int .i64 a.s, .int .i64 a.r] 23)).alloc (.cells #[.int .i64 b.s, .int .i64 b.r] 23)).alloc (.cells #[.int .i64 c.s, .int .i64 c.r] 23)).alloc (.cells #[.int .i64 r.o.s, .int .i64 r.o.r, .int .i64 r.l.s, .int .i64 r.l.r, .int .i64 r.p] 25)) [.int .i64 s.o.s, .int .i64 s.o.r, .int .i64 s.l.s, .int .i64 s.l.r, .int .i64 s.p] 25
  replace Ta := Ta.alloc (.cells #[.int .i64 s.o.s, .int .i64 s.o.r, .int .i64 s.l.s, .int .i64 s.l.r, .int .i64 s.p] 25)
  replace Tb := Tb.alloc (.cells #[.int .i64 s.o.s, .int .i64 s.o.r, .int .i64 s.l.s, .int .i64 s.l.r, .int .i64 s.p] 25)
  replace Tc := Tc.alloc (.cells #[.int .i64 s.o.s, .int .i64 s.o.r, .int .i64 s.l.s, .int .i64 s.l.r, .int .i64 s.p] 25)
  replace Tr := Tr.alloc (.cells #[.int .i64 s.o.s, .int .i64 s.o.r, .int .i64 s.l.s, .int .i64 s.l.r, .int .i64 s.p] 25)
  replace BB := ball BB (.cells #[.int .i64 s.o.s, .int .i64 s.o.r, .int .i64 s.l.s, .int .i64 s.l.r, .int .i64 s.p] 25)
  simp only [World.size_alloc, Nat.add_assoc, Nat.reduceAdd] at Tb Tc Tr Ts
  obtain ⟨V1, hV1⟩ : ∃ V1, ((((w.alloc (.cells #[.int .i64 a.s, .int .i64 a.r] 23)).alloc (.cells #[.int .i64 b.s, .int .i64 b.r] 23)).alloc (.cells #[.int .i64 c.s, .int .i64 c.r] 23)).alloc (.cells #[.int .i64 r.o.s, .int .i64 r.o.r, .int .i64 r.l.s, .int .i64 r.l.r, .int .i64 r.p] 25)).alloc (.cells #[.int .i64 s.o.s, .int .i64 s.o.r, .int .i64 s.l.s, .int .i64 s.l.r, .int .i64 s.p] 25) = V1 := ⟨_, rfl⟩
  rw [hV1] at BB Ta Tb Tc Tr Ts ⊢
  clear hV1
  refine (head_any V1).mono ?_
  rintro e w2 ⟨rfl, b2⟩
  replace Ta := Ta.keep b2
  replace Tb := Tb.keep b2
  replace Tc := Tc.keep b2
  replace Tr := Tr.keep b2
  replace Ts := Ts.keep b2
  replace BB := bstep BB b2
  clear b2
  have a0 := Ta 0 _ rfl
  have a1 := Ta 1 _ rfl
  have b0 := Tb 0 _ rfl
  have b1 := Tb 1 _ rfl
  go_upto_region 2 with (fail)
  clear a0 a1 b0 b1
  have a0 := Ta 0 _ rfl
  have ka0 := cell_regrown a0
  have a1 := Ta 1 _ rfl
  have ka1 := cell_regrown a1
  have b0 := Tb 0 _ rfl
  have kb0 := cell_regrown b0
  have b1 := Tb 1 _ rfl
  have kb1 := cell_regrown b1
  have c0 := Tc 0 _ rfl
  have kc0 := cell_regrown c0
  have c1 := Tc 1 _ rfl
  have kc1 := cell_regrown c1
  have r0 := Tr 0 _ rfl
  have kr0 := cell_regrown r0
  have r1 := Tr 1 _ rfl
  have kr1 := cell_regrown r1
  have r2 := Tr 2 _ rfl
  have kr2 := cell_regrown r2
  have r3 := Tr 3 _ rfl
  have kr3 := cell_regrown r3
  have r4 := Tr 4 _ rfl
  have kr4 := cell_regrown r4
  have s0 := Ts 0 _ rfl
  have ks0 := cell_regrown s0
  have s1 := Ts 1 _ rfl
  have ks1 := cell_regrown s1
  have s2 := Ts 2 _ rfl
  have ks2 := cell_regrown s2
  have s3 := Ts 3 _ rfl
  have ks3 := cell_regrown s3
  have s4 := Ts 4 _ rfl
  have ks4 := cell_regrown s4
  refine wp_region_quiet_below (by kernel_rfl) (by kernel_rfl) ?_
  repeat (go_big_quiet_step (first
    | (go_at_call 14; exact rg_of fun w' h => better_at a b true w' HX.out)
    | (go_at_call 14; exact rg_of fun w' h => better_at b a false w' HY.out)))
  refine wpQuiet_nil ?_
  intro _ hw'
  obtain ⟨⟨dq, osq⟩, hw''⟩ := hw'
  subst hw''
  clear a0 ka0 a1 ka1 b0 kb0 b1 kb1 c0 kc0 c1 kc1 r0 kr0 r1 kr1 r2 kr2 r3 kr3 r4 kr4 s0 ks0 s1 ks1 s2 ks2 s3 ks3 s4 ks4
  have bq := below_regrown w2 dq osq
  obtain ⟨V3, hV3⟩ : ∃ V3, grow (redrawn w2 dq) osq = V3 := ⟨_, rfl⟩
  rw [hV3] at bq ⊢
  clear hV3 dq osq
  replace Ta := Ta.keep bq
  replace Tb := Tb.keep bq
  replace Tc := Tc.keep bq
  replace Tr := Tr.keep bq
  replace Ts := Ts.keep bq
  replace BB := bstep BB bq
  clear bq
  have a0 := Ta 0 _ rfl
  have a1 := Ta 1 _ rfl
  have b0 := Tb 0 _ rfl
  have b1 := Tb 1 _ rfl
  have c0 := Tc 0 _ rfl
  have c1 := Tc 1 _ rfl
  have r0 := Tr 0 _ rfl
  have r1 := Tr 1 _ rfl
  have r2 := Tr 2 _ rfl
  have r3 := Tr 3 _ rfl
  have r4 := Tr 4 _ rfl
  have s0 := Ts 0 _ rfl
  have s1 := Ts 1 _ rfl
  have s2 := Ts 2 _ rfl
  have s3 := Ts 3 _ rfl
  have s4 := Ts 4 _ rfl
  go_wp2_with fail
  refine (better_at b c true V3 HBC.out).mono ?_
  clear a0 a1 b0 b1 c0 c1 r0 r1 r2 r3 r4 s0 s1 s2 s3 s4
  rintro e w4 ⟨rfl, b4⟩
  replace Ta := Ta.keep b4
  replace Tb := Tb.keep b4
  replace Tc := Tc.keep b4
  replace Tr := Tr.keep b4
  replace Ts := Ts.keep b4
  replace BB := bstep BB b4
  clear b4
  have a0 := Ta 0 _ rfl
  have a1 := Ta 1 _ rfl
  have b0 := Tb 0 _ rfl
  have b1 := Tb 1 _ rfl
  have c0 := Tc 0 _ rfl
  have c1 := Tc 1 _ rfl
  have r0 := Tr 0 _ rfl
  have r1 := Tr 1 _ rfl
  have r2 := Tr 2 _ rfl
  have r3 := Tr 3 _ rfl
  have r4 := Tr 4 _ rfl
  have s0 := Ts 0 _ rfl
  have s1 := Ts 1 _ rfl
  have s2 := Ts 2 _ rfl
  have s3 := Ts 3 _ rfl
  have s4 := Ts 4 _ rfl
  go_wp2_with fail
  refine (better_at a c true w4 HAC.out).mono ?_
  clear a0 a1 b0 b1 c0 c1 r0 r1 r2 r3 r4 s0 s1 s2 s3 s4
  rintro e w5 ⟨rfl, b5⟩
  replace Ta := Ta.keep b5
  replace Tb := Tb.keep b5
  replace Tc := Tc.keep b5
  replace Tr := Tr.keep b5
  replace Ts := Ts.keep b5
  replace BB := bstep BB b5
  clear b5
  have a0 := Ta 0 _ rfl
  have a1 := Ta 1 _ rfl
  have r0 := Tr 0 _ rfl
  have r1 := Tr 1 _ rfl
  have r2 := Tr 2 _ rfl
  have r3 := Tr 3 _ rfl
  have r4 := Tr 4 _ rfl
  have s0 := Ts 0 _ rfl
  have s1 := Ts 1 _ rfl
  have s2 := Ts 2 _ rfl
  have s3 := Ts 3 _ rfl
  have s4 := Ts 4 _ rfl
  go_wp2_with fail
  clear a0 a1 r0 r1 r2 r3 r4 s0 s1 s2 s3 s4
  have a0 := Ta 0 _ rfl
  have a1 := Ta 1 _ rfl
  have b0 := Tb 0 _ rfl
  have b1 := Tb 1 _ rfl
  have c0 := Tc 0 _ rfl
  have c1 := Tc 1 _ rfl
  have r0 := Tr 0 _ rfl
  have r1 := Tr 1 _ rfl
  have r2 := Tr 2 _ rfl
  have r3 := Tr 3 _ rfl
  have r4 := Tr 4 _ rfl
  have s0 := Ts 0 _ rfl
  have s1 := Ts 1 _ rfl
  have s2 := Ts 2 _ rfl
  have s3 := Ts 3 _ rfl
  have s4 := Ts 4 _ rfl
  cases hf1 : feasB r a
  ·
    have HF1 := Lib.hid hf1; clear hf1
    go_wp2_with fail
    refine (feas_at r a false w5 HF1.out).mono ?_
    clear a0 a1 b0 b1 c0 c1 r0 r1 r2 r3 r4 s0 s1 s2 s3 s4
    rintro e w6 ⟨rfl, b6⟩
    replace Ta := Ta.keep b6
    replace Tb := Tb.keep b6
    replace Tc := Tc.keep b6
    replace Tr := Tr.keep b6
    replace Ts := Ts.keep b6
    replace BB := bstep BB b6
    clear b6
    have a0 := Ta 0 _ rfl
    have a1 := Ta 1 _ rfl
    have r0 := Tr 0 _ rfl
    have r1 := Tr 1 _ rfl
    have r2 := Tr 2 _ rfl
    have r3 := Tr 3 _ rfl
    have r4 := Tr 4 _ rfl
    have s0 := Ts 0 _ rfl
    have s1 := Ts 1 _ rfl
    have s2 := Ts 2 _ rfl
    have s3 := Ts 3 _ rfl
    have s4 := Ts 4 _ rfl
    go_wp2_with fail
    go_ret
    exact ⟨by simp, BB⟩
  ·
    have HF1 := Lib.hid hf1; clear hf1
    go_wp2_with fail
    refine (feas_at r a true w5 HF1.out).mono ?_
    clear a0 a1 b0 b1 c0 c1 r0 r1 r2 r3 r4 s0 s1 s2 s3 s4
    rintro e w6 ⟨rfl, b6⟩
    replace Ta := Ta.keep b6
    replace Tb := Tb.keep b6
    replace Tc := Tc.keep b6
    replace Tr := Tr.keep b6
    replace Ts := Ts.keep b6
    replace BB := bstep BB b6
    clear b6
    have a0 := Ta 0 _ rfl
    have a1 := Ta 1 _ rfl
    have r0 := Tr 0 _ rfl
    have r1 := Tr 1 _ rfl
    have r2 := Tr 2 _ rfl
    have r3 := Tr 3 _ rfl
    have r4 := Tr 4 _ rfl
    have s0 := Ts 0 _ rfl
    have s1 := Ts 1 _ rfl
    have s2 := Ts 2 _ rfl
    have s3 := Ts 3 _ rfl
    have s4 := Ts 4 _ rfl
    cases hf2 : betterB s.l r.l
    ·
      have hf3 := order_4 r s a
      rw [HF1.out, hf2] at hf3
      have HF3 := Lib.hid (show feasB s a = true by simpa using hf3); clear hf3
      have HF2 := Lib.hid hf2; clear hf2
      go_wp2_with fail
      refine (better_at s.l r.l false w6 HF2.out).mono ?_
      clear a0 a1 r0 r1 r2 r3 r4 s0 s1 s2 s3 s4
      rintro e w7 ⟨rfl, b7⟩
      replace Ta := Ta.keep b7
      replace Tb := Tb.keep b7
      replace Tc := Tc.keep b7
      replace Tr := Tr.keep b7
      replace Ts := Ts.keep b7
      replace BB := bstep BB b7
      clear b7
      have a0 := Ta 0 _ rfl
      have a1 := Ta 1 _ rfl
      have r0 := Tr 0 _ rfl
      have r1 := Tr 1 _ rfl
      have r2 := Tr 2 _ rfl
      have r3 := Tr 3 _ rfl
      have r4 := Tr 4 _ rfl
      have s0 := Ts 0 _ rfl
      have s1 := Ts 1 _ rfl
      have s2 := Ts 2 _ rfl
      have s3 := Ts 3 _ rfl
      have s4 := Ts 4 _ rfl
      go_wp2_with fail
      refine (feas_at s a true w7 HF3.out).mono ?_
      clear a0 a1 r0 r1 r2 r3 r4 s0 s1 s2 s3 s4
      rintro e w8 ⟨rfl, b8⟩
      replace Ta := Ta.keep b8
      replace Tb := Tb.keep b8
      replace Tc := Tc.keep b8
      replace Tr := Tr.keep b8
      replace Ts := Ts.keep b8
      replace BB := bstep BB b8
      clear b8
      go_wp2_with fail
      go_ret
      exact ⟨by simp, BB⟩
    ·
      have HF2 := Lib.hid hf2; clear hf2
      go_wp2_with fail
      refine (better_at s.l r.l true w6 HF2.out).mono ?_
      clear a0 a1 r0 r1 r2 r3 r4 s0 s1 s2 s3 s4
      rintro e w7 ⟨rfl, b7⟩
      replace Ta := Ta.keep b7
      replace Tb := Tb.keep b7
      replace Tc := Tc.keep b7
      replace Tr := Tr.keep b7
      replace Ts := Ts.keep b7
      replace BB := bstep BB b7
      clear b7
      have a0 := Ta 0 _ rfl
      have a1 := Ta 1 _ rfl
      have r0 := Tr 0 _ rfl
      have r1 := Tr 1 _ rfl
      have r2 := Tr 2 _ rfl
      have r3 := Tr 3 _ rfl
      have r4 := Tr 4 _ rfl
      have s0 := Ts 0 _ rfl
      have s1 := Ts 1 _ rfl
      have s2 := Ts 2 _ rfl
      have s3 := Ts 3 _ rfl
      have s4 := Ts 4 _ rfl
      go_wp2_with fail
      go_ret
      exact ⟨by simp, BB⟩
set_option maxRecDepth 100000 in
set_option maxHeartbeats 1000000 in
theorem order_b0 (a b c : Ds) (r s : Rt) (w : World) (HX : Hid (betterB a b = true)) (HY : Hid (betterB b a = false)) (HE : Hid ((a.s == b.s) = false)) (HBC : Hid (betterB b c = false)) : Calls Try.prog 4 #[a.v, b.v, c.v, r.v, s.v] w (Yes true w) := by
  go_enter Try.func4, Try.ntmps4
  have hse : (a.s == b.s) = false := HE.out
  go_wp2_with fail
  have Ta := CAt.new (w) [.int .i64 a.s, .int .i64 a.r] 23
  have BB : Below w.heap.size w ((w).alloc (.cells #[.int .i64 a.s, .int .i64 a.r] 23)) := ball (Below.refl _ _) _
  have Tb := CAt.new (w.alloc (.cells #[.int .i64 a.s, .int .i64 a.r] 23)) [.int .i64 b.s, .int .i64 b.r] 23
  replace Ta := Ta.alloc (.cells #[.int .i64 b.s, .int .i64 b.r] 23)
  replace BB := ball BB (.cells #[.int .i64 b.s, .int .i64 b.r] 23)
  have Tc := CAt.new ((w.alloc (.cells #[.int .i64 a.s, .int .i64 a.r] 23)).alloc (.cells #[.int .i64 b.s, .int .i64 b.r] 23)) [.int .i64 c.s, .int .i64 c.r] 23
  replace Ta := Ta.alloc (.cells #[.int .i64 c.s, .int .i64 c.r] 23)
  replace Tb := Tb.alloc (.cells #[.int .i64 c.s, .int .i64 c.r] 23)
  replace BB := ball BB (.cells #[.int .i64 c.s, .int .i64 c.r] 23)
  have Tr := CAt.new (((w.alloc (.cells #[.int .i64 a.s, .int .i64 a.r] 23)).alloc (.cells #[.int .i64 b.s, .int .i64 b.r] 23)).alloc (.cells #[.int .i64 c.s, .int .i64 c.r] 23)) [.int .i64 r.o.s, .int .i64 r.o.r, .int .i64 r.l.s, .int .i64 r.l.r, .int .i64 r.p] 25
  replace Ta := Ta.alloc (.cells #[.int .i64 r.o.s, .int .i64 r.o.r, .int .i64 r.l.s, .int .i64 r.l.r, .int .i64 r.p] 25)
  replace Tb := Tb.alloc (.cells #[.int .i64 r.o.s, .int .i64 r.o.r, .int .i64 r.l.s, .int .i64 r.l.r, .int .i64 r.p] 25)
  replace Tc := Tc.alloc (.cells #[.int .i64 r.o.s, .int .i64 r.o.r, .int .i64 r.l.s, .int .i64 r.l.r, .int .i64 r.p] 25)
  replace BB := ball BB (.cells #[.int .i64 r.o.s, .int .i64 r.o.r, .int .i64 r.l.s, .int .i64 r.l.r, .int .i64 r.p] 25)
  have Ts := CAt.new ((((w.alloc (.cells #[.int .i64 a.s, .int .i64 a.r] 23)).alloc (.cells #[.int .i64 b.s, .int .i64 b.r] 23)).alloc (.cells #[.int .i64 c.s, .int .i64 c.r] 23)).alloc (.cells #[.int .i64 r.o.s, .int .i64 r.o.r, .int .i64 r.l.s, .int .i64 r.l.r, .int .i64 r.p] 25)) [.int .i64 s.o.s, .int .i64 s.o.r, .int .i64 s.l.s, .int .i64 s.l.r, .int .i64 s.p] 25
  replace Ta := Ta.alloc (.cells #[.int .i64 s.o.s, .int .i64 s.o.r, .int .i64 s.l.s, .int .i64 s.l.r, .int .i64 s.p] 25)
  replace Tb := Tb.alloc (.cells #[.int .i64 s.o.s, .int .i64 s.o.r, .int .i64 s.l.s, .int .i64 s.l.r, .int .i64 s.p] 25)
  replace Tc := Tc.alloc (.cells #[.int .i64 s.o.s, .int .i64 s.o.r, .int .i64 s.l.s, .int .i64 s.l.r, .int .i64 s.p] 25)
  replace Tr := Tr.alloc (.cells #[.int .i64 s.o.s, .int .i64 s.o.r, .int .i64 s.l.s, .int .i64 s.l.r, .int .i64 s.p] 25)
  replace BB := ball BB (.cells #[.int .i64 s.o.s, .int .i64 s.o.r, .int .i64 s.l.s, .int .i64 s.l.r, .int .i64 s.p] 25)
  simp only [World.size_alloc, Nat.add_assoc, Nat.reduceAdd] at Tb Tc Tr Ts
  obtain ⟨V1, hV1⟩ : ∃ V1, ((((w.alloc (.cells #[.int .i64 a.s, .int .i64 a.r] 23)).alloc (.cells #[.int .i64 b.s, .int .i64 b.r] 23)).alloc (.cells #[.int .i64 c.s, .int .i64 c.r] 23)).alloc (.cells #[.int .i64 r.o.s, .int .i64 r.o.r, .int .i64 r.l.s, .int .i64 r.l.r, .int .i64 r.p] 25)).alloc (.cells #[.int .i64 s.o.s, .int .i64 s.o.r, .int .i64 s.l.s, .int .i64 s.l.r, .int .i64 s.p] 25) = V1 := ⟨_, rfl⟩
  rw [hV1] at BB Ta Tb Tc Tr Ts ⊢
  clear hV1
  refine (head_any V1).mono ?_
  rintro e w2 ⟨rfl, b2⟩
  replace Ta := Ta.keep b2
  replace Tb := Tb.keep b2
  replace Tc := Tc.keep b2
  replace Tr := Tr.keep b2
  replace Ts := Ts.keep b2
  replace BB := bstep BB b2
  clear b2
  have a0 := Ta 0 _ rfl
  have a1 := Ta 1 _ rfl
  have b0 := Tb 0 _ rfl
  have b1 := Tb 1 _ rfl
  go_upto_region 2 with (fail)
  clear a0 a1 b0 b1
  have a0 := Ta 0 _ rfl
  have ka0 := cell_regrown a0
  have a1 := Ta 1 _ rfl
  have ka1 := cell_regrown a1
  have b0 := Tb 0 _ rfl
  have kb0 := cell_regrown b0
  have b1 := Tb 1 _ rfl
  have kb1 := cell_regrown b1
  have c0 := Tc 0 _ rfl
  have kc0 := cell_regrown c0
  have c1 := Tc 1 _ rfl
  have kc1 := cell_regrown c1
  have r0 := Tr 0 _ rfl
  have kr0 := cell_regrown r0
  have r1 := Tr 1 _ rfl
  have kr1 := cell_regrown r1
  have r2 := Tr 2 _ rfl
  have kr2 := cell_regrown r2
  have r3 := Tr 3 _ rfl
  have kr3 := cell_regrown r3
  have r4 := Tr 4 _ rfl
  have kr4 := cell_regrown r4
  have s0 := Ts 0 _ rfl
  have ks0 := cell_regrown s0
  have s1 := Ts 1 _ rfl
  have ks1 := cell_regrown s1
  have s2 := Ts 2 _ rfl
  have ks2 := cell_regrown s2
  have s3 := Ts 3 _ rfl
  have ks3 := cell_regrown s3
  have s4 := Ts 4 _ rfl
  have ks4 := cell_regrown s4
  refine wp_region_quiet_below (by kernel_rfl) (by kernel_rfl) ?_
  repeat (go_big_quiet_step (first
    | (go_at_call 14; exact rg_of fun w' h => better_at a b true w' HX.out)
    | (go_at_call 14; exact rg_of fun w' h => better_at b a false w' HY.out)))
  refine wpQuiet_nil ?_
  intro _ hw'
  obtain ⟨⟨dq, osq⟩, hw''⟩ := hw'
  subst hw''
  clear a0 ka0 a1 ka1 b0 kb0 b1 kb1 c0 kc0 c1 kc1 r0 kr0 r1 kr1 r2 kr2 r3 kr3 r4 kr4 s0 ks0 s1 ks1 s2 ks2 s3 ks3 s4 ks4
  have bq := below_regrown w2 dq osq
  obtain ⟨V3, hV3⟩ : ∃ V3, grow (redrawn w2 dq) osq = V3 := ⟨_, rfl⟩
  rw [hV3] at bq ⊢
  clear hV3 dq osq
  replace Ta := Ta.keep bq
  replace Tb := Tb.keep bq
  replace Tc := Tc.keep bq
  replace Tr := Tr.keep bq
  replace Ts := Ts.keep bq
  replace BB := bstep BB bq
  clear bq
  have a0 := Ta 0 _ rfl
  have a1 := Ta 1 _ rfl
  have b0 := Tb 0 _ rfl
  have b1 := Tb 1 _ rfl
  have c0 := Tc 0 _ rfl
  have c1 := Tc 1 _ rfl
  have r0 := Tr 0 _ rfl
  have r1 := Tr 1 _ rfl
  have r2 := Tr 2 _ rfl
  have r3 := Tr 3 _ rfl
  have r4 := Tr 4 _ rfl
  have s0 := Ts 0 _ rfl
  have s1 := Ts 1 _ rfl
  have s2 := Ts 2 _ rfl
  have s3 := Ts 3 _ rfl
  have s4 := Ts 4 _ rfl
  go_wp2_with fail
  refine (better_at b c false V3 HBC.out).mono ?_
  clear a0 a1 b0 b1 c0 c1 r0 r1 r2 r3 r4 s0 s1 s2 s3 s4
  rintro e w4 ⟨rfl, b4⟩
  replace Ta := Ta.keep b4
  replace Tb := Tb.keep b4
  replace Tc := Tc.keep b4
  replace Tr := Tr.keep b4
  replace Ts := Ts.keep b4
  replace BB := bstep BB b4
  clear b4
  have a0 := Ta 0 _ rfl
  have a1 := Ta 1 _ rfl
  have b0 := Tb 0 _ rfl
  have b1 := Tb 1 _ rfl
  have c0 := Tc 0 _ rfl
  have c1 := Tc 1 _ rfl
  have r0 := Tr 0 _ rfl
  have r1 := Tr 1 _ rfl
  have r2 := Tr 2 _ rfl
  have r3 := Tr 3 _ rfl
  have r4 := Tr 4 _ rfl
  have s0 := Ts 0 _ rfl
  have s1 := Ts 1 _ rfl
  have s2 := Ts 2 _ rfl
  have s3 := Ts 3 _ rfl
  have s4 := Ts 4 _ rfl
  go_wp2_with fail
  clear a0 a1 b0 b1 c0 c1 r0 r1 r2 r3 r4 s0 s1 s2 s3 s4
  have a0 := Ta 0 _ rfl
  have a1 := Ta 1 _ rfl
  have b0 := Tb 0 _ rfl
  have b1 := Tb 1 _ rfl
  have c0 := Tc 0 _ rfl
  have c1 := Tc 1 _ rfl
  have r0 := Tr 0 _ rfl
  have r1 := Tr 1 _ rfl
  have r2 := Tr 2 _ rfl
  have r3 := Tr 3 _ rfl
  have r4 := Tr 4 _ rfl
  have s0 := Ts 0 _ rfl
  have s1 := Ts 1 _ rfl
  have s2 := Ts 2 _ rfl
  have s3 := Ts 3 _ rfl
  have s4 := Ts 4 _ rfl
  cases hf1 : feasB r a
  ·
    have HF1 := Lib.hid hf1; clear hf1
    go_wp2_with fail
    refine (feas_at r a false w4 HF1.out).mono ?_
    clear a0 a1 b0 b1 c0 c1 r0 r1 r2 r3 r4 s0 s1 s2 s3 s4
    rintro e w5 ⟨rfl, b5⟩
    replace Ta := Ta.keep b5
    replace Tb := Tb.keep b5
    replace Tc := Tc.keep b5
    replace Tr := Tr.keep b5
    replace Ts := Ts.keep b5
    replace BB := bstep BB b5
    clear b5
    have a0 := Ta 0 _ rfl
    have a1 := Ta 1 _ rfl
    have r0 := Tr 0 _ rfl
    have r1 := Tr 1 _ rfl
    have r2 := Tr 2 _ rfl
    have r3 := Tr 3 _ rfl
    have r4 := Tr 4 _ rfl
    have s0 := Ts 0 _ rfl
    have s1 := Ts 1 _ rfl
    have s2 := Ts 2 _ rfl
    have s3 := Ts 3 _ rfl
    have s4 := Ts 4 _ rfl
    go_wp2_with fail
    go_ret
    exact ⟨by simp, BB⟩
  ·
    have HF1 := Lib.hid hf1; clear hf1
    go_wp2_with fail
    refine (feas_at r a true w4 HF1.out).mono ?_
    clear a0 a1 b0 b1 c0 c1 r0 r1 r2 r3 r4 s0 s1 s2 s3 s4
    rintro e w5 ⟨rfl, b5⟩
    replace Ta := Ta.keep b5
    replace Tb := Tb.keep b5
    replace Tc := Tc.keep b5
    replace Tr := Tr.keep b5
    replace Ts := Ts.keep b5
    replace BB := bstep BB b5
    clear b5
    have a0 := Ta 0 _ rfl
    have a1 := Ta 1 _ rfl
    have r0 := Tr 0 _ rfl
    have r1 := Tr 1 _ rfl
    have r2 := Tr 2 _ rfl
    have r3 := Tr 3 _ rfl
    have r4 := Tr 4 _ rfl
    have s0 := Ts 0 _ rfl
    have s1 := Ts 1 _ rfl
    have s2 := Ts 2 _ rfl
    have s3 := Ts 3 _ rfl
    have s4 := Ts 4 _ rfl
    cases hf2 : betterB s.l r.l
    ·
      have hf3 := order_4 r s a
      rw [HF1.out, hf2] at hf3
      have HF3 := Lib.hid (show feasB s a = true by simpa using hf3); clear hf3
      have HF2 := Lib.hid hf2; clear hf2
      go_wp2_with fail
      refine (better_at s.l r.l false w5 HF2.out).mono ?_
      clear a0 a1 r0 r1 r2 r3 r4 s0 s1 s2 s3 s4
      rintro e w6 ⟨rfl, b6⟩
      replace Ta := Ta.keep b6
      replace Tb := Tb.keep b6
      replace Tc := Tc.keep b6
      replace Tr := Tr.keep b6
      replace Ts := Ts.keep b6
      replace BB := bstep BB b6
      clear b6
      have a0 := Ta 0 _ rfl
      have a1 := Ta 1 _ rfl
      have r0 := Tr 0 _ rfl
      have r1 := Tr 1 _ rfl
      have r2 := Tr 2 _ rfl
      have r3 := Tr 3 _ rfl
      have r4 := Tr 4 _ rfl
      have s0 := Ts 0 _ rfl
      have s1 := Ts 1 _ rfl
      have s2 := Ts 2 _ rfl
      have s3 := Ts 3 _ rfl
      have s4 := Ts 4 _ rfl
      go_wp2_with fail
      refine (feas_at s a true w6 HF3.out).mono ?_
      clear a0 a1 r0 r1 r2 r3 r4 s0 s1 s2 s3 s4
      rintro e w7 ⟨rfl, b7⟩
      replace Ta := Ta.keep b7
      replace Tb := Tb.keep b7
      replace Tc := Tc.keep b7
      replace Tr := Tr.keep b7
      replace Ts := Ts.keep b7
      replace BB := bstep BB b7
      clear b7
      go_wp2_with fail
      go_ret
      exact ⟨by simp, BB⟩
    ·
      have HF2 := Lib.hid hf2; clear hf2
      go_wp2_with fail
      refine (better_at s.l r.l true w5 HF2.out).mono ?_
      clear a0 a1 r0 r1 r2 r3 r4 s0 s1 s2 s3 s4
      rintro e w6 ⟨rfl, b6⟩
      replace Ta := Ta.keep b6
      replace Tb := Tb.keep b6
      replace Tc := Tc.keep b6
      replace Tr := Tr.keep b6
      replace Ts := Ts.keep b6
      replace BB := bstep BB b6
      clear b6
      have a0 := Ta 0 _ rfl
      have a1 := Ta 1 _ rfl
      have r0 := Tr 0 _ rfl
      have r1 := Tr 1 _ rfl
      have r2 := Tr 2 _ rfl
      have r3 := Tr 3 _ rfl
      have r4 := Tr 4 _ rfl
      have s0 := Ts 0 _ rfl
      have s1 := Ts 1 _ rfl
      have s2 := Ts 2 _ rfl
      have s3 := Ts 3 _ rfl
      have s4 := Ts 4 _ rfl
      go_wp2_with fail
      go_ret
      exact ⟨by simp, BB⟩
set_option maxRecDepth 100000 in
set_option maxHeartbeats 1000000 in
theorem order_c0 (a b c : Ds) (r s : Rt) (w : World) (HX : Hid (betterB a b = false)) (HY : Hid (betterB b a = true)) (HE : Hid ((a.s == b.s) = false))  : Calls Try.prog 4 #[a.v, b.v, c.v, r.v, s.v] w (Yes true w) := by
  go_enter Try.func4, Try.ntmps4
  have hse : (a.s == b.s) = false := HE.out
  go_wp2_with fail
  have Ta := CAt.new (w) [.int .i64 a.s, .int .i64 a.r] 23
  have BB : Below w.heap.size w ((w).alloc (.cells #[.int .i64 a.s, .int .i64 a.r] 23)) := ball (Below.refl _ _) _
  have Tb := CAt.new (w.alloc (.cells #[.int .i64 a.s, .int .i64 a.r] 23)) [.int .i64 b.s, .int .i64 b.r] 23
  replace Ta := Ta.alloc (.cells #[.int .i64 b.s, .int .i64 b.r] 23)
  replace BB := ball BB (.cells #[.int .i64 b.s, .int .i64 b.r] 23)
  have Tc := CAt.new ((w.alloc (.cells #[.int .i64 a.s, .int .i64 a.r] 23)).alloc (.cells #[.int .i64 b.s, .int .i64 b.r] 23)) [.int .i64 c.s, .int .i64 c.r] 23
  replace Ta := Ta.alloc (.cells #[.int .i64 c.s, .int .i64 c.r] 23)
  replace Tb := Tb.alloc (.cells #[.int .i64 c.s, .int .i64 c.r] 23)
  replace BB := ball BB (.cells #[.int .i64 c.s, .int .i64 c.r] 23)
  have Tr := CAt.new (((w.alloc (.cells #[.int .i64 a.s, .int .i64 a.r] 23)).alloc (.cells #[.int .i64 b.s, .int .i64 b.r] 23)).alloc (.cells #[.int .i64 c.s, .int .i64 c.r] 23)) [.int .i64 r.o.s, .int .i64 r.o.r, .int .i64 r.l.s, .int .i64 r.l.r, .int .i64 r.p] 25
  replace Ta := Ta.alloc (.cells #[.int .i64 r.o.s, .int .i64 r.o.r, .int .i64 r.l.s, .int .i64 r.l.r, .int .i64 r.p] 25)
  replace Tb := Tb.alloc (.cells #[.int .i64 r.o.s, .int .i64 r.o.r, .int .i64 r.l.s, .int .i64 r.l.r, .int .i64 r.p] 25)
  replace Tc := Tc.alloc (.cells #[.int .i64 r.o.s, .int .i64 r.o.r, .int .i64 r.l.s, .int .i64 r.l.r, .int .i64 r.p] 25)
  replace BB := ball BB (.cells #[.int .i64 r.o.s, .int .i64 r.o.r, .int .i64 r.l.s, .int .i64 r.l.r, .int .i64 r.p] 25)
  have Ts := CAt.new ((((w.alloc (.cells #[.int .i64 a.s, .int .i64 a.r] 23)).alloc (.cells #[.int .i64 b.s, .int .i64 b.r] 23)).alloc (.cells #[.int .i64 c.s, .int .i64 c.r] 23)).alloc (.cells #[.int .i64 r.o.s, .int .i64 r.o.r, .int .i64 r.l.s, .int .i64 r.l.r, .int .i64 r.p] 25)) [.int .i64 s.o.s, .int .i64 s.o.r, .int .i64 s.l.s, .int .i64 s.l.r, .int .i64 s.p] 25
  replace Ta := Ta.alloc (.cells #[.int .i64 s.o.s, .int .i64 s.o.r, .int .i64 s.l.s, .int .i64 s.l.r, .int .i64 s.p] 25)
  replace Tb := Tb.alloc (.cells #[.int .i64 s.o.s, .int .i64 s.o.r, .int .i64 s.l.s, .int .i64 s.l.r, .int .i64 s.p] 25)
  replace Tc := Tc.alloc (.cells #[.int .i64 s.o.s, .int .i64 s.o.r, .int .i64 s.l.s, .int .i64 s.l.r, .int .i64 s.p] 25)
  replace Tr := Tr.alloc (.cells #[.int .i64 s.o.s, .int .i64 s.o.r, .int .i64 s.l.s, .int .i64 s.l.r, .int .i64 s.p] 25)
  replace BB := ball BB (.cells #[.int .i64 s.o.s, .int .i64 s.o.r, .int .i64 s.l.s, .int .i64 s.l.r, .int .i64 s.p] 25)
  simp only [World.size_alloc, Nat.add_assoc, Nat.reduceAdd] at Tb Tc Tr Ts
  obtain ⟨V1, hV1⟩ : ∃ V1, ((((w.alloc (.cells #[.int .i64 a.s, .int .i64 a.r] 23)).alloc (.cells #[.int .i64 b.s, .int .i64 b.r] 23)).alloc (.cells #[.int .i64 c.s, .int .i64 c.r] 23)).alloc (.cells #[.int .i64 r.o.s, .int .i64 r.o.r, .int .i64 r.l.s, .int .i64 r.l.r, .int .i64 r.p] 25)).alloc (.cells #[.int .i64 s.o.s, .int .i64 s.o.r, .int .i64 s.l.s, .int .i64 s.l.r, .int .i64 s.p] 25) = V1 := ⟨_, rfl⟩
  rw [hV1] at BB Ta Tb Tc Tr Ts ⊢
  clear hV1
  refine (head_any V1).mono ?_
  rintro e w2 ⟨rfl, b2⟩
  replace Ta := Ta.keep b2
  replace Tb := Tb.keep b2
  replace Tc := Tc.keep b2
  replace Tr := Tr.keep b2
  replace Ts := Ts.keep b2
  replace BB := bstep BB b2
  clear b2
  have a0 := Ta 0 _ rfl
  have a1 := Ta 1 _ rfl
  have b0 := Tb 0 _ rfl
  have b1 := Tb 1 _ rfl
  go_upto_region 2 with (fail)
  clear a0 a1 b0 b1
  have a0 := Ta 0 _ rfl
  have ka0 := cell_regrown a0
  have a1 := Ta 1 _ rfl
  have ka1 := cell_regrown a1
  have b0 := Tb 0 _ rfl
  have kb0 := cell_regrown b0
  have b1 := Tb 1 _ rfl
  have kb1 := cell_regrown b1
  have c0 := Tc 0 _ rfl
  have kc0 := cell_regrown c0
  have c1 := Tc 1 _ rfl
  have kc1 := cell_regrown c1
  have r0 := Tr 0 _ rfl
  have kr0 := cell_regrown r0
  have r1 := Tr 1 _ rfl
  have kr1 := cell_regrown r1
  have r2 := Tr 2 _ rfl
  have kr2 := cell_regrown r2
  have r3 := Tr 3 _ rfl
  have kr3 := cell_regrown r3
  have r4 := Tr 4 _ rfl
  have kr4 := cell_regrown r4
  have s0 := Ts 0 _ rfl
  have ks0 := cell_regrown s0
  have s1 := Ts 1 _ rfl
  have ks1 := cell_regrown s1
  have s2 := Ts 2 _ rfl
  have ks2 := cell_regrown s2
  have s3 := Ts 3 _ rfl
  have ks3 := cell_regrown s3
  have s4 := Ts 4 _ rfl
  have ks4 := cell_regrown s4
  refine wp_region_quiet_below (by kernel_rfl) (by kernel_rfl) ?_
  repeat (go_big_quiet_step (first
    | (go_at_call 14; exact rg_of fun w' h => better_at a b false w' HX.out)
    | (go_at_call 14; exact rg_of fun w' h => better_at b a true w' HY.out)))
  refine wpQuiet_nil ?_
  intro _ hw'
  obtain ⟨⟨dq, osq⟩, hw''⟩ := hw'
  subst hw''
  clear a0 ka0 a1 ka1 b0 kb0 b1 kb1 c0 kc0 c1 kc1 r0 kr0 r1 kr1 r2 kr2 r3 kr3 r4 kr4 s0 ks0 s1 ks1 s2 ks2 s3 ks3 s4 ks4
  have bq := below_regrown w2 dq osq
  obtain ⟨V3, hV3⟩ : ∃ V3, grow (redrawn w2 dq) osq = V3 := ⟨_, rfl⟩
  rw [hV3] at bq ⊢
  clear hV3 dq osq
  replace Ta := Ta.keep bq
  replace Tb := Tb.keep bq
  replace Tc := Tc.keep bq
  replace Tr := Tr.keep bq
  replace Ts := Ts.keep bq
  replace BB := bstep BB bq
  clear bq
  have a0 := Ta 0 _ rfl
  have a1 := Ta 1 _ rfl
  have b0 := Tb 0 _ rfl
  have b1 := Tb 1 _ rfl
  have c0 := Tc 0 _ rfl
  have c1 := Tc 1 _ rfl
  have r0 := Tr 0 _ rfl
  have r1 := Tr 1 _ rfl
  have r2 := Tr 2 _ rfl
  have r3 := Tr 3 _ rfl
  have r4 := Tr 4 _ rfl
  have s0 := Ts 0 _ rfl
  have s1 := Ts 1 _ rfl
  have s2 := Ts 2 _ rfl
  have s3 := Ts 3 _ rfl
  have s4 := Ts 4 _ rfl
  go_wp2_with fail
  clear a0 a1 b0 b1 c0 c1 r0 r1 r2 r3 r4 s0 s1 s2 s3 s4
  have a0 := Ta 0 _ rfl
  have a1 := Ta 1 _ rfl
  have b0 := Tb 0 _ rfl
  have b1 := Tb 1 _ rfl
  have c0 := Tc 0 _ rfl
  have c1 := Tc 1 _ rfl
  have r0 := Tr 0 _ rfl
  have r1 := Tr 1 _ rfl
  have r2 := Tr 2 _ rfl
  have r3 := Tr 3 _ rfl
  have r4 := Tr 4 _ rfl
  have s0 := Ts 0 _ rfl
  have s1 := Ts 1 _ rfl
  have s2 := Ts 2 _ rfl
  have s3 := Ts 3 _ rfl
  have s4 := Ts 4 _ rfl
  cases hf1 : feasB r a
  ·
    have HF1 := Lib.hid hf1; clear hf1
    go_wp2_with fail
    refine (feas_at r a false V3 HF1.out).mono ?_
    clear a0 a1 b0 b1 c0 c1 r0 r1 r2 r3 r4 s0 s1 s2 s3 s4
    rintro e w4 ⟨rfl, b4⟩
    replace Ta := Ta.keep b4
    replace Tb := Tb.keep b4
    replace Tc := Tc.keep b4
    replace Tr := Tr.keep b4
    replace Ts := Ts.keep b4
    replace BB := bstep BB b4
    clear b4
    have a0 := Ta 0 _ rfl
    have a1 := Ta 1 _ rfl
    have r0 := Tr 0 _ rfl
    have r1 := Tr 1 _ rfl
    have r2 := Tr 2 _ rfl
    have r3 := Tr 3 _ rfl
    have r4 := Tr 4 _ rfl
    have s0 := Ts 0 _ rfl
    have s1 := Ts 1 _ rfl
    have s2 := Ts 2 _ rfl
    have s3 := Ts 3 _ rfl
    have s4 := Ts 4 _ rfl
    go_wp2_with fail
    go_ret
    exact ⟨by simp, BB⟩
  ·
    have HF1 := Lib.hid hf1; clear hf1
    go_wp2_with fail
    refine (feas_at r a true V3 HF1.out).mono ?_
    clear a0 a1 b0 b1 c0 c1 r0 r1 r2 r3 r4 s0 s1 s2 s3 s4
    rintro e w4 ⟨rfl, b4⟩
    replace Ta := Ta.keep b4
    replace Tb := Tb.keep b4
    replace Tc := Tc.keep b4
    replace Tr := Tr.keep b4
    replace Ts := Ts.keep b4
    replace BB := bstep BB b4
    clear b4
    have a0 := Ta 0 _ rfl
    have a1 := Ta 1 _ rfl
    have r0 := Tr 0 _ rfl
    have r1 := Tr 1 _ rfl
    have r2 := Tr 2 _ rfl
    have r3 := Tr 3 _ rfl
    have r4 := Tr 4 _ rfl
    have s0 := Ts 0 _ rfl
    have s1 := Ts 1 _ rfl
    have s2 := Ts 2 _ rfl
    have s3 := Ts 3 _ rfl
    have s4 := Ts 4 _ rfl
    cases hf2 : betterB s.l r.l
    ·
      have hf3 := order_4 r s a
      rw [HF1.out, hf2] at hf3
      have HF3 := Lib.hid (show feasB s a = true by simpa using hf3); clear hf3
      have HF2 := Lib.hid hf2; clear hf2
      go_wp2_with fail
      refine (better_at s.l r.l false w4 HF2.out).mono ?_
      clear a0 a1 r0 r1 r2 r3 r4 s0 s1 s2 s3 s4
      rintro e w5 ⟨rfl, b5⟩
      replace Ta := Ta.keep b5
      replace Tb := Tb.keep b5
      replace Tc := Tc.keep b5
      replace Tr := Tr.keep b5
      replace Ts := Ts.keep b5
      replace BB := bstep BB b5
      clear b5
      have a0 := Ta 0 _ rfl
      have a1 := Ta 1 _ rfl
      have r0 := Tr 0 _ rfl
      have r1 := Tr 1 _ rfl
      have r2 := Tr 2 _ rfl
      have r3 := Tr 3 _ rfl
      have r4 := Tr 4 _ rfl
      have s0 := Ts 0 _ rfl
      have s1 := Ts 1 _ rfl
      have s2 := Ts 2 _ rfl
      have s3 := Ts 3 _ rfl
      have s4 := Ts 4 _ rfl
      go_wp2_with fail
      refine (feas_at s a true w5 HF3.out).mono ?_
      clear a0 a1 r0 r1 r2 r3 r4 s0 s1 s2 s3 s4
      rintro e w6 ⟨rfl, b6⟩
      replace Ta := Ta.keep b6
      replace Tb := Tb.keep b6
      replace Tc := Tc.keep b6
      replace Tr := Tr.keep b6
      replace Ts := Ts.keep b6
      replace BB := bstep BB b6
      clear b6
      go_wp2_with fail
      go_ret
      exact ⟨by simp, BB⟩
    ·
      have HF2 := Lib.hid hf2; clear hf2
      go_wp2_with fail
      refine (better_at s.l r.l true w4 HF2.out).mono ?_
      clear a0 a1 r0 r1 r2 r3 r4 s0 s1 s2 s3 s4
      rintro e w5 ⟨rfl, b5⟩
      replace Ta := Ta.keep b5
      replace Tb := Tb.keep b5
      replace Tc := Tc.keep b5
      replace Tr := Tr.keep b5
      replace Ts := Ts.keep b5
      replace BB := bstep BB b5
      clear b5
      have a0 := Ta 0 _ rfl
      have a1 := Ta 1 _ rfl
      have r0 := Tr 0 _ rfl
      have r1 := Tr 1 _ rfl
      have r2 := Tr 2 _ rfl
      have r3 := Tr 3 _ rfl
      have r4 := Tr 4 _ rfl
      have s0 := Ts 0 _ rfl
      have s1 := Ts 1 _ rfl
      have s2 := Ts 2 _ rfl
      have s3 := Ts 3 _ rfl
      have s4 := Ts 4 _ rfl
      go_wp2_with fail
      go_ret
      exact ⟨by simp, BB⟩
set_option maxRecDepth 100000 in
set_option maxHeartbeats 1000000 in
theorem order_a1 (a b c : Ds) (r s : Rt) (w : World) (HX : Hid (betterB a b = true)) (HY : Hid (betterB b a = false)) (HE : Hid ((a.s == b.s) = true)) (HE2 : Hid ((a.r == b.r) = false)) (HBC : Hid (betterB b c = true)) (HAC : Hid (betterB a c = true)) : Calls Try.prog 4 #[a.v, b.v, c.v, r.v, s.v] w (Yes true w) := by
  go_enter Try.func4, Try.ntmps4
  have hse : (a.s == b.s) = true := HE.out
  have hre : (a.r == b.r) = false := HE2.out
  go_wp2_with fail
  have Ta := CAt.new (w) [.int .i64 a.s, .int .i64 a.r] 23
  have BB : Below w.heap.size w ((w).alloc (.cells #[.int .i64 a.s, .int .i64 a.r] 23)) := ball (Below.refl _ _) _
  have Tb := CAt.new (w.alloc (.cells #[.int .i64 a.s, .int .i64 a.r] 23)) [.int .i64 b.s, .int .i64 b.r] 23
  replace Ta := Ta.alloc (.cells #[.int .i64 b.s, .int .i64 b.r] 23)
  replace BB := ball BB (.cells #[.int .i64 b.s, .int .i64 b.r] 23)
  have Tc := CAt.new ((w.alloc (.cells #[.int .i64 a.s, .int .i64 a.r] 23)).alloc (.cells #[.int .i64 b.s, .int .i64 b.r] 23)) [.int .i64 c.s, .int .i64 c.r] 23
  replace Ta := Ta.alloc (.cells #[.int .i64 c.s, .int .i64 c.r] 23)
  replace Tb := Tb.alloc (.cells #[.int .i64 c.s, .int .i64 c.r] 23)
  replace BB := ball BB (.cells #[.int .i64 c.s, .int .i64 c.r] 23)
  have Tr := CAt.new (((w.alloc (.cells #[.int .i64 a.s, .int .i64 a.r] 23)).alloc (.cells #[.int .i64 b.s, .int .i64 b.r] 23)).alloc (.cells #[.int .i64 c.s, .int .i64 c.r] 23)) [.int .i64 r.o.s, .int .i64 r.o.r, .int .i64 r.l.s, .int .i64 r.l.r, .int .i64 r.p] 25
  replace Ta := Ta.alloc (.cells #[.int .i64 r.o.s, .int .i64 r.o.r, .int .i64 r.l.s, .int .i64 r.l.r, .int .i64 r.p] 25)
  replace Tb := Tb.alloc (.cells #[.int .i64 r.o.s, .int .i64 r.o.r, .int .i64 r.l.s, .int .i64 r.l.r, .int .i64 r.p] 25)
  replace Tc := Tc.alloc (.cells #[.int .i64 r.o.s, .int .i64 r.o.r, .int .i64 r.l.s, .int .i64 r.l.r, .int .i64 r.p] 25)
  replace BB := ball BB (.cells #[.int .i64 r.o.s, .int .i64 r.o.r, .int .i64 r.l.s, .int .i64 r.l.r, .int .i64 r.p] 25)
  have Ts := CAt.new ((((w.alloc (.cells #[.int .i64 a.s, .int .i64 a.r] 23)).alloc (.cells #[.int .i64 b.s, .int .i64 b.r] 23)).alloc (.cells #[.int .i64 c.s, .int .i64 c.r] 23)).alloc (.cells #[.int .i64 r.o.s, .int .i64 r.o.r, .int .i64 r.l.s, .int .i64 r.l.r, .int .i64 r.p] 25)) [.int .i64 s.o.s, .int .i64 s.o.r, .int .i64 s.l.s, .int .i64 s.l.r, .int .i64 s.p] 25
  replace Ta := Ta.alloc (.cells #[.int .i64 s.o.s, .int .i64 s.o.r, .int .i64 s.l.s, .int .i64 s.l.r, .int .i64 s.p] 25)
  replace Tb := Tb.alloc (.cells #[.int .i64 s.o.s, .int .i64 s.o.r, .int .i64 s.l.s, .int .i64 s.l.r, .int .i64 s.p] 25)
  replace Tc := Tc.alloc (.cells #[.int .i64 s.o.s, .int .i64 s.o.r, .int .i64 s.l.s, .int .i64 s.l.r, .int .i64 s.p] 25)
  replace Tr := Tr.alloc (.cells #[.int .i64 s.o.s, .int .i64 s.o.r, .int .i64 s.l.s, .int .i64 s.l.r, .int .i64 s.p] 25)
  replace BB := ball BB (.cells #[.int .i64 s.o.s, .int .i64 s.o.r, .int .i64 s.l.s, .int .i64 s.l.r, .int .i64 s.p] 25)
  simp only [World.size_alloc, Nat.add_assoc, Nat.reduceAdd] at Tb Tc Tr Ts
  obtain ⟨V1, hV1⟩ : ∃ V1, ((((w.alloc (.cells #[.int .i64 a.s, .int .i64 a.r] 23)).alloc (.cells #[.int .i64 b.s, .int .i64 b.r] 23)).alloc (.cells #[.int .i64 c.s, .int .i64 c.r] 23)).alloc (.cells #[.int .i64 r.o.s, .int .i64 r.o.r, .int .i64 r.l.s, .int .i64 r.l.r, .int .i64 r.p] 25)).alloc (.cells #[.int .i64 s.o.s, .int .i64 s.o.r, .int .i64 s.l.s, .int .i64 s.l.r, .int .i64 s.p] 25) = V1 := ⟨_, rfl⟩
  rw [hV1] at BB Ta Tb Tc Tr Ts ⊢
  clear hV1
  refine (head_any V1).mono ?_
  rintro e w2 ⟨rfl, b2⟩
  replace Ta := Ta.keep b2
  replace Tb := Tb.keep b2
  replace Tc := Tc.keep b2
  replace Tr := Tr.keep b2
  replace Ts := Ts.keep b2
  replace BB := bstep BB b2
  clear b2
  have a0 := Ta 0 _ rfl
  have a1 := Ta 1 _ rfl
  have b0 := Tb 0 _ rfl
  have b1 := Tb 1 _ rfl
  go_upto_region 2 with (fail)
  clear a0 a1 b0 b1
  have a0 := Ta 0 _ rfl
  have ka0 := cell_regrown a0
  have a1 := Ta 1 _ rfl
  have ka1 := cell_regrown a1
  have b0 := Tb 0 _ rfl
  have kb0 := cell_regrown b0
  have b1 := Tb 1 _ rfl
  have kb1 := cell_regrown b1
  have c0 := Tc 0 _ rfl
  have kc0 := cell_regrown c0
  have c1 := Tc 1 _ rfl
  have kc1 := cell_regrown c1
  have r0 := Tr 0 _ rfl
  have kr0 := cell_regrown r0
  have r1 := Tr 1 _ rfl
  have kr1 := cell_regrown r1
  have r2 := Tr 2 _ rfl
  have kr2 := cell_regrown r2
  have r3 := Tr 3 _ rfl
  have kr3 := cell_regrown r3
  have r4 := Tr 4 _ rfl
  have kr4 := cell_regrown r4
  have s0 := Ts 0 _ rfl
  have ks0 := cell_regrown s0
  have s1 := Ts 1 _ rfl
  have ks1 := cell_regrown s1
  have s2 := Ts 2 _ rfl
  have ks2 := cell_regrown s2
  have s3 := Ts 3 _ rfl
  have ks3 := cell_regrown s3
  have s4 := Ts 4 _ rfl
  have ks4 := cell_regrown s4
  refine wp_region_quiet_below (by kernel_rfl) (by kernel_rfl) ?_
  repeat (go_big_quiet_step (first
    | (go_at_call 14; exact rg_of fun w' h => better_at a b true w' HX.out)
    | (go_at_call 14; exact rg_of fun w' h => better_at b a false w' HY.out)))
  refine wpQuiet_nil ?_
  intro _ hw'
  obtain ⟨⟨dq, osq⟩, hw''⟩ := hw'
  subst hw''
  clear a0 ka0 a1 ka1 b0 kb0 b1 kb1 c0 kc0 c1 kc1 r0 kr0 r1 kr1 r2 kr2 r3 kr3 r4 kr4 s0 ks0 s1 ks1 s2 ks2 s3 ks3 s4 ks4
  have bq := below_regrown w2 dq osq
  obtain ⟨V3, hV3⟩ : ∃ V3, grow (redrawn w2 dq) osq = V3 := ⟨_, rfl⟩
  rw [hV3] at bq ⊢
  clear hV3 dq osq
  replace Ta := Ta.keep bq
  replace Tb := Tb.keep bq
  replace Tc := Tc.keep bq
  replace Tr := Tr.keep bq
  replace Ts := Ts.keep bq
  replace BB := bstep BB bq
  clear bq
  have a0 := Ta 0 _ rfl
  have a1 := Ta 1 _ rfl
  have b0 := Tb 0 _ rfl
  have b1 := Tb 1 _ rfl
  have c0 := Tc 0 _ rfl
  have c1 := Tc 1 _ rfl
  have r0 := Tr 0 _ rfl
  have r1 := Tr 1 _ rfl
  have r2 := Tr 2 _ rfl
  have r3 := Tr 3 _ rfl
  have r4 := Tr 4 _ rfl
  have s0 := Ts 0 _ rfl
  have s1 := Ts 1 _ rfl
  have s2 := Ts 2 _ rfl
  have s3 := Ts 3 _ rfl
  have s4 := Ts 4 _ rfl
  go_wp2_with fail
  refine (better_at b c true V3 HBC.out).mono ?_
  clear a0 a1 b0 b1 c0 c1 r0 r1 r2 r3 r4 s0 s1 s2 s3 s4
  rintro e w4 ⟨rfl, b4⟩
  replace Ta := Ta.keep b4
  replace Tb := Tb.keep b4
  replace Tc := Tc.keep b4
  replace Tr := Tr.keep b4
  replace Ts := Ts.keep b4
  replace BB := bstep BB b4
  clear b4
  have a0 := Ta 0 _ rfl
  have a1 := Ta 1 _ rfl
  have b0 := Tb 0 _ rfl
  have b1 := Tb 1 _ rfl
  have c0 := Tc 0 _ rfl
  have c1 := Tc 1 _ rfl
  have r0 := Tr 0 _ rfl
  have r1 := Tr 1 _ rfl
  have r2 := Tr 2 _ rfl
  have r3 := Tr 3 _ rfl
  have r4 := Tr 4 _ rfl
  have s0 := Ts 0 _ rfl
  have s1 := Ts 1 _ rfl
  have s2 := Ts 2 _ rfl
  have s3 := Ts 3 _ rfl
  have s4 := Ts 4 _ rfl
  go_wp2_with fail
  refine (better_at a c true w4 HAC.out).mono ?_
  clear a0 a1 b0 b1 c0 c1 r0 r1 r2 r3 r4 s0 s1 s2 s3 s4
  rintro e w5 ⟨rfl, b5⟩
  replace Ta := Ta.keep b5
  replace Tb := Tb.keep b5
  replace Tc := Tc.keep b5
  replace Tr := Tr.keep b5
  replace Ts := Ts.keep b5
  replace BB := bstep BB b5
  clear b5
  have a0 := Ta 0 _ rfl
  have a1 := Ta 1 _ rfl
  have r0 := Tr 0 _ rfl
  have r1 := Tr 1 _ rfl
  have r2 := Tr 2 _ rfl
  have r3 := Tr 3 _ rfl
  have r4 := Tr 4 _ rfl
  have s0 := Ts 0 _ rfl
  have s1 := Ts 1 _ rfl
  have s2 := Ts 2 _ rfl
  have s3 := Ts 3 _ rfl
  have s4 := Ts 4 _ rfl
  go_wp2_with fail
  clear a0 a1 r0 r1 r2 r3 r4 s0 s1 s2 s3 s4
  have a0 := Ta 0 _ rfl
  have a1 := Ta 1 _ rfl
  have b0 := Tb 0 _ rfl
  have b1 := Tb 1 _ rfl
  have c0 := Tc 0 _ rfl
  have c1 := Tc 1 _ rfl
  have r0 := Tr 0 _ rfl
  have r1 := Tr 1 _ rfl
  have r2 := Tr 2 _ rfl
  have r3 := Tr 3 _ rfl
  have r4 := Tr 4 _ rfl
  have s0 := Ts 0 _ rfl
  have s1 := Ts 1 _ rfl
  have s2 := Ts 2 _ rfl
  have s3 := Ts 3 _ rfl
  have s4 := Ts 4 _ rfl
  cases hf1 : feasB r a
  ·
    have HF1 := Lib.hid hf1; clear hf1
    go_wp2_with fail
    refine (feas_at r a false w5 HF1.out).mono ?_
    clear a0 a1 b0 b1 c0 c1 r0 r1 r2 r3 r4 s0 s1 s2 s3 s4
    rintro e w6 ⟨rfl, b6⟩
    replace Ta := Ta.keep b6
    replace Tb := Tb.keep b6
    replace Tc := Tc.keep b6
    replace Tr := Tr.keep b6
    replace Ts := Ts.keep b6
    replace BB := bstep BB b6
    clear b6
    have a0 := Ta 0 _ rfl
    have a1 := Ta 1 _ rfl
    have r0 := Tr 0 _ rfl
    have r1 := Tr 1 _ rfl
    have r2 := Tr 2 _ rfl
    have r3 := Tr 3 _ rfl
    have r4 := Tr 4 _ rfl
    have s0 := Ts 0 _ rfl
    have s1 := Ts 1 _ rfl
    have s2 := Ts 2 _ rfl
    have s3 := Ts 3 _ rfl
    have s4 := Ts 4 _ rfl
    go_wp2_with fail
    go_ret
    exact ⟨by simp, BB⟩
  ·
    have HF1 := Lib.hid hf1; clear hf1
    go_wp2_with fail
    refine (feas_at r a true w5 HF1.out).mono ?_
    clear a0 a1 b0 b1 c0 c1 r0 r1 r2 r3 r4 s0 s1 s2 s3 s4
    rintro e w6 ⟨rfl, b6⟩
    replace Ta := Ta.keep b6
    replace Tb := Tb.keep b6
    replace Tc := Tc.keep b6
    replace Tr := Tr.keep b6
    replace Ts := Ts.keep b6
    replace BB := bstep BB b6
    clear b6
    have a0 := Ta 0 _ rfl
    have a1 := Ta 1 _ rfl
    have r0 := Tr 0 _ rfl
    have r1 := Tr 1 _ rfl
    have r2 := Tr 2 _ rfl
    have r3 := Tr 3 _ rfl
    have r4 := Tr 4 _ rfl
    have s0 := Ts 0 _ rfl
    have s1 := Ts 1 _ rfl
    have s2 := Ts 2 _ rfl
    have s3 := Ts 3 _ rfl
    have s4 := Ts 4 _ rfl
    cases hf2 : betterB s.l r.l
    ·
      have hf3 := order_4 r s a
      rw [HF1.out, hf2] at hf3
      have HF3 := Lib.hid (show feasB s a = true by simpa using hf3); clear hf3
      have HF2 := Lib.hid hf2; clear hf2
      go_wp2_with fail
      refine (better_at s.l r.l false w6 HF2.out).mono ?_
      clear a0 a1 r0 r1 r2 r3 r4 s0 s1 s2 s3 s4
      rintro e w7 ⟨rfl, b7⟩
      replace Ta := Ta.keep b7
      replace Tb := Tb.keep b7
      replace Tc := Tc.keep b7
      replace Tr := Tr.keep b7
      replace Ts := Ts.keep b7
      replace BB := bstep BB b7
      clear b7
      have a0 := Ta 0 _ rfl
      have a1 := Ta 1 _ rfl
      have r0 := Tr 0 _ rfl
      have r1 := Tr 1 _ rfl
      have r2 := Tr 2 _ rfl
      have r3 := Tr 3 _ rfl
      have r4 := Tr 4 _ rfl
      have s0 := Ts 0 _ rfl
      have s1 := Ts 1 _ rfl
      have s2 := Ts 2 _ rfl
      have s3 := Ts 3 _ rfl
      have s4 := Ts 4 _ rfl
      go_wp2_with fail
      refine (feas_at s a true w7 HF3.out).mono ?_
      clear a0 a1 r0 r1 r2 r3 r4 s0 s1 s2 s3 s4
      rintro e w8 ⟨rfl, b8⟩
      replace Ta := Ta.keep b8
      replace Tb := Tb.keep b8
      replace Tc := Tc.keep b8
      replace Tr := Tr.keep b8
      replace Ts := Ts.keep b8
      replace BB := bstep BB b8
      clear b8
      go_wp2_with fail
      go_ret
      exact ⟨by simp, BB⟩
    ·
      have HF2 := Lib.hid hf2; clear hf2
      go_wp2_with fail
      refine (better_at s.l r.l true w6 HF2.out).mono ?_
      clear a0 a1 r0 r1 r2 r3 r4 s0 s1 s2 s3 s4
      rintro e w7 ⟨rfl, b7⟩
      replace Ta := Ta.keep b7
      replace Tb := Tb.keep b7
      replace Tc := Tc.keep b7
      replace Tr := Tr.keep b7
      replace Ts := Ts.keep b7
      replace BB := bstep BB b7
      clear b7
      have a0 := Ta 0 _ rfl
      have a1 := Ta 1 _ rfl
      have r0 := Tr 0 _ rfl
      have r1 := Tr 1 _ rfl
      have r2 := Tr 2 _ rfl
      have r3 := Tr 3 _ rfl
      have r4 := Tr 4 _ rfl
      have s0 := Ts 0 _ rfl
      have s1 := Ts 1 _ rfl
      have s2 := Ts 2 _ rfl
      have s3 := Ts 3 _ rfl
      have s4 := Ts 4 _ rfl
      go_wp2_with fail
      go_ret
      exact ⟨by simp, BB⟩
set_option maxRecDepth 100000 in
set_option maxHeartbeats 1000000 in
theorem order_b1 (a b c : Ds) (r s : Rt) (w : World) (HX : Hid (betterB a b = true)) (HY : Hid (betterB b a = false)) (HE : Hid ((a.s == b.s) = true)) (HE2 : Hid ((a.r == b.r) = false)) (HBC : Hid (betterB b c = false)) : Calls Try.prog 4 #[a.v, b.v, c.v, r.v, s.v] w (Yes true w) := by
  go_enter Try.func4, Try.ntmps4
  have hse : (a.s == b.s) = true := HE.out
  have hre : (a.r == b.r) = false := HE2.out
  go_wp2_with fail
  have Ta := CAt.new (w) [.int .i64 a.s, .int .i64 a.r] 23
  have BB : Below w.heap.size w ((w).alloc (.cells #[.int .i64 a.s, .int .i64 a.r] 23)) := ball (Below.refl _ _) _
  have Tb := CAt.new (w.alloc (.cells #[.int .i64 a.s, .int .i64 a.r] 23)) [.int .i64 b.s, .int .i64 b.r] 23
  replace Ta := Ta.alloc (.cells #[.int .i64 b.s, .int .i64 b.r] 23)
  replace BB := ball BB (.cells #[.int .i64 b.s, .int .i64 b.r] 23)
  have Tc := CAt.new ((w.alloc (.cells #[.int .i64 a.s, .int .i64 a.r] 23)).alloc (.cells #[.int .i64 b.s, .int .i64 b.r] 23)) [.int .i64 c.s, .int .i64 c.r] 23
  replace Ta := Ta.alloc (.cells #[.int .i64 c.s, .int .i64 c.r] 23)
  replace Tb := Tb.alloc (.cells #[.int .i64 c.s, .int .i64 c.r] 23)
  replace BB := ball BB (.cells #[.int .i64 c.s, .int .i64 c.r] 23)
  have Tr := CAt.new (((w.alloc (.cells #[.int .i64 a.s, .int .i64 a.r] 23)).alloc (.cells #[.int .i64 b.s, .int .i64 b.r] 23)).alloc (.cells #[.int .i64 c.s, .int .i64 c.r] 23)) [.int .i64 r.o.s, .int .i64 r.o.r, .int .i64 r.l.s, .int .i64 r.l.r, .int .i64 r.p] 25
  replace Ta := Ta.alloc (.cells #[.int .i64 r.o.s, .int .i64 r.o.r, .int .i64 r.l.s, .int .i64 r.l.r, .int .i64 r.p] 25)
  replace Tb := Tb.alloc (.cells #[.int .i64 r.o.s, .int .i64 r.o.r, .int .i64 r.l.s, .int .i64 r.l.r, .int .i64 r.p] 25)
  replace Tc := Tc.alloc (.cells #[.int .i64 r.o.s, .int .i64 r.o.r, .int .i64 r.l.s, .int .i64 r.l.r, .int .i64 r.p] 25)
  replace BB := ball BB (.cells #[.int .i64 r.o.s, .int .i64 r.o.r, .int .i64 r.l.s, .int .i64 r.l.r, .int .i64 r.p] 25)
  have Ts := CAt.new ((((w.alloc (.cells #[.int .i64 a.s, .int .i64 a.r] 23)).alloc (.cells #[.int .i64 b.s, .int .i64 b.r] 23)).alloc (.cells #[.int .i64 c.s, .int .i64 c.r] 23)).alloc (.cells #[.int .i64 r.o.s, .int .i64 r.o.r, .int .i64 r.l.s, .int .i64 r.l.r, .int .i64 r.p] 25)) [.int .i64 s.o.s, .int .i64 s.o.r, .int .i64 s.l.s, .int .i64 s.l.r, .int .i64 s.p] 25
  replace Ta := Ta.alloc (.cells #[.int .i64 s.o.s, .int .i64 s.o.r, .int .i64 s.l.s, .int .i64 s.l.r, .int .i64 s.p] 25)
  replace Tb := Tb.alloc (.cells #[.int .i64 s.o.s, .int .i64 s.o.r, .int .i64 s.l.s, .int .i64 s.l.r, .int .i64 s.p] 25)
  replace Tc := Tc.alloc (.cells #[.int .i64 s.o.s, .int .i64 s.o.r, .int .i64 s.l.s, .int .i64 s.l.r, .int .i64 s.p] 25)
  replace Tr := Tr.alloc (.cells #[.int .i64 s.o.s, .int .i64 s.o.r, .int .i64 s.l.s, .int .i64 s.l.r, .int .i64 s.p] 25)
  replace BB := ball BB (.cells #[.int .i64 s.o.s, .int .i64 s.o.r, .int .i64 s.l.s, .int .i64 s.l.r, .int .i64 s.p] 25)
  simp only [World.size_alloc, Nat.add_assoc, Nat.reduceAdd] at Tb Tc Tr Ts
  obtain ⟨V1, hV1⟩ : ∃ V1, ((((w.alloc (.cells #[.int .i64 a.s, .int .i64 a.r] 23)).alloc (.cells #[.int .i64 b.s, .int .i64 b.r] 23)).alloc (.cells #[.int .i64 c.s, .int .i64 c.r] 23)).alloc (.cells #[.int .i64 r.o.s, .int .i64 r.o.r, .int .i64 r.l.s, .int .i64 r.l.r, .int .i64 r.p] 25)).alloc (.cells #[.int .i64 s.o.s, .int .i64 s.o.r, .int .i64 s.l.s, .int .i64 s.l.r, .int .i64 s.p] 25) = V1 := ⟨_, rfl⟩
  rw [hV1] at BB Ta Tb Tc Tr Ts ⊢
  clear hV1
  refine (head_any V1).mono ?_
  rintro e w2 ⟨rfl, b2⟩
  replace Ta := Ta.keep b2
  replace Tb := Tb.keep b2
  replace Tc := Tc.keep b2
  replace Tr := Tr.keep b2
  replace Ts := Ts.keep b2
  replace BB := bstep BB b2
  clear b2
  have a0 := Ta 0 _ rfl
  have a1 := Ta 1 _ rfl
  have b0 := Tb 0 _ rfl
  have b1 := Tb 1 _ rfl
  go_upto_region 2 with (fail)
  clear a0 a1 b0 b1
  have a0 := Ta 0 _ rfl
  have ka0 := cell_regrown a0
  have a1 := Ta 1 _ rfl
  have ka1 := cell_regrown a1
  have b0 := Tb 0 _ rfl
  have kb0 := cell_regrown b0
  have b1 := Tb 1 _ rfl
  have kb1 := cell_regrown b1
  have c0 := Tc 0 _ rfl
  have kc0 := cell_regrown c0
  have c1 := Tc 1 _ rfl
  have kc1 := cell_regrown c1
  have r0 := Tr 0 _ rfl
  have kr0 := cell_regrown r0
  have r1 := Tr 1 _ rfl
  have kr1 := cell_regrown r1
  have r2 := Tr 2 _ rfl
  have kr2 := cell_regrown r2
  have r3 := Tr 3 _ rfl
  have kr3 := cell_regrown r3
  have r4 := Tr 4 _ rfl
  have kr4 := cell_regrown r4
  have s0 := Ts 0 _ rfl
  have ks0 := cell_regrown s0
  have s1 := Ts 1 _ rfl
  have ks1 := cell_regrown s1
  have s2 := Ts 2 _ rfl
  have ks2 := cell_regrown s2
  have s3 := Ts 3 _ rfl
  have ks3 := cell_regrown s3
  have s4 := Ts 4 _ rfl
  have ks4 := cell_regrown s4
  refine wp_region_quiet_below (by kernel_rfl) (by kernel_rfl) ?_
  repeat (go_big_quiet_step (first
    | (go_at_call 14; exact rg_of fun w' h => better_at a b true w' HX.out)
    | (go_at_call 14; exact rg_of fun w' h => better_at b a false w' HY.out)))
  refine wpQuiet_nil ?_
  intro _ hw'
  obtain ⟨⟨dq, osq⟩, hw''⟩ := hw'
  subst hw''
  clear a0 ka0 a1 ka1 b0 kb0 b1 kb1 c0 kc0 c1 kc1 r0 kr0 r1 kr1 r2 kr2 r3 kr3 r4 kr4 s0 ks0 s1 ks1 s2 ks2 s3 ks3 s4 ks4
  have bq := below_regrown w2 dq osq
  obtain ⟨V3, hV3⟩ : ∃ V3, grow (redrawn w2 dq) osq = V3 := ⟨_, rfl⟩
  rw [hV3] at bq ⊢
  clear hV3 dq osq
  replace Ta := Ta.keep bq
  replace Tb := Tb.keep bq
  replace Tc := Tc.keep bq
  replace Tr := Tr.keep bq
  replace Ts := Ts.keep bq
  replace BB := bstep BB bq
  clear bq
  have a0 := Ta 0 _ rfl
  have a1 := Ta 1 _ rfl
  have b0 := Tb 0 _ rfl
  have b1 := Tb 1 _ rfl
  have c0 := Tc 0 _ rfl
  have c1 := Tc 1 _ rfl
  have r0 := Tr 0 _ rfl
  have r1 := Tr 1 _ rfl
  have r2 := Tr 2 _ rfl
  have r3 := Tr 3 _ rfl
  have r4 := Tr 4 _ rfl
  have s0 := Ts 0 _ rfl
  have s1 := Ts 1 _ rfl
  have s2 := Ts 2 _ rfl
  have s3 := Ts 3 _ rfl
  have s4 := Ts 4 _ rfl
  go_wp2_with fail
  refine (better_at b c false V3 HBC.out).mono ?_
  clear a0 a1 b0 b1 c0 c1 r0 r1 r2 r3 r4 s0 s1 s2 s3 s4
  rintro e w4 ⟨rfl, b4⟩
  replace Ta := Ta.keep b4
  replace Tb := Tb.keep b4
  replace Tc := Tc.keep b4
  replace Tr := Tr.keep b4
  replace Ts := Ts.keep b4
  replace BB := bstep BB b4
  clear b4
  have a0 := Ta 0 _ rfl
  have a1 := Ta 1 _ rfl
  have b0 := Tb 0 _ rfl
  have b1 := Tb 1 _ rfl
  have c0 := Tc 0 _ rfl
  have c1 := Tc 1 _ rfl
  have r0 := Tr 0 _ rfl
  have r1 := Tr 1 _ rfl
  have r2 := Tr 2 _ rfl
  have r3 := Tr 3 _ rfl
  have r4 := Tr 4 _ rfl
  have s0 := Ts 0 _ rfl
  have s1 := Ts 1 _ rfl
  have s2 := Ts 2 _ rfl
  have s3 := Ts 3 _ rfl
  have s4 := Ts 4 _ rfl
  go_wp2_with fail
  clear a0 a1 b0 b1 c0 c1 r0 r1 r2 r3 r4 s0 s1 s2 s3 s4
  have a0 := Ta 0 _ rfl
  have a1 := Ta 1 _ rfl
  have b0 := Tb 0 _ rfl
  have b1 := Tb 1 _ rfl
  have c0 := Tc 0 _ rfl
  have c1 := Tc 1 _ rfl
  have r0 := Tr 0 _ rfl
  have r1 := Tr 1 _ rfl
  have r2 := Tr 2 _ rfl
  have r3 := Tr 3 _ rfl
  have r4 := Tr 4 _ rfl
  have s0 := Ts 0 _ rfl
  have s1 := Ts 1 _ rfl
  have s2 := Ts 2 _ rfl
  have s3 := Ts 3 _ rfl
  have s4 := Ts 4 _ rfl
  cases hf1 : feasB r a
  ·
    have HF1 := Lib.hid hf1; clear hf1
    go_wp2_with fail
    refine (feas_at r a false w4 HF1.out).mono ?_
    clear a0 a1 b0 b1 c0 c1 r0 r1 r2 r3 r4 s0 s1 s2 s3 s4
    rintro e w5 ⟨rfl, b5⟩
    replace Ta := Ta.keep b5
    replace Tb := Tb.keep b5
    replace Tc := Tc.keep b5
    replace Tr := Tr.keep b5
    replace Ts := Ts.keep b5
    replace BB := bstep BB b5
    clear b5
    have a0 := Ta 0 _ rfl
    have a1 := Ta 1 _ rfl
    have r0 := Tr 0 _ rfl
    have r1 := Tr 1 _ rfl
    have r2 := Tr 2 _ rfl
    have r3 := Tr 3 _ rfl
    have r4 := Tr 4 _ rfl
    have s0 := Ts 0 _ rfl
    have s1 := Ts 1 _ rfl
    have s2 := Ts 2 _ rfl
    have s3 := Ts 3 _ rfl
    have s4 := Ts 4 _ rfl
    go_wp2_with fail
    go_ret
    exact ⟨by simp, BB⟩
  ·
    have HF1 := Lib.hid hf1; clear hf1
    go_wp2_with fail
    refine (feas_at r a true w4 HF1.out).mono ?_
    clear a0 a1 b0 b1 c0 c1 r0 r1 r2 r3 r4 s0 s1 s2 s3 s4
    rintro e w5 ⟨rfl, b5⟩
    replace Ta := Ta.keep b5
    replace Tb := Tb.keep b5
    replace Tc := Tc.keep b5
    replace Tr := Tr.keep b5
    replace Ts := Ts.keep b5
    replace BB := bstep BB b5
    clear b5
    have a0 := Ta 0 _ rfl
    have a1 := Ta 1 _ rfl
    have r0 := Tr 0 _ rfl
    have r1 := Tr 1 _ rfl
    have r2 := Tr 2 _ rfl
    have r3 := Tr 3 _ rfl
    have r4 := Tr 4 _ rfl
    have s0 := Ts 0 _ rfl
    have s1 := Ts 1 _ rfl
    have s2 := Ts 2 _ rfl
    have s3 := Ts 3 _ rfl
    have s4 := Ts 4 _ rfl
    cases hf2 : betterB s.l r.l
    ·
      have hf3 := order_4 r s a
      rw [HF1.out, hf2] at hf3
      have HF3 := Lib.hid (show feasB s a = true by simpa using hf3); clear hf3
      have HF2 := Lib.hid hf2; clear hf2
      go_wp2_with fail
      refine (better_at s.l r.l false w5 HF2.out).mono ?_
      clear a0 a1 r0 r1 r2 r3 r4 s0 s1 s2 s3 s4
      rintro e w6 ⟨rfl, b6⟩
      replace Ta := Ta.keep b6
      replace Tb := Tb.keep b6
      replace Tc := Tc.keep b6
      replace Tr := Tr.keep b6
      replace Ts := Ts.keep b6
      replace BB := bstep BB b6
      clear b6
      have a0 := Ta 0 _ rfl
      have a1 := Ta 1 _ rfl
      have r0 := Tr 0 _ rfl
      have r1 := Tr 1 _ rfl
      have r2 := Tr 2 _ rfl
      have r3 := Tr 3 _ rfl
      have r4 := Tr 4 _ rfl
      have s0 := Ts 0 _ rfl
      have s1 := Ts 1 _ rfl
      have s2 := Ts 2 _ rfl
      have s3 := Ts 3 _ rfl
      have s4 := Ts 4 _ rfl
      go_wp2_with fail
      refine (feas_at s a true w6 HF3.out).mono ?_
      clear a0 a1 r0 r1 r2 r3 r4 s0 s1 s2 s3 s4
      rintro e w7 ⟨rfl, b7⟩
      replace Ta := Ta.keep b7
      replace Tb := Tb.keep b7
      replace Tc := Tc.keep b7
      replace Tr := Tr.keep b7
      replace Ts := Ts.keep b7
      replace BB := bstep BB b7
      clear b7
      go_wp2_with fail
      go_ret
      exact ⟨by simp, BB⟩
    ·
      have HF2 := Lib.hid hf2; clear hf2
      go_wp2_with fail
      refine (better_at s.l r.l true w5 HF2.out).mono ?_
      clear a0 a1 r0 r1 r2 r3 r4 s0 s1 s2 s3 s4
      rintro e w6 ⟨rfl, b6⟩
      replace Ta := Ta.keep b6
      replace Tb := Tb.keep b6
      replace Tc := Tc.keep b6
      replace Tr := Tr.keep b6
      replace Ts := Ts.keep b6
      replace BB := bstep BB b6
      clear b6
      have a0 := Ta 0 _ rfl
      have a1 := Ta 1 _ rfl
      have r0 := Tr 0 _ rfl
      have r1 := Tr 1 _ rfl
      have r2 := Tr 2 _ rfl
      have r3 := Tr 3 _ rfl
      have r4 := Tr 4 _ rfl
      have s0 := Ts 0 _ rfl
      have s1 := Ts 1 _ rfl
      have s2 := Ts 2 _ rfl
      have s3 := Ts 3 _ rfl
      have s4 := Ts 4 _ rfl
      go_wp2_with fail
      go_ret
      exact ⟨by simp, BB⟩
set_option maxRecDepth 100000 in
set_option maxHeartbeats 1000000 in
theorem order_c1 (a b c : Ds) (r s : Rt) (w : World) (HX : Hid (betterB a b = false)) (HY : Hid (betterB b a = true)) (HE : Hid ((a.s == b.s) = true)) (HE2 : Hid ((a.r == b.r) = false))  : Calls Try.prog 4 #[a.v, b.v, c.v, r.v, s.v] w (Yes true w) := by
  go_enter Try.func4, Try.ntmps4
  have hse : (a.s == b.s) = true := HE.out
  have hre : (a.r == b.r) = false := HE2.out
  go_wp2_with fail
  have Ta := CAt.new (w) [.int .i64 a.s, .int .i64 a.r] 23
  have BB : Below w.heap.size w ((w).alloc (.cells #[.int .i64 a.s, .int .i64 a.r] 23)) := ball (Below.refl _ _) _
  have Tb := CAt.new (w.alloc (.cells #[.int .i64 a.s, .int .i64 a.r] 23)) [.int .i64 b.s, .int .i64 b.r] 23
  replace Ta := Ta.alloc (.cells #[.int .i64 b.s, .int .i64 b.r] 23)
  replace BB := ball BB (.cells #[.int .i64 b.s, .int .i64 b.r] 23)
  have Tc := CAt.new ((w.alloc (.cells #[.int .i64 a.s, .int .i64 a.r] 23)).alloc (.cells #[.int .i64 b.s, .int .i64 b.r] 23)) [.int .i64 c.s, .int .i64 c.r] 23
  replace Ta := Ta.alloc (.cells #[.int .i64 c.s, .int .i64 c.r] 23)
  replace Tb := Tb.alloc (.cells #[.int .i64 c.s, .int .i64 c.r] 23)
  replace BB := ball BB (.cells #[.int .i64 c.s, .int .i64 c.r] 23)
  have Tr := CAt.new (((w.alloc (.cells #[.int .i64 a.s, .int .i64 a.r] 23)).alloc (.cells #[.int .i64 b.s, .int .i64 b.r] 23)).alloc (.cells #[.int .i64 c.s, .int .i64 c.r] 23)) [.int .i64 r.o.s, .int .i64 r.o.r, .int .i64 r.l.s, .int .i64 r.l.r, .int .i64 r.p] 25
  replace Ta := Ta.alloc (.cells #[.int .i64 r.o.s, .int .i64 r.o.r, .int .i64 r.l.s, .int .i64 r.l.r, .int .i64 r.p] 25)
  replace Tb := Tb.alloc (.cells #[.int .i64 r.o.s, .int .i64 r.o.r, .int .i64 r.l.s, .int .i64 r.l.r, .int .i64 r.p] 25)
  replace Tc := Tc.alloc (.cells #[.int .i64 r.o.s, .int .i64 r.o.r, .int .i64 r.l.s, .int .i64 r.l.r, .int .i64 r.p] 25)
  replace BB := ball BB (.cells #[.int .i64 r.o.s, .int .i64 r.o.r, .int .i64 r.l.s, .int .i64 r.l.r, .int .i64 r.p] 25)
  have Ts := CAt.new ((((w.alloc (.cells #[.int .i64 a.s, .int .i64 a.r] 23)).alloc (.cells #[.int .i64 b.s, .int .i64 b.r] 23)).alloc (.cells #[.int .i64 c.s, .int .i64 c.r] 23)).alloc (.cells #[.int .i64 r.o.s, .int .i64 r.o.r, .int .i64 r.l.s, .int .i64 r.l.r, .int .i64 r.p] 25)) [.int .i64 s.o.s, .int .i64 s.o.r, .int .i64 s.l.s, .int .i64 s.l.r, .int .i64 s.p] 25
  replace Ta := Ta.alloc (.cells #[.int .i64 s.o.s, .int .i64 s.o.r, .int .i64 s.l.s, .int .i64 s.l.r, .int .i64 s.p] 25)
  replace Tb := Tb.alloc (.cells #[.int .i64 s.o.s, .int .i64 s.o.r, .int .i64 s.l.s, .int .i64 s.l.r, .int .i64 s.p] 25)
  replace Tc := Tc.alloc (.cells #[.int .i64 s.o.s, .int .i64 s.o.r, .int .i64 s.l.s, .int .i64 s.l.r, .int .i64 s.p] 25)
  replace Tr := Tr.alloc (.cells #[.int .i64 s.o.s, .int .i64 s.o.r, .int .i64 s.l.s, .int .i64 s.l.r, .int .i64 s.p] 25)
  replace BB := ball BB (.cells #[.int .i64 s.o.s, .int .i64 s.o.r, .int .i64 s.l.s, .int .i64 s.l.r, .int .i64 s.p] 25)
  simp only [World.size_alloc, Nat.add_assoc, Nat.reduceAdd] at Tb Tc Tr Ts
  obtain ⟨V1, hV1⟩ : ∃ V1, ((((w.alloc (.cells #[.int .i64 a.s, .int .i64 a.r] 23)).alloc (.cells #[.int .i64 b.s, .int .i64 b.r] 23)).alloc (.cells #[.int .i64 c.s, .int .i64 c.r] 23)).alloc (.cells #[.int .i64 r.o.s, .int .i64 r.o.r, .int .i64 r.l.s, .int .i64 r.l.r, .int .i64 r.p] 25)).alloc (.cells #[.int .i64 s.o.s, .int .i64 s.o.r, .int .i64 s.l.s, .int .i64 s.l.r, .int .i64 s.p] 25) = V1 := ⟨_, rfl⟩
  rw [hV1] at BB Ta Tb Tc Tr Ts ⊢
  clear hV1
  refine (head_any V1).mono ?_
  rintro e w2 ⟨rfl, b2⟩
  replace Ta := Ta.keep b2
  replace Tb := Tb.keep b2
  replace Tc := Tc.keep b2
  replace Tr := Tr.keep b2
  replace Ts := Ts.keep b2
  replace BB := bstep BB b2
  clear b2
  have a0 := Ta 0 _ rfl
  have a1 := Ta 1 _ rfl
  have b0 := Tb 0 _ rfl
  have b1 := Tb 1 _ rfl
  go_upto_region 2 with (fail)
  clear a0 a1 b0 b1
  have a0 := Ta 0 _ rfl
  have ka0 := cell_regrown a0
  have a1 := Ta 1 _ rfl
  have ka1 := cell_regrown a1
  have b0 := Tb 0 _ rfl
  have kb0 := cell_regrown b0
  have b1 := Tb 1 _ rfl
  have kb1 := cell_regrown b1
  have c0 := Tc 0 _ rfl
  have kc0 := cell_regrown c0
  have c1 := Tc 1 _ rfl
  have kc1 := cell_regrown c1
  have r0 := Tr 0 _ rfl
  have kr0 := cell_regrown r0
  have r1 := Tr 1 _ rfl
  have kr1 := cell_regrown r1
  have r2 := Tr 2 _ rfl
  have kr2 := cell_regrown r2
  have r3 := Tr 3 _ rfl
  have kr3 := cell_regrown r3
  have r4 := Tr 4 _ rfl
  have kr4 := cell_regrown r4
  have s0 := Ts 0 _ rfl
  have ks0 := cell_regrown s0
  have s1 := Ts 1 _ rfl
  have ks1 := cell_regrown s1
  have s2 := Ts 2 _ rfl
  have ks2 := cell_regrown s2
  have s3 := Ts 3 _ rfl
  have ks3 := cell_regrown s3
  have s4 := Ts 4 _ rfl
  have ks4 := cell_regrown s4
  refine wp_region_quiet_below (by kernel_rfl) (by kernel_rfl) ?_
  repeat (go_big_quiet_step (first
    | (go_at_call 14; exact rg_of fun w' h => better_at a b false w' HX.out)
    | (go_at_call 14; exact rg_of fun w' h => better_at b a true w' HY.out)))
  refine wpQuiet_nil ?_
  intro _ hw'
  obtain ⟨⟨dq, osq⟩, hw''⟩ := hw'
  subst hw''
  clear a0 ka0 a1 ka1 b0 kb0 b1 kb1 c0 kc0 c1 kc1 r0 kr0 r1 kr1 r2 kr2 r3 kr3 r4 kr4 s0 ks0 s1 ks1 s2 ks2 s3 ks3 s4 ks4
  have bq := below_regrown w2 dq osq
  obtain ⟨V3, hV3⟩ : ∃ V3, grow (redrawn w2 dq) osq = V3 := ⟨_, rfl⟩
  rw [hV3] at bq ⊢
  clear hV3 dq osq
  replace Ta := Ta.keep bq
  replace Tb := Tb.keep bq
  replace Tc := Tc.keep bq
  replace Tr := Tr.keep bq
  replace Ts := Ts.keep bq
  replace BB := bstep BB bq
  clear bq
  have a0 := Ta 0 _ rfl
  have a1 := Ta 1 _ rfl
  have b0 := Tb 0 _ rfl
  have b1 := Tb 1 _ rfl
  have c0 := Tc 0 _ rfl
  have c1 := Tc 1 _ rfl
  have r0 := Tr 0 _ rfl
  have r1 := Tr 1 _ rfl
  have r2 := Tr 2 _ rfl
  have r3 := Tr 3 _ rfl
  have r4 := Tr 4 _ rfl
  have s0 := Ts 0 _ rfl
  have s1 := Ts 1 _ rfl
  have s2 := Ts 2 _ rfl
  have s3 := Ts 3 _ rfl
  have s4 := Ts 4 _ rfl
  go_wp2_with fail
  clear a0 a1 b0 b1 c0 c1 r0 r1 r2 r3 r4 s0 s1 s2 s3 s4
  have a0 := Ta 0 _ rfl
  have a1 := Ta 1 _ rfl
  have b0 := Tb 0 _ rfl
  have b1 := Tb 1 _ rfl
  have c0 := Tc 0 _ rfl
  have c1 := Tc 1 _ rfl
  have r0 := Tr 0 _ rfl
  have r1 := Tr 1 _ rfl
  have r2 := Tr 2 _ rfl
  have r3 := Tr 3 _ rfl
  have r4 := Tr 4 _ rfl
  have s0 := Ts 0 _ rfl
  have s1 := Ts 1 _ rfl
  have s2 := Ts 2 _ rfl
  have s3 := Ts 3 _ rfl
  have s4 := Ts 4 _ rfl
  cases hf1 : feasB r a
  ·
    have HF1 := Lib.hid hf1; clear hf1
    go_wp2_with fail
    refine (feas_at r a false V3 HF1.out).mono ?_
    clear a0 a1 b0 b1 c0 c1 r0 r1 r2 r3 r4 s0 s1 s2 s3 s4
    rintro e w4 ⟨rfl, b4⟩
    replace Ta := Ta.keep b4
    replace Tb := Tb.keep b4
    replace Tc := Tc.keep b4
    replace Tr := Tr.keep b4
    replace Ts := Ts.keep b4
    replace BB := bstep BB b4
    clear b4
    have a0 := Ta 0 _ rfl
    have a1 := Ta 1 _ rfl
    have r0 := Tr 0 _ rfl
    have r1 := Tr 1 _ rfl
    have r2 := Tr 2 _ rfl
    have r3 := Tr 3 _ rfl
    have r4 := Tr 4 _ rfl
    have s0 := Ts 0 _ rfl
    have s1 := Ts 1 _ rfl
    have s2 := Ts 2 _ rfl
    have s3 := Ts 3 _ rfl
    have s4 := Ts 4 _ rfl
    go_wp2_with fail
    go_ret
    exact ⟨by simp, BB⟩
  ·
    have HF1 := Lib.hid hf1; clear hf1
    go_wp2_with fail
    refine (feas_at r a true V3 HF1.out).mono ?_
    clear a0 a1 b0 b1 c0 c1 r0 r1 r2 r3 r4 s0 s1 s2 s3 s4
    rintro e w4 ⟨rfl, b4⟩
    replace Ta := Ta.keep b4
    replace Tb := Tb.keep b4
    replace Tc := Tc.keep b4
    replace Tr := Tr.keep b4
    replace Ts := Ts.keep b4
    replace BB := bstep BB b4
    clear b4
    have a0 := Ta 0 _ rfl
    have a1 := Ta 1 _ rfl
    have r0 := Tr 0 _ rfl
    have r1 := Tr 1 _ rfl
    have r2 := Tr 2 _ rfl
    have r3 := Tr 3 _ rfl
    have r4 := Tr 4 _ rfl
    have s0 := Ts 0 _ rfl
    have s1 := Ts 1 _ rfl
    have s2 := Ts 2 _ rfl
    have s3 := Ts 3 _ rfl
    have s4 := Ts 4 _ rfl
    cases hf2 : betterB s.l r.l
    ·
      have hf3 := order_4 r s a
      rw [HF1.out, hf2] at hf3
      have HF3 := Lib.hid (show feasB s a = true by simpa using hf3); clear hf3
      have HF2 := Lib.hid hf2; clear hf2
      go_wp2_with fail
      refine (better_at s.l r.l false w4 HF2.out).mono ?_
      clear a0 a1 r0 r1 r2 r3 r4 s0 s1 s2 s3 s4
      rintro e w5 ⟨rfl, b5⟩
      replace Ta := Ta.keep b5
      replace Tb := Tb.keep b5
      replace Tc := Tc.keep b5
      replace Tr := Tr.keep b5
      replace Ts := Ts.keep b5
      replace BB := bstep BB b5
      clear b5
      have a0 := Ta 0 _ rfl
      have a1 := Ta 1 _ rfl
      have r0 := Tr 0 _ rfl
      have r1 := Tr 1 _ rfl
      have r2 := Tr 2 _ rfl
      have r3 := Tr 3 _ rfl
      have r4 := Tr 4 _ rfl
      have s0 := Ts 0 _ rfl
      have s1 := Ts 1 _ rfl
      have s2 := Ts 2 _ rfl
      have s3 := Ts 3 _ rfl
      have s4 := Ts 4 _ rfl
      go_wp2_with fail
      refine (feas_at s a true w5 HF3.out).mono ?_
      clear a0 a1 r0 r1 r2 r3 r4 s0 s1 s2 s3 s4
      rintro e w6 ⟨rfl, b6⟩
      replace Ta := Ta.keep b6
      replace Tb := Tb.keep b6
      replace Tc := Tc.keep b6
      replace Tr := Tr.keep b6
      replace Ts := Ts.keep b6
      replace BB := bstep BB b6
      clear b6
      go_wp2_with fail
      go_ret
      exact ⟨by simp, BB⟩
    ·
      have HF2 := Lib.hid hf2; clear hf2
      go_wp2_with fail
      refine (better_at s.l r.l true w4 HF2.out).mono ?_
      clear a0 a1 r0 r1 r2 r3 r4 s0 s1 s2 s3 s4
      rintro e w5 ⟨rfl, b5⟩
      replace Ta := Ta.keep b5
      replace Tb := Tb.keep b5
      replace Tc := Tc.keep b5
      replace Tr := Tr.keep b5
      replace Ts := Ts.keep b5
      replace BB := bstep BB b5
      clear b5
      have a0 := Ta 0 _ rfl
      have a1 := Ta 1 _ rfl
      have r0 := Tr 0 _ rfl
      have r1 := Tr 1 _ rfl
      have r2 := Tr 2 _ rfl
      have r3 := Tr 3 _ rfl
      have r4 := Tr 4 _ rfl
      have s0 := Ts 0 _ rfl
      have s1 := Ts 1 _ rfl
      have s2 := Ts 2 _ rfl
      have s3 := Ts 3 _ rfl
      have s4 := Ts 4 _ rfl
      go_wp2_with fail
      go_ret
      exact ⟨by simp, BB⟩
set_option maxRecDepth 100000 in
set_option maxHeartbeats 1000000 in
theorem order_d (a b c : Ds) (r s : Rt) (w : World) (HX : Hid (betterB a b = false)) (HY : Hid (betterB b a = false)) (HE : Hid ((a.s == b.s) = true)) (HE2 : Hid ((a.r == b.r) = true)) : Calls Try.prog 4 #[a.v, b.v, c.v, r.v, s.v] w (Yes true w) := by
  go_enter Try.func4, Try.ntmps4
  have hse : (a.s == b.s) = true := HE.out
  have hre : (a.r == b.r) = true := HE2.out
  go_wp2_with fail
  have Ta := CAt.new (w) [.int .i64 a.s, .int .i64 a.r] 23
  have BB : Below w.heap.size w ((w).alloc (.cells #[.int .i64 a.s, .int .i64 a.r] 23)) := ball (Below.refl _ _) _
  have Tb := CAt.new (w.alloc (.cells #[.int .i64 a.s, .int .i64 a.r] 23)) [.int .i64 b.s, .int .i64 b.r] 23
  replace Ta := Ta.alloc (.cells #[.int .i64 b.s, .int .i64 b.r] 23)
  replace BB := ball BB (.cells #[.int .i64 b.s, .int .i64 b.r] 23)
  have Tc := CAt.new ((w.alloc (.cells #[.int .i64 a.s, .int .i64 a.r] 23)).alloc (.cells #[.int .i64 b.s, .int .i64 b.r] 23)) [.int .i64 c.s, .int .i64 c.r] 23
  replace Ta := Ta.alloc (.cells #[.int .i64 c.s, .int .i64 c.r] 23)
  replace Tb := Tb.alloc (.cells #[.int .i64 c.s, .int .i64 c.r] 23)
  replace BB := ball BB (.cells #[.int .i64 c.s, .int .i64 c.r] 23)
  have Tr := CAt.new (((w.alloc (.cells #[.int .i64 a.s, .int .i64 a.r] 23)).alloc (.cells #[.int .i64 b.s, .int .i64 b.r] 23)).alloc (.cells #[.int .i64 c.s, .int .i64 c.r] 23)) [.int .i64 r.o.s, .int .i64 r.o.r, .int .i64 r.l.s, .int .i64 r.l.r, .int .i64 r.p] 25
  replace Ta := Ta.alloc (.cells #[.int .i64 r.o.s, .int .i64 r.o.r, .int .i64 r.l.s, .int .i64 r.l.r, .int .i64 r.p] 25)
  replace Tb := Tb.alloc (.cells #[.int .i64 r.o.s, .int .i64 r.o.r, .int .i64 r.l.s, .int .i64 r.l.r, .int .i64 r.p] 25)
  replace Tc := Tc.alloc (.cells #[.int .i64 r.o.s, .int .i64 r.o.r, .int .i64 r.l.s, .int .i64 r.l.r, .int .i64 r.p] 25)
  replace BB := ball BB (.cells #[.int .i64 r.o.s, .int .i64 r.o.r, .int .i64 r.l.s, .int .i64 r.l.r, .int .i64 r.p] 25)
  have Ts := CAt.new ((((w.alloc (.cells #[.int .i64 a.s, .int .i64 a.r] 23)).alloc (.cells #[.int .i64 b.s, .int .i64 b.r] 23)).alloc (.cells #[.int .i64 c.s, .int .i64 c.r] 23)).alloc (.cells #[.int .i64 r.o.s, .int .i64 r.o.r, .int .i64 r.l.s, .int .i64 r.l.r, .int .i64 r.p] 25)) [.int .i64 s.o.s, .int .i64 s.o.r, .int .i64 s.l.s, .int .i64 s.l.r, .int .i64 s.p] 25
  replace Ta := Ta.alloc (.cells #[.int .i64 s.o.s, .int .i64 s.o.r, .int .i64 s.l.s, .int .i64 s.l.r, .int .i64 s.p] 25)
  replace Tb := Tb.alloc (.cells #[.int .i64 s.o.s, .int .i64 s.o.r, .int .i64 s.l.s, .int .i64 s.l.r, .int .i64 s.p] 25)
  replace Tc := Tc.alloc (.cells #[.int .i64 s.o.s, .int .i64 s.o.r, .int .i64 s.l.s, .int .i64 s.l.r, .int .i64 s.p] 25)
  replace Tr := Tr.alloc (.cells #[.int .i64 s.o.s, .int .i64 s.o.r, .int .i64 s.l.s, .int .i64 s.l.r, .int .i64 s.p] 25)
  replace BB := ball BB (.cells #[.int .i64 s.o.s, .int .i64 s.o.r, .int .i64 s.l.s, .int .i64 s.l.r, .int .i64 s.p] 25)
  simp only [World.size_alloc, Nat.add_assoc, Nat.reduceAdd] at Tb Tc Tr Ts
  obtain ⟨V1, hV1⟩ : ∃ V1, ((((w.alloc (.cells #[.int .i64 a.s, .int .i64 a.r] 23)).alloc (.cells #[.int .i64 b.s, .int .i64 b.r] 23)).alloc (.cells #[.int .i64 c.s, .int .i64 c.r] 23)).alloc (.cells #[.int .i64 r.o.s, .int .i64 r.o.r, .int .i64 r.l.s, .int .i64 r.l.r, .int .i64 r.p] 25)).alloc (.cells #[.int .i64 s.o.s, .int .i64 s.o.r, .int .i64 s.l.s, .int .i64 s.l.r, .int .i64 s.p] 25) = V1 := ⟨_, rfl⟩
  rw [hV1] at BB Ta Tb Tc Tr Ts ⊢
  clear hV1
  refine (head_any V1).mono ?_
  rintro e w2 ⟨rfl, b2⟩
  replace Ta := Ta.keep b2
  replace Tb := Tb.keep b2
  replace Tc := Tc.keep b2
  replace Tr := Tr.keep b2
  replace Ts := Ts.keep b2
  replace BB := bstep BB b2
  clear b2
  have a0 := Ta 0 _ rfl
  have a1 := Ta 1 _ rfl
  have b0 := Tb 0 _ rfl
  have b1 := Tb 1 _ rfl
  go_upto_region 2 with (fail)
  clear a0 a1 b0 b1
  have a0 := Ta 0 _ rfl
  have ka0 := cell_regrown a0
  have a1 := Ta 1 _ rfl
  have ka1 := cell_regrown a1
  have b0 := Tb 0 _ rfl
  have kb0 := cell_regrown b0
  have b1 := Tb 1 _ rfl
  have kb1 := cell_regrown b1
  have c0 := Tc 0 _ rfl
  have kc0 := cell_regrown c0
  have c1 := Tc 1 _ rfl
  have kc1 := cell_regrown c1
  have r0 := Tr 0 _ rfl
  have kr0 := cell_regrown r0
  have r1 := Tr 1 _ rfl
  have kr1 := cell_regrown r1
  have r2 := Tr 2 _ rfl
  have kr2 := cell_regrown r2
  have r3 := Tr 3 _ rfl
  have kr3 := cell_regrown r3
  have r4 := Tr 4 _ rfl
  have kr4 := cell_regrown r4
  have s0 := Ts 0 _ rfl
  have ks0 := cell_regrown s0
  have s1 := Ts 1 _ rfl
  have ks1 := cell_regrown s1
  have s2 := Ts 2 _ rfl
  have ks2 := cell_regrown s2
  have s3 := Ts 3 _ rfl
  have ks3 := cell_regrown s3
  have s4 := Ts 4 _ rfl
  have ks4 := cell_regrown s4
  refine wp_region_quiet_below (by kernel_rfl) (by kernel_rfl) ?_
  repeat (go_big_quiet_step (first
    | (go_at_call 14; exact rg_of fun w' h => better_at a b false w' HX.out)
    | (go_at_call 14; exact rg_of fun w' h => better_at b a false w' HY.out)))
  refine wpQuiet_nil ?_
  intro _ hw'
  obtain ⟨⟨dq, osq⟩, hw''⟩ := hw'
  subst hw''
  clear a0 ka0 a1 ka1 b0 kb0 b1 kb1 c0 kc0 c1 kc1 r0 kr0 r1 kr1 r2 kr2 r3 kr3 r4 kr4 s0 ks0 s1 ks1 s2 ks2 s3 ks3 s4 ks4
  have bq := below_regrown w2 dq osq
  obtain ⟨V3, hV3⟩ : ∃ V3, grow (redrawn w2 dq) osq = V3 := ⟨_, rfl⟩
  rw [hV3] at bq ⊢
  clear hV3 dq osq
  replace Ta := Ta.keep bq
  replace Tb := Tb.keep bq
  replace Tc := Tc.keep bq
  replace Tr := Tr.keep bq
  replace Ts := Ts.keep bq
  replace BB := bstep BB bq
  clear bq
  have a0 := Ta 0 _ rfl
  have a1 := Ta 1 _ rfl
  have b0 := Tb 0 _ rfl
  have b1 := Tb 1 _ rfl
  have c0 := Tc 0 _ rfl
  have c1 := Tc 1 _ rfl
  have r0 := Tr 0 _ rfl
  have r1 := Tr 1 _ rfl
  have r2 := Tr 2 _ rfl
  have r3 := Tr 3 _ rfl
  have r4 := Tr 4 _ rfl
  have s0 := Ts 0 _ rfl
  have s1 := Ts 1 _ rfl
  have s2 := Ts 2 _ rfl
  have s3 := Ts 3 _ rfl
  have s4 := Ts 4 _ rfl
  go_wp2_with fail
  clear a0 a1 b0 b1 c0 c1 r0 r1 r2 r3 r4 s0 s1 s2 s3 s4
  have a0 := Ta 0 _ rfl
  have a1 := Ta 1 _ rfl
  have b0 := Tb 0 _ rfl
  have b1 := Tb 1 _ rfl
  have c0 := Tc 0 _ rfl
  have c1 := Tc 1 _ rfl
  have r0 := Tr 0 _ rfl
  have r1 := Tr 1 _ rfl
  have r2 := Tr 2 _ rfl
  have r3 := Tr 3 _ rfl
  have r4 := Tr 4 _ rfl
  have s0 := Ts 0 _ rfl
  have s1 := Ts 1 _ rfl
  have s2 := Ts 2 _ rfl
  have s3 := Ts 3 _ rfl
  have s4 := Ts 4 _ rfl
  cases hf1 : feasB r a
  ·
    have HF1 := Lib.hid hf1; clear hf1
    go_wp2_with fail
    refine (feas_at r a false V3 HF1.out).mono ?_
    clear a0 a1 b0 b1 c0 c1 r0 r1 r2 r3 r4 s0 s1 s2 s3 s4
    rintro e w4 ⟨rfl, b4⟩
    replace Ta := Ta.keep b4
    replace Tb := Tb.keep b4
    replace Tc := Tc.keep b4
    replace Tr := Tr.keep b4
    replace Ts := Ts.keep b4
    replace BB := bstep BB b4
    clear b4
    have a0 := Ta 0 _ rfl
    have a1 := Ta 1 _ rfl
    have r0 := Tr 0 _ rfl
    have r1 := Tr 1 _ rfl
    have r2 := Tr 2 _ rfl
    have r3 := Tr 3 _ rfl
    have r4 := Tr 4 _ rfl
    have s0 := Ts 0 _ rfl
    have s1 := Ts 1 _ rfl
    have s2 := Ts 2 _ rfl
    have s3 := Ts 3 _ rfl
    have s4 := Ts 4 _ rfl
    go_wp2_with fail
    go_ret
    exact ⟨by simp, BB⟩
  ·
    have HF1 := Lib.hid hf1; clear hf1
    go_wp2_with fail
    refine (feas_at r a true V3 HF1.out).mono ?_
    clear a0 a1 b0 b1 c0 c1 r0 r1 r2 r3 r4 s0 s1 s2 s3 s4
    rintro e w4 ⟨rfl, b4⟩
    replace Ta := Ta.keep b4
    replace Tb := Tb.keep b4
    replace Tc := Tc.keep b4
    replace Tr := Tr.keep b4
    replace Ts := Ts.keep b4
    replace BB := bstep BB b4
    clear b4
    have a0 := Ta 0 _ rfl
    have a1 := Ta 1 _ rfl
    have r0 := Tr 0 _ rfl
    have r1 := Tr 1 _ rfl
    have r2 := Tr 2 _ rfl
    have r3 := Tr 3 _ rfl
    have r4 := Tr 4 _ rfl
    have s0 := Ts 0 _ rfl
    have s1 := Ts 1 _ rfl
    have s2 := Ts 2 _ rfl
    have s3 := Ts 3 _ rfl
    have s4 := Ts 4 _ rfl
    cases hf2 : betterB s.l r.l
    ·
      have hf3 := order_4 r s a
      rw [HF1.out, hf2] at hf3
      have HF3 := Lib.hid (show feasB s a = true by simpa using hf3); clear hf3
      have HF2 := Lib.hid hf2; clear hf2
      go_wp2_with fail
      refine (better_at s.l r.l false w4 HF2.out).mono ?_
      clear a0 a1 r0 r1 r2 r3 r4 s0 s1 s2 s3 s4
      rintro e w5 ⟨rfl, b5⟩
      replace Ta := Ta.keep b5
      replace Tb := Tb.keep b5
      replace Tc := Tc.keep b5
      replace Tr := Tr.keep b5
      replace Ts := Ts.keep b5
      replace BB := bstep BB b5
      clear b5
      have a0 := Ta 0 _ rfl
      have a1 := Ta 1 _ rfl
      have r0 := Tr 0 _ rfl
      have r1 := Tr 1 _ rfl
      have r2 := Tr 2 _ rfl
      have r3 := Tr 3 _ rfl
      have r4 := Tr 4 _ rfl
      have s0 := Ts 0 _ rfl
      have s1 := Ts 1 _ rfl
      have s2 := Ts 2 _ rfl
      have s3 := Ts 3 _ rfl
      have s4 := Ts 4 _ rfl
      go_wp2_with fail
      refine (feas_at s a true w5 HF3.out).mono ?_
      clear a0 a1 r0 r1 r2 r3 r4 s0 s1 s2 s3 s4
      rintro e w6 ⟨rfl, b6⟩
      replace Ta := Ta.keep b6
      replace Tb := Tb.keep b6
      replace Tc := Tc.keep b6
      replace Tr := Tr.keep b6
      replace Ts := Ts.keep b6
      replace BB := bstep BB b6
      clear b6
      go_wp2_with fail
      go_ret
      exact ⟨by simp, BB⟩
    ·
      have HF2 := Lib.hid hf2; clear hf2
      go_wp2_with fail
      refine (better_at s.l r.l true w4 HF2.out).mono ?_
      clear a0 a1 r0 r1 r2 r3 r4 s0 s1 s2 s3 s4
      rintro e w5 ⟨rfl, b5⟩
      replace Ta := Ta.keep b5
      replace Tb := Tb.keep b5
      replace Tc := Tc.keep b5
      replace Tr := Tr.keep b5
      replace Ts := Ts.keep b5
      replace BB := bstep BB b5
      clear b5
      have a0 := Ta 0 _ rfl
      have a1 := Ta 1 _ rfl
      have r0 := Tr 0 _ rfl
      have r1 := Tr 1 _ rfl
      have r2 := Tr 2 _ rfl
      have r3 := Tr 3 _ rfl
      have r4 := Tr 4 _ rfl
      have s0 := Ts 0 _ rfl
      have s1 := Ts 1 _ rfl
      have s2 := Ts 2 _ rfl
      have s3 := Ts 3 _ rfl
      have s4 := Ts 4 _ rfl
      go_wp2_with fail
      go_ret
      exact ⟨by simp, BB⟩
theorem lawOrder (a b c : Ds) (r s : Rt) (w : World) : Calls Try.prog 4 #[a.v, b.v, c.v, r.v, s.v] w (Yes true w) := by
  have h1 := order_1 a b
  have h2 := order_2 a b
  cases hx : betterB a b
  · cases hy : betterB b a
    · rw [hx, hy] at h2
      have e : a = b := by simpa using h2
      exact order_d a b c r s w (Lib.hid hx) (Lib.hid hy) (Lib.hid (by simp [e])) (Lib.hid (by simp [e]))
    · rw [hx, hy] at h2
      have e : ¬ a = b := by simpa using h2
      by_cases hs : a.s = b.s
      · have hr : ¬ a.r = b.r := fun hr => e (by cases a; cases b; simp_all)
        exact order_c1 a b c r s w (Lib.hid hx) (Lib.hid hy) (Lib.hid (by simp [hs])) (Lib.hid (by simp [hr]))
      · exact order_c0 a b c r s w (Lib.hid hx) (Lib.hid hy) (Lib.hid (by simp [hs]))
  · have hy : betterB b a = false := by rw [hx] at h1; simpa using h1
    rw [hx, hy] at h2
    have e : ¬ a = b := by simpa using h2
    cases hbc : betterB b c
    · by_cases hs : a.s = b.s
      · have hr : ¬ a.r = b.r := fun hr => e (by cases a; cases b; simp_all)
        exact order_b1 a b c r s w (Lib.hid hx) (Lib.hid hy) (Lib.hid (by simp [hs])) (Lib.hid (by simp [hr])) (Lib.hid hbc)
      · exact order_b0 a b c r s w (Lib.hid hx) (Lib.hid hy) (Lib.hid (by simp [hs])) (Lib.hid hbc)
    · have hac := order_3 hx hbc
      by_cases hs : a.s = b.s
      · have hr : ¬ a.r = b.r := fun hr => e (by cases a; cases b; simp_all)
        exact order_a1 a b c r s w (Lib.hid hx) (Lib.hid hy) (Lib.hid (by simp [hs])) (Lib.hid (by simp [hr])) (Lib.hid hbc) (Lib.hid hac)
      · exact order_a0 a b c r s w (Lib.hid hx) (Lib.hid hy) (Lib.hid (by simp [hs])) (Lib.hid hbc) (Lib.hid hac)
end Go.Proofs.Ytbonchnhngaicaa
