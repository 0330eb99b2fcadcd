/- Proved: that the laws TrickleMatchesReference, TrickleValid and TrickleSuppressed return true for every input. Conditions: the table of steps holds its numbers. -/
import Derived.Test.YteeajkopigdblaaDoorW10
namespace Go.Proofs.YteeajkopigdblaaDoor
open Go.RowKit Go.Sort Go.BigFrame Go.Proofs.YteeajkopigdblaaDoor.K
set_option linter.unusedVariables false
set_option linter.unusedSimpArgs false
attribute [local go_sem] cell_alloc_old
abbrev Fine (w : World) (e : Ending) (w' : World) : Prop := e = .returned (.bool true) ∧ Below w.heap.size w w'

set_option maxRecDepth 100000 in
set_option maxHeartbeats 4000000 in
theorem lawMatches (t : Tk) (s n : Int) (w : World) (hT : Tab w) : Calls Tryd.prog 7 #[t.v, .int .i64 s, .int .i64 n] w (Fine w) := by
  obtain ⟨u, hu⟩ : ∃ u, newV s n = u := ⟨_, rfl⟩
  have Hu := Lib.hid hu; clear hu
  obtain ⟨e1, he1⟩ : ∃ e1, errT s n = e1 := ⟨_, rfl⟩
  have He1 := Lib.hid he1; clear he1
  obtain ⟨x, hx⟩ : ∃ x, tickT t n = x := ⟨_, rfl⟩
  have Hx := Lib.hid hx; clear hx
  obtain ⟨y, hy⟩ : ∃ y, tickB t n = y := ⟨_, rfl⟩
  have Hy := Lib.hid hy; clear hy
  obtain ⟨r, hr⟩ : ∃ r, resetV t n = r := ⟨_, rfl⟩
  have Hr := Lib.hid hr; clear hr
  obtain ⟨q, hq⟩ : ∃ q, hearV t = q := ⟨_, rfl⟩
  have Hq := Lib.hid hq; clear hq
  go_enter Tryd.func7, Tryd.ntmps7
  go_wp2_with fail
  have Tt := TkAt.new w t 23
  have BB : Below w.heap.size w (w.alloc (.cells #[.int .i64 t.i, .int .i64 t.b, .int .i64 t.f, .int .i64 t.c, .int .i64 t.s] 23)) := ball (Below.refl _ _) _
  obtain ⟨V1, hV1⟩ : ∃ V1, w.alloc (.cells #[.int .i64 t.i, .int .i64 t.b, .int .i64 t.f, .int .i64 t.c, .int .i64 t.s] 23) = V1 := ⟨_, rfl⟩
  rw [hV1] at Tt BB  ⊢
  clear hV1
  refine (head_any _ (hT.keep BB)).mono ?_
  rintro e w2 ⟨rfl, b2⟩
  have Tt := Tt.keep b2
  replace BB := bstep BB b2
  clear b2
  obtain ⟨t0, t1, t2, t3, t4⟩ := id Tt
  go_wp2_with fail
  refine (new_at s n e1 u _ (hT.keep BB) Hu.out He1.out).mono ?_
  clear t0 t1 t2 t3 t4
  rintro e w3 ⟨rfl, b3⟩
  have Tt := Tt.keep b3
  replace BB := bstep BB b3
  clear b3
  obtain ⟨t0, t1, t2, t3, t4⟩ := id Tt
  go_wp2_with fail
  clear t0 t1 t2 t3 t4
  have Ta := TkAt.new w3 u 23
  replace Tt := Tt.alloc (.cells #[.int .i64 u.i, .int .i64 u.b, .int .i64 u.f, .int .i64 u.c, .int .i64 u.s] 23)
  replace BB := ball BB (.cells #[.int .i64 u.i, .int .i64 u.b, .int .i64 u.f, .int .i64 u.c, .int .i64 u.s] 23)
  obtain ⟨V4, hV4⟩ : ∃ V4, w3.alloc (.cells #[.int .i64 u.i, .int .i64 u.b, .int .i64 u.f, .int .i64 u.c, .int .i64 u.s] 23) = V4 := ⟨_, rfl⟩
  rw [hV4] at Ta BB Tt ⊢
  clear hV4
  obtain ⟨ka, hka⟩ : ∃ ka, w3.heap.size = ka := ⟨_, rfl⟩
  rw [hka] at Ta ⊢
  clear hka
  refine (rnew_at s n e1 u _ Hu.out He1.out).mono ?_
  rintro e w5 ⟨rfl, b5⟩
  have Tt := Tt.keep b5
  have Ta := Ta.keep b5
  replace BB := bstep BB b5
  clear b5
  obtain ⟨t0, t1, t2, t3, t4⟩ := id Tt
  obtain ⟨a0, a1, a2, a3, a4⟩ := id Ta
  go_wp2_with fail
  clear t0 t1 t2 t3 t4 a0 a1 a2 a3 a4
  have Tb := TkAt.new w5 u 23
  replace Tt := Tt.alloc (.cells #[.int .i64 u.i, .int .i64 u.b, .int .i64 u.f, .int .i64 u.c, .int .i64 u.s] 23)
  replace Ta := Ta.alloc (.cells #[.int .i64 u.i, .int .i64 u.b, .int .i64 u.f, .int .i64 u.c, .int .i64 u.s] 23)
  replace BB := ball BB (.cells #[.int .i64 u.i, .int .i64 u.b, .int .i64 u.f, .int .i64 u.c, .int .i64 u.s] 23)
  obtain ⟨V6, hV6⟩ : ∃ V6, w5.alloc (.cells #[.int .i64 u.i, .int .i64 u.b, .int .i64 u.f, .int .i64 u.c, .int .i64 u.s] 23) = V6 := ⟨_, rfl⟩
  rw [hV6] at Tb BB Tt Ta ⊢
  clear hV6
  obtain ⟨kb, hkb⟩ : ∃ kb, w5.heap.size = kb := ⟨_, rfl⟩
  rw [hkb] at Tb ⊢
  clear hkb
  refine (tick_at t x n y _ (hT.keep BB) Hx.out Hy.out).mono ?_
  rintro e w7 ⟨rfl, b7⟩
  have Tt := Tt.keep b7
  have Ta := Ta.keep b7
  have Tb := Tb.keep b7
  replace BB := bstep BB b7
  clear b7
  obtain ⟨t0, t1, t2, t3, t4⟩ := id Tt
  obtain ⟨a0, a1, a2, a3, a4⟩ := id Ta
  obtain ⟨b0, b1, b2, b3, b4⟩ := id Tb
  go_wp2_with fail
  clear t0 t1 t2 t3 t4 a0 a1 a2 a3 a4 b0 b1 b2 b3 b4
  have Tc := TkAt.new w7 x 23
  replace Tt := Tt.alloc (.cells #[.int .i64 x.i, .int .i64 x.b, .int .i64 x.f, .int .i64 x.c, .int .i64 x.s] 23)
  replace Ta := Ta.alloc (.cells #[.int .i64 x.i, .int .i64 x.b, .int .i64 x.f, .int .i64 x.c, .int .i64 x.s] 23)
  replace Tb := Tb.alloc (.cells #[.int .i64 x.i, .int .i64 x.b, .int .i64 x.f, .int .i64 x.c, .int .i64 x.s] 23)
  replace BB := ball BB (.cells #[.int .i64 x.i, .int .i64 x.b, .int .i64 x.f, .int .i64 x.c, .int .i64 x.s] 23)
  obtain ⟨V8, hV8⟩ : ∃ V8, w7.alloc (.cells #[.int .i64 x.i, .int .i64 x.b, .int .i64 x.f, .int .i64 x.c, .int .i64 x.s] 23) = V8 := ⟨_, rfl⟩
  rw [hV8] at Tc BB Tt Ta Tb ⊢
  clear hV8
  obtain ⟨kc, hkc⟩ : ∃ kc, w7.heap.size = kc := ⟨_, rfl⟩
  rw [hkc] at Tc ⊢
  clear hkc
  refine (rtick_at t x n y _ Hx.out Hy.out).mono ?_
  rintro e w9 ⟨rfl, b9⟩
  have Tt := Tt.keep b9
  have Ta := Ta.keep b9
  have Tb := Tb.keep b9
  have Tc := Tc.keep b9
  replace BB := bstep BB b9
  clear b9
  obtain ⟨t0, t1, t2, t3, t4⟩ := id Tt
  obtain ⟨a0, a1, a2, a3, a4⟩ := id Ta
  obtain ⟨b0, b1, b2, b3, b4⟩ := id Tb
  obtain ⟨c0, c1, c2, c3, c4⟩ := id Tc
  go_upto_region 6 with (fail)
  clear t0 t1 t2 t3 t4 a0 a1 a2 a3 a4 b0 b1 b2 b3 b4 c0 c1 c2 c3 c4
  have Td := TkAt.new w9 x 23
  replace Tt := Tt.alloc (.cells #[.int .i64 x.i, .int .i64 x.b, .int .i64 x.f, .int .i64 x.c, .int .i64 x.s] 23)
  replace Ta := Ta.alloc (.cells #[.int .i64 x.i, .int .i64 x.b, .int .i64 x.f, .int .i64 x.c, .int .i64 x.s] 23)
  replace Tb := Tb.alloc (.cells #[.int .i64 x.i, .int .i64 x.b, .int .i64 x.f, .int .i64 x.c, .int .i64 x.s] 23)
  replace Tc := Tc.alloc (.cells #[.int .i64 x.i, .int .i64 x.b, .int .i64 x.f, .int .i64 x.c, .int .i64 x.s] 23)
  replace BB := ball BB (.cells #[.int .i64 x.i, .int .i64 x.b, .int .i64 x.f, .int .i64 x.c, .int .i64 x.s] 23)
  obtain ⟨V10, hV10⟩ : ∃ V10, w9.alloc (.cells #[.int .i64 x.i, .int .i64 x.b, .int .i64 x.f, .int .i64 x.c, .int .i64 x.s] 23) = V10 := ⟨_, rfl⟩
  rw [hV10] at Td BB Tt Ta Tb Tc ⊢
  clear hV10
  obtain ⟨kd, hkd⟩ : ∃ kd, w9.heap.size = kd := ⟨_, rfl⟩
  rw [hkd] at Td ⊢
  clear hkd
  replace hT := hT.keep BB
  obtain ⟨t0, t1, t2, t3, t4⟩ := id Tt
  obtain ⟨a0, a1, a2, a3, a4⟩ := id Ta
  obtain ⟨b0, b1, b2, b3, b4⟩ := id Tb
  obtain ⟨c0, c1, c2, c3, c4⟩ := id Tc
  obtain ⟨d0, d1, d2, d3, d4⟩ := id Td
  have kt0 := cell_regrown t0
  have kt1 := cell_regrown t1
  have kt2 := cell_regrown t2
  have kt3 := cell_regrown t3
  have kt4 := cell_regrown t4
  have ka0 := cell_regrown a0
  have ka1 := cell_regrown a1
  have ka2 := cell_regrown a2
  have ka3 := cell_regrown a3
  have ka4 := cell_regrown a4
  have kb0 := cell_regrown b0
  have kb1 := cell_regrown b1
  have kb2 := cell_regrown b2
  have kb3 := cell_regrown b3
  have kb4 := cell_regrown b4
  have kc0 := cell_regrown c0
  have kc1 := cell_regrown c1
  have kc2 := cell_regrown c2
  have kc3 := cell_regrown c3
  have kc4 := cell_regrown c4
  have kd0 := cell_regrown d0
  have kd1 := cell_regrown d1
  have kd2 := cell_regrown d2
  have kd3 := cell_regrown d3
  have kd4 := cell_regrown d4
  refine wp_region_quiet_below (by kernel_rfl) (by kernel_rfl) ?_
  repeat (go_big_quiet_step (first
    | (go_at_call 20; exact rg_of fun w' h => reset_at t r n w' (hT.keep h) Hr.out)
    | (go_at_call 21; exact rg_of fun w' h => rreset_at t r n w' (hT.keep h) Hr.out)
    | (go_at_call 15; exact rg_of fun w' h => hear_at t q w' Hq.out)
    | (go_at_call 22; exact rg_of fun w' h => rhear_at t q w' Hq.out)))
  refine wpQuiet_nil ?_
  intro _ hw'
  obtain ⟨⟨dq, osq⟩, hw''⟩ := hw'
  subst hw''
  go_wp2_with fail
  go_ret
  exact ⟨by simp, bstep BB (below_regrown _ dq osq)⟩
set_option maxRecDepth 100000 in
set_option maxHeartbeats 4000000 in
theorem lawValid (t : Tk) (n : Int) (w : World) (hT : Tab w) : Calls Tryd.prog 8 #[t.v, .int .i64 n] w (Fine w) := by
  cases hv : validT t
  · have HV := Lib.hid hv; clear hv
    go_enter Tryd.func8, Tryd.ntmps8
    go_wp2_with fail
    have Tt := TkAt.new w t 23
    have BB : Below w.heap.size w (w.alloc (.cells #[.int .i64 t.i, .int .i64 t.b, .int .i64 t.f, .int .i64 t.c, .int .i64 t.s] 23)) := ball (Below.refl _ _) _
    obtain ⟨V1, hV1⟩ : ∃ V1, w.alloc (.cells #[.int .i64 t.i, .int .i64 t.b, .int .i64 t.f, .int .i64 t.c, .int .i64 t.s] 23) = V1 := ⟨_, rfl⟩
    rw [hV1] at Tt BB  ⊢
    clear hV1
    refine (head_any _ (hT.keep BB)).mono ?_
    rintro e w2 ⟨rfl, b2⟩
    have Tt := Tt.keep b2
    replace BB := bstep BB b2
    clear b2
    obtain ⟨t0, t1, t2, t3, t4⟩ := id Tt
    go_wp2_with fail
    refine (rvalid_at t false _ HV.out).mono ?_
    clear t0 t1 t2 t3 t4
    rintro e w3 ⟨rfl, b3⟩
    have Tt := Tt.keep b3
    replace BB := bstep BB b3
    clear b3
    go_wp2_with fail
    go_ret
    exact ⟨rfl, BB⟩
  · have hV := validT_iff.1 hv
    have hx := tick_valid hV n; have hr := reset_valid hV n; have hq := hear_valid hV
    obtain ⟨x, hxe⟩ : ∃ x, tickT t n = x := ⟨_, rfl⟩
    obtain ⟨y, hye⟩ : ∃ y, tickB t n = y := ⟨_, rfl⟩
    obtain ⟨r, hre⟩ : ∃ r, resetV t n = r := ⟨_, rfl⟩
    obtain ⟨q, hqe⟩ : ∃ q, hearV t = q := ⟨_, rfl⟩
    rw [hxe] at hx; rw [hre] at hr; rw [hqe] at hq
    have HV := Lib.hid hv
    have VX := Lib.hid (validT_iff.2 hx.1); have VR := Lib.hid (validT_iff.2 hr.1); have VQ := Lib.hid (validT_iff.2 hq.1)
    have SX := Lib.hid hx.2; have SR := Lib.hid hr.2; have SQ := Lib.hid hq.2.1
    have Hx := Lib.hid hxe; have Hy := Lib.hid hye; have Hr := Lib.hid hre; have Hq := Lib.hid hqe
    obtain ⟨xi, xb, xf, xc, xs⟩ := x; obtain ⟨ri, rb, rf, rc, rs⟩ := r; obtain ⟨qi, qb, qf, qc, qs⟩ := q
    have sx := SX.out; have sr := SR.out; have sq := SQ.out
    simp only at sx sr sq
    subst sx sr sq
    clear hv hV hx hr hq hxe hye hre hqe SX SR SQ
    go_enter Tryd.func8, Tryd.ntmps8
    go_wp2_with fail
    have Tt := TkAt.new w t 23
    have BB : Below w.heap.size w (w.alloc (.cells #[.int .i64 t.i, .int .i64 t.b, .int .i64 t.f, .int .i64 t.c, .int .i64 t.s] 23)) := ball (Below.refl _ _) _
    obtain ⟨V1, hV1⟩ : ∃ V1, w.alloc (.cells #[.int .i64 t.i, .int .i64 t.b, .int .i64 t.f, .int .i64 t.c, .int .i64 t.s] 23) = V1 := ⟨_, rfl⟩
    rw [hV1] at Tt BB  ⊢
    clear hV1
    refine (head_any _ (hT.keep BB)).mono ?_
    rintro e w2 ⟨rfl, b2⟩
    have Tt := Tt.keep b2
    replace BB := bstep BB b2
    clear b2
    obtain ⟨t0, t1, t2, t3, t4⟩ := id Tt
    go_wp2_with fail
    refine (rvalid_at t true _ HV.out).mono ?_
    clear t0 t1 t2 t3 t4
    rintro e w3 ⟨rfl, b3⟩
    have Tt := Tt.keep b3
    replace BB := bstep BB b3
    clear b3
    obtain ⟨t0, t1, t2, t3, t4⟩ := id Tt
    go_wp2_with fail
    refine (tick_at t _ n y _ (hT.keep BB) Hx.out Hy.out).mono ?_
    clear t0 t1 t2 t3 t4
    rintro e w4 ⟨rfl, b4⟩
    have Tt := Tt.keep b4
    replace BB := bstep BB b4
    clear b4
    obtain ⟨t0, t1, t2, t3, t4⟩ := id Tt
    go_wp2_with fail
    clear t0 t1 t2 t3 t4
    have Tx := TkAt.new w4 (⟨xi, xb, xf, xc, t.s⟩ : Tk) 23
    replace Tt := Tt.alloc (.cells #[.int .i64 (⟨xi, xb, xf, xc, t.s⟩ : Tk).i, .int .i64 (⟨xi, xb, xf, xc, t.s⟩ : Tk).b, .int .i64 (⟨xi, xb, xf, xc, t.s⟩ : Tk).f, .int .i64 (⟨xi, xb, xf, xc, t.s⟩ : Tk).c, .int .i64 (⟨xi, xb, xf, xc, t.s⟩ : Tk).s] 23)
    replace BB := ball BB (.cells #[.int .i64 (⟨xi, xb, xf, xc, t.s⟩ : Tk).i, .int .i64 (⟨xi, xb, xf, xc, t.s⟩ : Tk).b, .int .i64 (⟨xi, xb, xf, xc, t.s⟩ : Tk).f, .int .i64 (⟨xi, xb, xf, xc, t.s⟩ : Tk).c, .int .i64 (⟨xi, xb, xf, xc, t.s⟩ : Tk).s] 23)
    obtain ⟨V5, hV5⟩ : ∃ V5, w4.alloc (.cells #[.int .i64 (⟨xi, xb, xf, xc, t.s⟩ : Tk).i, .int .i64 (⟨xi, xb, xf, xc, t.s⟩ : Tk).b, .int .i64 (⟨xi, xb, xf, xc, t.s⟩ : Tk).f, .int .i64 (⟨xi, xb, xf, xc, t.s⟩ : Tk).c, .int .i64 (⟨xi, xb, xf, xc, t.s⟩ : Tk).s] 23) = V5 := ⟨_, rfl⟩
    rw [hV5] at Tx BB Tt ⊢
    clear hV5
    obtain ⟨kx, hkx⟩ : ∃ kx, w4.heap.size = kx := ⟨_, rfl⟩
    rw [hkx] at Tx ⊢
    clear hkx
    refine (reset_at t _ n _ (hT.keep BB) Hr.out).mono ?_
    rintro e w6 ⟨rfl, b6⟩
    have Tt := Tt.keep b6
    have Tx := Tx.keep b6
    replace BB := bstep BB b6
    clear b6
    obtain ⟨t0, t1, t2, t3, t4⟩ := id Tt
    obtain ⟨x0, x1, x2, x3, x4⟩ := id Tx
    go_wp2_with fail
    clear t0 t1 t2 t3 t4 x0 x1 x2 x3 x4
    have Tr := TkAt.new w6 (⟨ri, rb, rf, rc, t.s⟩ : Tk) 23
    replace Tt := Tt.alloc (.cells #[.int .i64 (⟨ri, rb, rf, rc, t.s⟩ : Tk).i, .int .i64 (⟨ri, rb, rf, rc, t.s⟩ : Tk).b, .int .i64 (⟨ri, rb, rf, rc, t.s⟩ : Tk).f, .int .i64 (⟨ri, rb, rf, rc, t.s⟩ : Tk).c, .int .i64 (⟨ri, rb, rf, rc, t.s⟩ : Tk).s] 23)
    replace Tx := Tx.alloc (.cells #[.int .i64 (⟨ri, rb, rf, rc, t.s⟩ : Tk).i, .int .i64 (⟨ri, rb, rf, rc, t.s⟩ : Tk).b, .int .i64 (⟨ri, rb, rf, rc, t.s⟩ : Tk).f, .int .i64 (⟨ri, rb, rf, rc, t.s⟩ : Tk).c, .int .i64 (⟨ri, rb, rf, rc, t.s⟩ : Tk).s] 23)
    replace BB := ball BB (.cells #[.int .i64 (⟨ri, rb, rf, rc, t.s⟩ : Tk).i, .int .i64 (⟨ri, rb, rf, rc, t.s⟩ : Tk).b, .int .i64 (⟨ri, rb, rf, rc, t.s⟩ : Tk).f, .int .i64 (⟨ri, rb, rf, rc, t.s⟩ : Tk).c, .int .i64 (⟨ri, rb, rf, rc, t.s⟩ : Tk).s] 23)
    obtain ⟨V7, hV7⟩ : ∃ V7, w6.alloc (.cells #[.int .i64 (⟨ri, rb, rf, rc, t.s⟩ : Tk).i, .int .i64 (⟨ri, rb, rf, rc, t.s⟩ : Tk).b, .int .i64 (⟨ri, rb, rf, rc, t.s⟩ : Tk).f, .int .i64 (⟨ri, rb, rf, rc, t.s⟩ : Tk).c, .int .i64 (⟨ri, rb, rf, rc, t.s⟩ : Tk).s] 23) = V7 := ⟨_, rfl⟩
    rw [hV7] at Tr BB Tt Tx ⊢
    clear hV7
    obtain ⟨kr, hkr⟩ : ∃ kr, w6.heap.size = kr := ⟨_, rfl⟩
    rw [hkr] at Tr ⊢
    clear hkr
    refine (hear_at t _ _ Hq.out).mono ?_
    rintro e w8 ⟨rfl, b8⟩
    have Tt := Tt.keep b8
    have Tx := Tx.keep b8
    have Tr := Tr.keep b8
    replace BB := bstep BB b8
    clear b8
    obtain ⟨t0, t1, t2, t3, t4⟩ := id Tt
    obtain ⟨x0, x1, x2, x3, x4⟩ := id Tx
    obtain ⟨r0, r1, r2, r3, r4⟩ := id Tr
    go_wp2_with fail
    clear t0 t1 t2 t3 t4 x0 x1 x2 x3 x4 r0 r1 r2 r3 r4
    have Tq := TkAt.new w8 (⟨qi, qb, qf, qc, t.s⟩ : Tk) 23
    replace Tt := Tt.alloc (.cells #[.int .i64 (⟨qi, qb, qf, qc, t.s⟩ : Tk).i, .int .i64 (⟨qi, qb, qf, qc, t.s⟩ : Tk).b, .int .i64 (⟨qi, qb, qf, qc, t.s⟩ : Tk).f, .int .i64 (⟨qi, qb, qf, qc, t.s⟩ : Tk).c, .int .i64 (⟨qi, qb, qf, qc, t.s⟩ : Tk).s] 23)
    replace Tx := Tx.alloc (.cells #[.int .i64 (⟨qi, qb, qf, qc, t.s⟩ : Tk).i, .int .i64 (⟨qi, qb, qf, qc, t.s⟩ : Tk).b, .int .i64 (⟨qi, qb, qf, qc, t.s⟩ : Tk).f, .int .i64 (⟨qi, qb, qf, qc, t.s⟩ : Tk).c, .int .i64 (⟨qi, qb, qf, qc, t.s⟩ : Tk).s] 23)
    replace Tr := Tr.alloc (.cells #[.int .i64 (⟨qi, qb, qf, qc, t.s⟩ : Tk).i, .int .i64 (⟨qi, qb, qf, qc, t.s⟩ : Tk).b, .int .i64 (⟨qi, qb, qf, qc, t.s⟩ : Tk).f, .int .i64 (⟨qi, qb, qf, qc, t.s⟩ : Tk).c, .int .i64 (⟨qi, qb, qf, qc, t.s⟩ : Tk).s] 23)
    replace BB := ball BB (.cells #[.int .i64 (⟨qi, qb, qf, qc, t.s⟩ : Tk).i, .int .i64 (⟨qi, qb, qf, qc, t.s⟩ : Tk).b, .int .i64 (⟨qi, qb, qf, qc, t.s⟩ : Tk).f, .int .i64 (⟨qi, qb, qf, qc, t.s⟩ : Tk).c, .int .i64 (⟨qi, qb, qf, qc, t.s⟩ : Tk).s] 23)
    obtain ⟨V9, hV9⟩ : ∃ V9, w8.alloc (.cells #[.int .i64 (⟨qi, qb, qf, qc, t.s⟩ : Tk).i, .int .i64 (⟨qi, qb, qf, qc, t.s⟩ : Tk).b, .int .i64 (⟨qi, qb, qf, qc, t.s⟩ : Tk).f, .int .i64 (⟨qi, qb, qf, qc, t.s⟩ : Tk).c, .int .i64 (⟨qi, qb, qf, qc, t.s⟩ : Tk).s] 23) = V9 := ⟨_, rfl⟩
    rw [hV9] at Tq BB Tt Tx Tr ⊢
    clear hV9
    obtain ⟨kq, hkq⟩ : ∃ kq, w8.heap.size = kq := ⟨_, rfl⟩
    rw [hkq] at Tq ⊢
    clear hkq
    refine (rvalid_at (⟨xi, xb, xf, xc, t.s⟩ : Tk) true _ VX.out).mono ?_
    rintro e w10 ⟨rfl, b10⟩
    have Tt := Tt.keep b10
    have Tx := Tx.keep b10
    have Tr := Tr.keep b10
    have Tq := Tq.keep b10
    replace BB := bstep BB b10
    clear b10
    obtain ⟨t0, t1, t2, t3, t4⟩ := id Tt
    obtain ⟨x0, x1, x2, x3, x4⟩ := id Tx
    obtain ⟨r0, r1, r2, r3, r4⟩ := id Tr
    obtain ⟨q0, q1, q2, q3, q4⟩ := id Tq
    go_wp2_with fail
    refine (rvalid_at (⟨ri, rb, rf, rc, t.s⟩ : Tk) true _ VR.out).mono ?_
    clear t0 t1 t2 t3 t4 x0 x1 x2 x3 x4 r0 r1 r2 r3 r4 q0 q1 q2 q3 q4
    rintro e w11 ⟨rfl, b11⟩
    have Tt := Tt.keep b11
    have Tx := Tx.keep b11
    have Tr := Tr.keep b11
    have Tq := Tq.keep b11
    replace BB := bstep BB b11
    clear b11
    obtain ⟨t0, t1, t2, t3, t4⟩ := id Tt
    obtain ⟨x0, x1, x2, x3, x4⟩ := id Tx
    obtain ⟨r0, r1, r2, r3, r4⟩ := id Tr
    obtain ⟨q0, q1, q2, q3, q4⟩ := id Tq
    go_wp2_with fail
    refine (rvalid_at (⟨qi, qb, qf, qc, t.s⟩ : Tk) true _ VQ.out).mono ?_
    clear t0 t1 t2 t3 t4 x0 x1 x2 x3 x4 r0 r1 r2 r3 r4 q0 q1 q2 q3 q4
    rintro e w12 ⟨rfl, b12⟩
    have Tt := Tt.keep b12
    have Tx := Tx.keep b12
    have Tr := Tr.keep b12
    have Tq := Tq.keep b12
    replace BB := bstep BB b12
    clear b12
    obtain ⟨t0, t1, t2, t3, t4⟩ := id Tt
    obtain ⟨x0, x1, x2, x3, x4⟩ := id Tx
    obtain ⟨r0, r1, r2, r3, r4⟩ := id Tr
    obtain ⟨q0, q1, q2, q3, q4⟩ := id Tq
    simp only at x0 x1 x2 x3 x4 r0 r1 r2 r3 r4 q0 q1 q2 q3 q4
    go_wp2_with fail
    go_ret
    exact ⟨by simp, BB⟩
set_option maxRecDepth 100000 in
set_option maxHeartbeats 4000000 in
theorem lawSuppressed (t : Tk) (n : Int) (w : World) (hT : Tab w) : Calls Tryd.prog 5 #[t.v, .int .i64 n] w (Fine w) := by
  cases hv : validT t
  · have HV := Lib.hid hv; clear hv
    go_enter Tryd.func5, Tryd.ntmps5
    go_wp2_with fail
    have Tt := TkAt.new w t 23
    have BB : Below w.heap.size w (w.alloc (.cells #[.int .i64 t.i, .int .i64 t.b, .int .i64 t.f, .int .i64 t.c, .int .i64 t.s] 23)) := ball (Below.refl _ _) _
    obtain ⟨V1, hV1⟩ : ∃ V1, w.alloc (.cells #[.int .i64 t.i, .int .i64 t.b, .int .i64 t.f, .int .i64 t.c, .int .i64 t.s] 23) = V1 := ⟨_, rfl⟩
    rw [hV1] at Tt BB  ⊢
    clear hV1
    refine (head_any _ (hT.keep BB)).mono ?_
    rintro e w2 ⟨rfl, b2⟩
    have Tt := Tt.keep b2
    replace BB := bstep BB b2
    clear b2
    obtain ⟨t0, t1, t2, t3, t4⟩ := id Tt
    go_wp2_with fail
    refine (rvalid_at t false _ HV.out).mono ?_
    clear t0 t1 t2 t3 t4
    rintro e w3 ⟨rfl, b3⟩
    have Tt := Tt.keep b3
    replace BB := bstep BB b3
    clear b3
    go_wp2_with fail
    go_ret
    exact ⟨rfl, BB⟩
  · have hV := validT_iff.1 hv
    obtain ⟨hl, b0, b1, _, _, _, _, _, _⟩ := id hV
    have i1 : 1 ≤ t.i := by omega
    have i8 : t.i ≤ 8 := by omega
    have HV := Lib.hid hv
    obtain ⟨h1, hh1⟩ : ∃ h1, hearV t = h1 := ⟨_, rfl⟩
    obtain ⟨h2, hh2⟩ : ∃ h2, hearV h1 = h2 := ⟨_, rfl⟩
    have H1 := Lib.hid hh1; have H2 := Lib.hid hh2
    by_cases hn : n < t.b + t.i
    · have hs := suppressed_in hV hn
      rw [hh1, hh2] at hs
      obtain ⟨x, hx⟩ : ∃ x, tickT h2 n = x := ⟨_, rfl⟩
      have HX := Lib.hid hx; have HS := Lib.hid hs
      clear hv hV hl hh1 hh2 hs hx
      go_enter Tryd.func5, Tryd.ntmps5
      go_wp2_with fail
      have Tt := TkAt.new w t 23
      have BB : Below w.heap.size w (w.alloc (.cells #[.int .i64 t.i, .int .i64 t.b, .int .i64 t.f, .int .i64 t.c, .int .i64 t.s] 23)) := ball (Below.refl _ _) _
      obtain ⟨V1, hV1⟩ : ∃ V1, w.alloc (.cells #[.int .i64 t.i, .int .i64 t.b, .int .i64 t.f, .int .i64 t.c, .int .i64 t.s] 23) = V1 := ⟨_, rfl⟩
      rw [hV1] at Tt BB  ⊢
      clear hV1
      refine (head_any _ (hT.keep BB)).mono ?_
      rintro e w2 ⟨rfl, b2⟩
      have Tt := Tt.keep b2
      replace BB := bstep BB b2
      clear b2
      obtain ⟨t0, t1, t2, t3, t4⟩ := id Tt
      go_wp2_with fail
      refine (rvalid_at t true _ HV.out).mono ?_
      clear t0 t1 t2 t3 t4
      rintro e w3 ⟨rfl, b3⟩
      have Tt := Tt.keep b3
      replace BB := bstep BB b3
      clear b3
      obtain ⟨t0, t1, t2, t3, t4⟩ := id Tt
      go_wp2_with fail
      refine (hear_at t _ _ H1.out).mono ?_
      clear t0 t1 t2 t3 t4
      rintro e w4 ⟨rfl, b4⟩
      have Tt := Tt.keep b4
      replace BB := bstep BB b4
      clear b4
      obtain ⟨t0, t1, t2, t3, t4⟩ := id Tt
      go_wp2_with fail
      refine (hear_at h1 _ _ H2.out).mono ?_
      clear t0 t1 t2 t3 t4
      rintro e w5 ⟨rfl, b5⟩
      have Tt := Tt.keep b5
      replace BB := bstep BB b5
      clear b5
      obtain ⟨t0, t1, t2, t3, t4⟩ := id Tt
      go_wp2_with fail
      refine (tick_at h2 x n false _ (hT.keep BB) HX.out HS.out).mono ?_
      clear t0 t1 t2 t3 t4
      rintro e w6 ⟨rfl, b6⟩
      have Tt := Tt.keep b6
      replace BB := bstep BB b6
      clear b6
      obtain ⟨t0, t1, t2, t3, t4⟩ := id Tt
      go_wp2_with fail
      go_ret
      exact ⟨by simp, ball BB _⟩
    · have hs := suppressed_new hV (n := n) (by omega)
      rw [hh1, hh2] at hs
      obtain ⟨x, hx⟩ : ∃ x, tickT h2 n = x := ⟨_, rfl⟩
      obtain ⟨z, hz⟩ : ∃ z, tickT t n = z := ⟨_, rfl⟩
      obtain ⟨y, hy⟩ : ∃ y, tickB t n = y := ⟨_, rfl⟩
      rw [hx, hz, hy] at hs
      have HX := Lib.hid hx; have HZ := Lib.hid hz; have HY := Lib.hid hy; have HS := Lib.hid hs.1
      cases hf : frameB n
      · have HF := Lib.hid hf
        clear hv hV hl hh1 hh2 hs hx hz hy hf
        go_enter Tryd.func5, Tryd.ntmps5
        go_wp2_with fail
        have Tt := TkAt.new w t 23
        have BB : Below w.heap.size w (w.alloc (.cells #[.int .i64 t.i, .int .i64 t.b, .int .i64 t.f, .int .i64 t.c, .int .i64 t.s] 23)) := ball (Below.refl _ _) _
        obtain ⟨V1, hV1⟩ : ∃ V1, w.alloc (.cells #[.int .i64 t.i, .int .i64 t.b, .int .i64 t.f, .int .i64 t.c, .int .i64 t.s] 23) = V1 := ⟨_, rfl⟩
        rw [hV1] at Tt BB  ⊢
        clear hV1
        refine (head_any _ (hT.keep BB)).mono ?_
        rintro e w2 ⟨rfl, b2⟩
        have Tt := Tt.keep b2
        replace BB := bstep BB b2
        clear b2
        obtain ⟨t0, t1, t2, t3, t4⟩ := id Tt
        go_wp2_with fail
        refine (rvalid_at t true _ HV.out).mono ?_
        clear t0 t1 t2 t3 t4
        rintro e w3 ⟨rfl, b3⟩
        have Tt := Tt.keep b3
        replace BB := bstep BB b3
        clear b3
        obtain ⟨t0, t1, t2, t3, t4⟩ := id Tt
        go_wp2_with fail
        refine (hear_at t _ _ H1.out).mono ?_
        clear t0 t1 t2 t3 t4
        rintro e w4 ⟨rfl, b4⟩
        have Tt := Tt.keep b4
        replace BB := bstep BB b4
        clear b4
        obtain ⟨t0, t1, t2, t3, t4⟩ := id Tt
        go_wp2_with fail
        refine (hear_at h1 _ _ H2.out).mono ?_
        clear t0 t1 t2 t3 t4
        rintro e w5 ⟨rfl, b5⟩
        have Tt := Tt.keep b5
        replace BB := bstep BB b5
        clear b5
        obtain ⟨t0, t1, t2, t3, t4⟩ := id Tt
        go_wp2_with fail
        refine (tick_at h2 _ n y _ (hT.keep BB) HX.out HS.out).mono ?_
        clear t0 t1 t2 t3 t4
        rintro e w6 ⟨rfl, b6⟩
        have Tt := Tt.keep b6
        replace BB := bstep BB b6
        clear b6
        obtain ⟨t0, t1, t2, t3, t4⟩ := id Tt
        go_wp2_with fail
        clear t0 t1 t2 t3 t4
        have Tx := TkAt.new w6 x 23
        replace Tt := Tt.alloc (.cells #[.int .i64 x.i, .int .i64 x.b, .int .i64 x.f, .int .i64 x.c, .int .i64 x.s] 23)
        replace BB := ball BB (.cells #[.int .i64 x.i, .int .i64 x.b, .int .i64 x.f, .int .i64 x.c, .int .i64 x.s] 23)
        obtain ⟨V7, hV7⟩ : ∃ V7, w6.alloc (.cells #[.int .i64 x.i, .int .i64 x.b, .int .i64 x.f, .int .i64 x.c, .int .i64 x.s] 23) = V7 := ⟨_, rfl⟩
        rw [hV7] at Tx BB Tt ⊢
        clear hV7
        obtain ⟨kx, hkx⟩ : ∃ kx, w6.heap.size = kx := ⟨_, rfl⟩
        rw [hkx] at Tx ⊢
        clear hkx
        refine (tick_at t _ n y _ (hT.keep BB) HZ.out HY.out).mono ?_
        rintro e w8 ⟨rfl, b8⟩
        have Tt := Tt.keep b8
        have Tx := Tx.keep b8
        replace BB := bstep BB b8
        clear b8
        obtain ⟨t0, t1, t2, t3, t4⟩ := id Tt
        obtain ⟨x0, x1, x2, x3, x4⟩ := id Tx
        go_wp2_with fail
        clear t0 t1 t2 t3 t4 x0 x1 x2 x3 x4
        have Tz := TkAt.new w8 z 23
        replace Tt := Tt.alloc (.cells #[.int .i64 z.i, .int .i64 z.b, .int .i64 z.f, .int .i64 z.c, .int .i64 z.s] 23)
        replace Tx := Tx.alloc (.cells #[.int .i64 z.i, .int .i64 z.b, .int .i64 z.f, .int .i64 z.c, .int .i64 z.s] 23)
        replace BB := ball BB (.cells #[.int .i64 z.i, .int .i64 z.b, .int .i64 z.f, .int .i64 z.c, .int .i64 z.s] 23)
        obtain ⟨V9, hV9⟩ : ∃ V9, w8.alloc (.cells #[.int .i64 z.i, .int .i64 z.b, .int .i64 z.f, .int .i64 z.c, .int .i64 z.s] 23) = V9 := ⟨_, rfl⟩
        rw [hV9] at Tz BB Tt Tx ⊢
        clear hV9
        obtain ⟨kz, hkz⟩ : ∃ kz, w8.heap.size = kz := ⟨_, rfl⟩
        rw [hkz] at Tz ⊢
        clear hkz
        refine (rframe_at _ _ _ HF.out).mono ?_
        rintro e w1 ⟨rfl, rfl⟩
        obtain ⟨t0, t1, t2, t3, t4⟩ := id Tt
        obtain ⟨x0, x1, x2, x3, x4⟩ := id Tx
        obtain ⟨z0, z1, z2, z3, z4⟩ := id Tz
        go_wp2_with fail
        go_ret
        exact ⟨by simp, BB⟩
      · have HF := Lib.hid hf
        obtain ⟨hxz, hxc⟩ := hs.2 hf
        subst hxz
        obtain ⟨xi, xb, xf, xc, xs⟩ := x
        simp only at hxc
        subst hxc
        clear hv hV hl hh1 hh2 hs hx hz hy hf
        go_enter Tryd.func5, Tryd.ntmps5
        go_wp2_with fail
        have Tt := TkAt.new w t 23
        have BB : Below w.heap.size w (w.alloc (.cells #[.int .i64 t.i, .int .i64 t.b, .int .i64 t.f, .int .i64 t.c, .int .i64 t.s] 23)) := ball (Below.refl _ _) _
        obtain ⟨V1, hV1⟩ : ∃ V1, w.alloc (.cells #[.int .i64 t.i, .int .i64 t.b, .int .i64 t.f, .int .i64 t.c, .int .i64 t.s] 23) = V1 := ⟨_, rfl⟩
        rw [hV1] at Tt BB  ⊢
        clear hV1
        refine (head_any _ (hT.keep BB)).mono ?_
        rintro e w2 ⟨rfl, b2⟩
        have Tt := Tt.keep b2
        replace BB := bstep BB b2
        clear b2
        obtain ⟨t0, t1, t2, t3, t4⟩ := id Tt
        go_wp2_with fail
        refine (rvalid_at t true _ HV.out).mono ?_
        clear t0 t1 t2 t3 t4
        rintro e w3 ⟨rfl, b3⟩
        have Tt := Tt.keep b3
        replace BB := bstep BB b3
        clear b3
        obtain ⟨t0, t1, t2, t3, t4⟩ := id Tt
        go_wp2_with fail
        refine (hear_at t _ _ H1.out).mono ?_
        clear t0 t1 t2 t3 t4
        rintro e w4 ⟨rfl, b4⟩
        have Tt := Tt.keep b4
        replace BB := bstep BB b4
        clear b4
        obtain ⟨t0, t1, t2, t3, t4⟩ := id Tt
        go_wp2_with fail
        refine (hear_at h1 _ _ H2.out).mono ?_
        clear t0 t1 t2 t3 t4
        rintro e w5 ⟨rfl, b5⟩
        have Tt := Tt.keep b5
        replace BB := bstep BB b5
        clear b5
        obtain ⟨t0, t1, t2, t3, t4⟩ := id Tt
        go_wp2_with fail
        refine (tick_at h2 _ n y _ (hT.keep BB) HX.out HS.out).mono ?_
        clear t0 t1 t2 t3 t4
        rintro e w6 ⟨rfl, b6⟩
        have Tt := Tt.keep b6
        replace BB := bstep BB b6
        clear b6
        obtain ⟨t0, t1, t2, t3, t4⟩ := id Tt
        go_wp2_with fail
        clear t0 t1 t2 t3 t4
        have Tx := TkAt.new w6 (⟨xi, xb, xf, 0, xs⟩ : Tk) 23
        replace Tt := Tt.alloc (.cells #[.int .i64 (⟨xi, xb, xf, 0, xs⟩ : Tk).i, .int .i64 (⟨xi, xb, xf, 0, xs⟩ : Tk).b, .int .i64 (⟨xi, xb, xf, 0, xs⟩ : Tk).f, .int .i64 (⟨xi, xb, xf, 0, xs⟩ : Tk).c, .int .i64 (⟨xi, xb, xf, 0, xs⟩ : Tk).s] 23)
        replace BB := ball BB (.cells #[.int .i64 (⟨xi, xb, xf, 0, xs⟩ : Tk).i, .int .i64 (⟨xi, xb, xf, 0, xs⟩ : Tk).b, .int .i64 (⟨xi, xb, xf, 0, xs⟩ : Tk).f, .int .i64 (⟨xi, xb, xf, 0, xs⟩ : Tk).c, .int .i64 (⟨xi, xb, xf, 0, xs⟩ : Tk).s] 23)
        obtain ⟨V7, hV7⟩ : ∃ V7, w6.alloc (.cells #[.int .i64 (⟨xi, xb, xf, 0, xs⟩ : Tk).i, .int .i64 (⟨xi, xb, xf, 0, xs⟩ : Tk).b, .int .i64 (⟨xi, xb, xf, 0, xs⟩ : Tk).f, .int .i64 (⟨xi, xb, xf, 0, xs⟩ : Tk).c, .int .i64 (⟨xi, xb, xf, 0, xs⟩ : Tk).s] 23) = V7 := ⟨_, rfl⟩
        rw [hV7] at Tx BB Tt ⊢
        clear hV7
        obtain ⟨kx, hkx⟩ : ∃ kx, w6.heap.size = kx := ⟨_, rfl⟩
        rw [hkx] at Tx ⊢
        clear hkx
        refine (tick_at t _ n y _ (hT.keep BB) HZ.out HY.out).mono ?_
        rintro e w8 ⟨rfl, b8⟩
        have Tt := Tt.keep b8
        have Tx := Tx.keep b8
        replace BB := bstep BB b8
        clear b8
        obtain ⟨t0, t1, t2, t3, t4⟩ := id Tt
        obtain ⟨x0, x1, x2, x3, x4⟩ := id Tx
        go_wp2_with fail
        clear t0 t1 t2 t3 t4 x0 x1 x2 x3 x4
        have Tz := TkAt.new w8 (⟨xi, xb, xf, 0, xs⟩ : Tk) 23
        replace Tt := Tt.alloc (.cells #[.int .i64 (⟨xi, xb, xf, 0, xs⟩ : Tk).i, .int .i64 (⟨xi, xb, xf, 0, xs⟩ : Tk).b, .int .i64 (⟨xi, xb, xf, 0, xs⟩ : Tk).f, .int .i64 (⟨xi, xb, xf, 0, xs⟩ : Tk).c, .int .i64 (⟨xi, xb, xf, 0, xs⟩ : Tk).s] 23)
        replace Tx := Tx.alloc (.cells #[.int .i64 (⟨xi, xb, xf, 0, xs⟩ : Tk).i, .int .i64 (⟨xi, xb, xf, 0, xs⟩ : Tk).b, .int .i64 (⟨xi, xb, xf, 0, xs⟩ : Tk).f, .int .i64 (⟨xi, xb, xf, 0, xs⟩ : Tk).c, .int .i64 (⟨xi, xb, xf, 0, xs⟩ : Tk).s] 23)
        replace BB := ball BB (.cells #[.int .i64 (⟨xi, xb, xf, 0, xs⟩ : Tk).i, .int .i64 (⟨xi, xb, xf, 0, xs⟩ : Tk).b, .int .i64 (⟨xi, xb, xf, 0, xs⟩ : Tk).f, .int .i64 (⟨xi, xb, xf, 0, xs⟩ : Tk).c, .int .i64 (⟨xi, xb, xf, 0, xs⟩ : Tk).s] 23)
        obtain ⟨V9, hV9⟩ : ∃ V9, w8.alloc (.cells #[.int .i64 (⟨xi, xb, xf, 0, xs⟩ : Tk).i, .int .i64 (⟨xi, xb, xf, 0, xs⟩ : Tk).b, .int .i64 (⟨xi, xb, xf, 0, xs⟩ : Tk).f, .int .i64 (⟨xi, xb, xf, 0, xs⟩ : Tk).c, .int .i64 (⟨xi, xb, xf, 0, xs⟩ : Tk).s] 23) = V9 := ⟨_, rfl⟩
        rw [hV9] at Tz BB Tt Tx ⊢
        clear hV9
        obtain ⟨kz, hkz⟩ : ∃ kz, w8.heap.size = kz := ⟨_, rfl⟩
        rw [hkz] at Tz ⊢
        clear hkz
        refine (rframe_at _ _ _ HF.out).mono ?_
        rintro e w1 ⟨rfl, rfl⟩
        obtain ⟨t0, t1, t2, t3, t4⟩ := id Tt
        obtain ⟨x0, x1, x2, x3, x4⟩ := id Tx
        obtain ⟨z0, z1, z2, z3, z4⟩ := id Tz
        simp only at x0 x1 x2 x3 x4 z0 z1 z2 z3 z4
        go_wp2_with fail
        go_ret
        exact ⟨by simp, BB⟩
end Go.Proofs.YteeajkopigdblaaDoor
