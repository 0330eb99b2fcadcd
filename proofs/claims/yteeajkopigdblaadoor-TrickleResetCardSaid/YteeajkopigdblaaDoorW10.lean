/- Proved: what the fixed examples of the statements return: true. Conditions: the table of steps holds its numbers. -/
import Derived.Test.YteeajkopigdblaaDoorW9
namespace Go.Proofs.YteeajkopigdblaaDoor
open Go.RowKit Go.Sort Go.BigFrame Go.Proofs.YteeajkopigdblaaDoor.K
set_option linter.unusedVariables false
set_option linter.unusedSimpArgs false
attribute [local go_sem] cell_alloc_old

theorem belowV_one (s : Int) : belowV s 1 = 0 := by have := belowV_in (s := s) (n := 1) (by omega) (by omega); omega
theorem e1 : newV 5 10 = ⟨1, 10, 10, 0, 5⟩ := by simp [newV, seedB, frameB, ivalV, belowV_one]
theorem e2 : tickT ⟨1, 10, 10, 0, 5⟩ 10 = ⟨1, 10, 10, 0, 5⟩ := by simp [tickT]
theorem e3 : tickB ⟨1, 10, 10, 0, 5⟩ 10 = true := by simp [tickB, e2]; decide
theorem e4 : tickT ⟨1, 10, 10, 0, 5⟩ 11 = ⟨2, 11, 12, 0, 5⟩ := by
  unfold tickT; rw [if_pos ⟨by decide, by decide⟩]; simp [ivalV, show min (8 : Int) 2 = 2 by decide, belowV_one]
theorem e5 : tickB ⟨1, 10, 10, 0, 5⟩ 11 = false := by unfold tickB; rw [e4]; simp
theorem e6 : tickT ⟨2, 11, 12, 0, 5⟩ 12 = ⟨2, 11, 12, 0, 5⟩ := by simp [tickT]
theorem e7 : tickB ⟨2, 11, 12, 0, 5⟩ 12 = true := by simp [tickB, e6]; decide
theorem e8 : hearV ⟨2, 11, 12, 0, 5⟩ = ⟨2, 11, 12, 1, 5⟩ := by unfold hearV; rw [if_pos ⟨by decide, by decide⟩]; rfl
theorem e9 : hearV ⟨2, 11, 12, 1, 5⟩ = ⟨2, 11, 12, 2, 5⟩ := by unfold hearV; rw [if_pos ⟨by decide, by decide⟩]; rfl
theorem e10 : tickT ⟨2, 11, 12, 2, 5⟩ 12 = ⟨2, 11, 12, 2, 5⟩ := by simp [tickT]
theorem e11 : tickB ⟨2, 11, 12, 2, 5⟩ 12 = false := by simp [tickB, e10]
theorem e12 : newV (-1) 0 = ⟨0, 0, 0, 0, 0⟩ := by simp [newV, seedB]
theorem e13 : errT (-1) 0 = 1 := by simp [errT, seedB]
theorem e14 : errT 5 10 = 0 := by decide
theorem e15 : ∃ F, 32 ≤ F ∧ F ≤ 35 ∧ tickT ⟨8, 20, 25, 0, 0⟩ 28 = ⟨8, 28, F, 0, 0⟩ ∧ tickB ⟨8, 20, 25, 0, 0⟩ 28 = false := by
  have h : tickT ⟨8, 20, 25, 0, 0⟩ 28 = ivalV 0 8 28 := by unfold tickT; rw [if_pos ⟨by decide, by decide⟩]; rfl
  have hb := belowV_in (s := 1000003 * 0 + 28) (n := 8 - 8 / 2) (by omega) (by omega)
  obtain ⟨q, hq⟩ : ∃ q, belowV (1000003 * 0 + 28) (8 - 8 / 2) = q := ⟨_, rfl⟩
  have hv : ivalV 0 8 28 = ⟨8, 28, 32 + q, 0, 0⟩ := by unfold ivalV; rw [hq]; rfl
  rw [hq] at hb
  rw [hv] at h
  refine ⟨32 + q, by omega, by omega, h, ?_⟩
  unfold tickB
  rw [h]
  simp
  intro _ hh
  omega

set_option maxRecDepth 100000 in
set_option maxHeartbeats 4000000 in
theorem head_any (w : World) (hT : Tab w) : Calls Tryd.prog 10 #[] w fun e w' => e = .returned (.bool true) ∧ Below w.heap.size w w' := by
  obtain ⟨F, F0, F1, hF, hG⟩ := e15
  have HF := Lib.hid hF; have HG := Lib.hid hG; clear hF hG
  go_enter Tryd.func10, Tryd.ntmps10
  go_wp2_with fail
  refine (new_at 5 10 _ _ _ hT e1 e14).mono ?_
  rintro e w1 ⟨rfl, b1⟩
  have BB := b1
  clear b1
  go_wp2_with fail
  have Tt := TkAt.new w1 (⟨1, 10, 10, 0, 5⟩ : Tk) 23
  replace BB := ball BB (.cells #[.int .i64 (⟨1, 10, 10, 0, 5⟩ : Tk).i, .int .i64 (⟨1, 10, 10, 0, 5⟩ : Tk).b, .int .i64 (⟨1, 10, 10, 0, 5⟩ : Tk).f, .int .i64 (⟨1, 10, 10, 0, 5⟩ : Tk).c, .int .i64 (⟨1, 10, 10, 0, 5⟩ : Tk).s] 23)
  obtain ⟨V2, hV2⟩ : ∃ V2, w1.alloc (.cells #[.int .i64 (⟨1, 10, 10, 0, 5⟩ : Tk).i, .int .i64 (⟨1, 10, 10, 0, 5⟩ : Tk).b, .int .i64 (⟨1, 10, 10, 0, 5⟩ : Tk).f, .int .i64 (⟨1, 10, 10, 0, 5⟩ : Tk).c, .int .i64 (⟨1, 10, 10, 0, 5⟩ : Tk).s] 23) = V2 := ⟨_, rfl⟩
  obtain ⟨kt, hkt⟩ : ∃ kt, w1.heap.size = kt := ⟨_, rfl⟩
  rw [hV2] at Tt BB  ⊢
  rw [hkt] at Tt ⊢
  clear hV2 hkt
  refine (tick_at (⟨1, 10, 10, 0, 5⟩ : Tk) _ 10 _ _ (hT.keep BB) e2 e3).mono ?_
  rintro e w3 ⟨rfl, b3⟩
  have Tt := Tt.keep b3
  replace BB := bstep BB b3
  clear b3
  obtain ⟨t0, t1, t2, t3, t4⟩ := id Tt
  go_wp2_with fail
  clear t0 t1 t2 t3 t4
  have Ta := TkAt.new w3 (⟨1, 10, 10, 0, 5⟩ : Tk) 23
  replace Tt := Tt.alloc (.cells #[.int .i64 (⟨1, 10, 10, 0, 5⟩ : Tk).i, .int .i64 (⟨1, 10, 10, 0, 5⟩ : Tk).b, .int .i64 (⟨1, 10, 10, 0, 5⟩ : Tk).f, .int .i64 (⟨1, 10, 10, 0, 5⟩ : Tk).c, .int .i64 (⟨1, 10, 10, 0, 5⟩ : Tk).s] 23)
  replace BB := ball BB (.cells #[.int .i64 (⟨1, 10, 10, 0, 5⟩ : Tk).i, .int .i64 (⟨1, 10, 10, 0, 5⟩ : Tk).b, .int .i64 (⟨1, 10, 10, 0, 5⟩ : Tk).f, .int .i64 (⟨1, 10, 10, 0, 5⟩ : Tk).c, .int .i64 (⟨1, 10, 10, 0, 5⟩ : Tk).s] 23)
  obtain ⟨V4, hV4⟩ : ∃ V4, w3.alloc (.cells #[.int .i64 (⟨1, 10, 10, 0, 5⟩ : Tk).i, .int .i64 (⟨1, 10, 10, 0, 5⟩ : Tk).b, .int .i64 (⟨1, 10, 10, 0, 5⟩ : Tk).f, .int .i64 (⟨1, 10, 10, 0, 5⟩ : Tk).c, .int .i64 (⟨1, 10, 10, 0, 5⟩ : Tk).s] 23) = V4 := ⟨_, rfl⟩
  obtain ⟨ka, hka⟩ : ∃ ka, w3.heap.size = ka := ⟨_, rfl⟩
  rw [hV4] at Ta BB Tt ⊢
  rw [hka] at Ta ⊢
  clear hV4 hka
  refine (tick_at (⟨1, 10, 10, 0, 5⟩ : Tk) _ 11 _ _ (hT.keep BB) e4 e5).mono ?_
  rintro e w5 ⟨rfl, b5⟩
  have Tt := Tt.keep b5
  have Ta := Ta.keep b5
  replace BB := bstep BB b5
  clear b5
  obtain ⟨t0, t1, t2, t3, t4⟩ := id Tt
  obtain ⟨a0, a1, a2, a3, a4⟩ := id Ta
  go_wp2_with fail
  clear t0 t1 t2 t3 t4 a0 a1 a2 a3 a4
  have Tb := TkAt.new w5 (⟨2, 11, 12, 0, 5⟩ : Tk) 23
  replace Tt := Tt.alloc (.cells #[.int .i64 (⟨2, 11, 12, 0, 5⟩ : Tk).i, .int .i64 (⟨2, 11, 12, 0, 5⟩ : Tk).b, .int .i64 (⟨2, 11, 12, 0, 5⟩ : Tk).f, .int .i64 (⟨2, 11, 12, 0, 5⟩ : Tk).c, .int .i64 (⟨2, 11, 12, 0, 5⟩ : Tk).s] 23)
  replace Ta := Ta.alloc (.cells #[.int .i64 (⟨2, 11, 12, 0, 5⟩ : Tk).i, .int .i64 (⟨2, 11, 12, 0, 5⟩ : Tk).b, .int .i64 (⟨2, 11, 12, 0, 5⟩ : Tk).f, .int .i64 (⟨2, 11, 12, 0, 5⟩ : Tk).c, .int .i64 (⟨2, 11, 12, 0, 5⟩ : Tk).s] 23)
  replace BB := ball BB (.cells #[.int .i64 (⟨2, 11, 12, 0, 5⟩ : Tk).i, .int .i64 (⟨2, 11, 12, 0, 5⟩ : Tk).b, .int .i64 (⟨2, 11, 12, 0, 5⟩ : Tk).f, .int .i64 (⟨2, 11, 12, 0, 5⟩ : Tk).c, .int .i64 (⟨2, 11, 12, 0, 5⟩ : Tk).s] 23)
  obtain ⟨V6, hV6⟩ : ∃ V6, w5.alloc (.cells #[.int .i64 (⟨2, 11, 12, 0, 5⟩ : Tk).i, .int .i64 (⟨2, 11, 12, 0, 5⟩ : Tk).b, .int .i64 (⟨2, 11, 12, 0, 5⟩ : Tk).f, .int .i64 (⟨2, 11, 12, 0, 5⟩ : Tk).c, .int .i64 (⟨2, 11, 12, 0, 5⟩ : Tk).s] 23) = V6 := ⟨_, rfl⟩
  obtain ⟨kb, hkb⟩ : ∃ kb, w5.heap.size = kb := ⟨_, rfl⟩
  rw [hV6] at Tb BB Tt Ta ⊢
  rw [hkb] at Tb ⊢
  clear hV6 hkb
  refine (tick_at (⟨2, 11, 12, 0, 5⟩ : Tk) _ 12 _ _ (hT.keep BB) e6 e7).mono ?_
  rintro e w7 ⟨rfl, b7⟩
  have Tt := Tt.keep b7
  have Ta := Ta.keep b7
  have Tb := Tb.keep b7
  replace BB := bstep BB b7
  clear b7
  obtain ⟨t0, t1, t2, t3, t4⟩ := id Tt
  obtain ⟨a0, a1, a2, a3, a4⟩ := id Ta
  obtain ⟨b0, b1, b2, b3, b4⟩ := id Tb
  go_wp2_with fail
  clear t0 t1 t2 t3 t4 a0 a1 a2 a3 a4 b0 b1 b2 b3 b4
  have Tx := TkAt.new w7 (⟨2, 11, 12, 0, 5⟩ : Tk) 23
  replace Tt := Tt.alloc (.cells #[.int .i64 (⟨2, 11, 12, 0, 5⟩ : Tk).i, .int .i64 (⟨2, 11, 12, 0, 5⟩ : Tk).b, .int .i64 (⟨2, 11, 12, 0, 5⟩ : Tk).f, .int .i64 (⟨2, 11, 12, 0, 5⟩ : Tk).c, .int .i64 (⟨2, 11, 12, 0, 5⟩ : Tk).s] 23)
  replace Ta := Ta.alloc (.cells #[.int .i64 (⟨2, 11, 12, 0, 5⟩ : Tk).i, .int .i64 (⟨2, 11, 12, 0, 5⟩ : Tk).b, .int .i64 (⟨2, 11, 12, 0, 5⟩ : Tk).f, .int .i64 (⟨2, 11, 12, 0, 5⟩ : Tk).c, .int .i64 (⟨2, 11, 12, 0, 5⟩ : Tk).s] 23)
  replace Tb := Tb.alloc (.cells #[.int .i64 (⟨2, 11, 12, 0, 5⟩ : Tk).i, .int .i64 (⟨2, 11, 12, 0, 5⟩ : Tk).b, .int .i64 (⟨2, 11, 12, 0, 5⟩ : Tk).f, .int .i64 (⟨2, 11, 12, 0, 5⟩ : Tk).c, .int .i64 (⟨2, 11, 12, 0, 5⟩ : Tk).s] 23)
  replace BB := ball BB (.cells #[.int .i64 (⟨2, 11, 12, 0, 5⟩ : Tk).i, .int .i64 (⟨2, 11, 12, 0, 5⟩ : Tk).b, .int .i64 (⟨2, 11, 12, 0, 5⟩ : Tk).f, .int .i64 (⟨2, 11, 12, 0, 5⟩ : Tk).c, .int .i64 (⟨2, 11, 12, 0, 5⟩ : Tk).s] 23)
  obtain ⟨V8, hV8⟩ : ∃ V8, w7.alloc (.cells #[.int .i64 (⟨2, 11, 12, 0, 5⟩ : Tk).i, .int .i64 (⟨2, 11, 12, 0, 5⟩ : Tk).b, .int .i64 (⟨2, 11, 12, 0, 5⟩ : Tk).f, .int .i64 (⟨2, 11, 12, 0, 5⟩ : Tk).c, .int .i64 (⟨2, 11, 12, 0, 5⟩ : Tk).s] 23) = V8 := ⟨_, rfl⟩
  obtain ⟨kx, hkx⟩ : ∃ kx, w7.heap.size = kx := ⟨_, rfl⟩
  rw [hV8] at Tx BB Tt Ta Tb ⊢
  rw [hkx] at Tx ⊢
  clear hV8 hkx
  refine (hear_at (⟨2, 11, 12, 0, 5⟩ : Tk) _ _ e8).mono ?_
  rintro e w9 ⟨rfl, b9⟩
  have Tt := Tt.keep b9
  have Ta := Ta.keep b9
  have Tb := Tb.keep b9
  have Tx := Tx.keep b9
  replace BB := bstep BB b9
  clear b9
  go_wp2_with fail
  refine (hear_at (⟨2, 11, 12, 1, 5⟩ : Tk) _ _ e9).mono ?_
  rintro e w10 ⟨rfl, b10⟩
  have Tt := Tt.keep b10
  have Ta := Ta.keep b10
  have Tb := Tb.keep b10
  have Tx := Tx.keep b10
  replace BB := bstep BB b10
  clear b10
  go_wp2_with fail
  refine (tick_at (⟨2, 11, 12, 2, 5⟩ : Tk) _ 12 _ _ (hT.keep BB) e10 e11).mono ?_
  rintro e w11 ⟨rfl, b11⟩
  have Tt := Tt.keep b11
  have Ta := Ta.keep b11
  have Tb := Tb.keep b11
  have Tx := Tx.keep b11
  replace BB := bstep BB b11
  clear b11
  go_wp2_with fail
  have Ty := TkAt.new w11 (⟨2, 11, 12, 2, 5⟩ : Tk) 23
  replace Tt := Tt.alloc (.cells #[.int .i64 (⟨2, 11, 12, 2, 5⟩ : Tk).i, .int .i64 (⟨2, 11, 12, 2, 5⟩ : Tk).b, .int .i64 (⟨2, 11, 12, 2, 5⟩ : Tk).f, .int .i64 (⟨2, 11, 12, 2, 5⟩ : Tk).c, .int .i64 (⟨2, 11, 12, 2, 5⟩ : Tk).s] 23)
  replace Ta := Ta.alloc (.cells #[.int .i64 (⟨2, 11, 12, 2, 5⟩ : Tk).i, .int .i64 (⟨2, 11, 12, 2, 5⟩ : Tk).b, .int .i64 (⟨2, 11, 12, 2, 5⟩ : Tk).f, .int .i64 (⟨2, 11, 12, 2, 5⟩ : Tk).c, .int .i64 (⟨2, 11, 12, 2, 5⟩ : Tk).s] 23)
  replace Tb := Tb.alloc (.cells #[.int .i64 (⟨2, 11, 12, 2, 5⟩ : Tk).i, .int .i64 (⟨2, 11, 12, 2, 5⟩ : Tk).b, .int .i64 (⟨2, 11, 12, 2, 5⟩ : Tk).f, .int .i64 (⟨2, 11, 12, 2, 5⟩ : Tk).c, .int .i64 (⟨2, 11, 12, 2, 5⟩ : Tk).s] 23)
  replace Tx := Tx.alloc (.cells #[.int .i64 (⟨2, 11, 12, 2, 5⟩ : Tk).i, .int .i64 (⟨2, 11, 12, 2, 5⟩ : Tk).b, .int .i64 (⟨2, 11, 12, 2, 5⟩ : Tk).f, .int .i64 (⟨2, 11, 12, 2, 5⟩ : Tk).c, .int .i64 (⟨2, 11, 12, 2, 5⟩ : Tk).s] 23)
  replace BB := ball BB (.cells #[.int .i64 (⟨2, 11, 12, 2, 5⟩ : Tk).i, .int .i64 (⟨2, 11, 12, 2, 5⟩ : Tk).b, .int .i64 (⟨2, 11, 12, 2, 5⟩ : Tk).f, .int .i64 (⟨2, 11, 12, 2, 5⟩ : Tk).c, .int .i64 (⟨2, 11, 12, 2, 5⟩ : Tk).s] 23)
  obtain ⟨V12, hV12⟩ : ∃ V12, w11.alloc (.cells #[.int .i64 (⟨2, 11, 12, 2, 5⟩ : Tk).i, .int .i64 (⟨2, 11, 12, 2, 5⟩ : Tk).b, .int .i64 (⟨2, 11, 12, 2, 5⟩ : Tk).f, .int .i64 (⟨2, 11, 12, 2, 5⟩ : Tk).c, .int .i64 (⟨2, 11, 12, 2, 5⟩ : Tk).s] 23) = V12 := ⟨_, rfl⟩
  obtain ⟨ky, hky⟩ : ∃ ky, w11.heap.size = ky := ⟨_, rfl⟩
  rw [hV12] at Ty BB Tt Ta Tb Tx ⊢
  rw [hky] at Ty ⊢
  clear hV12 hky
  refine (new_at (-1) 0 _ _ _ (hT.keep BB) e12 e13).mono ?_
  rintro e w13 ⟨rfl, b13⟩
  have Tt := Tt.keep b13
  have Ta := Ta.keep b13
  have Tb := Tb.keep b13
  have Tx := Tx.keep b13
  have Ty := Ty.keep b13
  replace BB := bstep BB b13
  clear b13
  go_wp2_with fail
  have Tz := TkAt.new w13 (⟨0, 0, 0, 0, 0⟩ : Tk) 23
  replace Tt := Tt.alloc (.cells #[.int .i64 (⟨0, 0, 0, 0, 0⟩ : Tk).i, .int .i64 (⟨0, 0, 0, 0, 0⟩ : Tk).b, .int .i64 (⟨0, 0, 0, 0, 0⟩ : Tk).f, .int .i64 (⟨0, 0, 0, 0, 0⟩ : Tk).c, .int .i64 (⟨0, 0, 0, 0, 0⟩ : Tk).s] 23)
  replace Ta := Ta.alloc (.cells #[.int .i64 (⟨0, 0, 0, 0, 0⟩ : Tk).i, .int .i64 (⟨0, 0, 0, 0, 0⟩ : Tk).b, .int .i64 (⟨0, 0, 0, 0, 0⟩ : Tk).f, .int .i64 (⟨0, 0, 0, 0, 0⟩ : Tk).c, .int .i64 (⟨0, 0, 0, 0, 0⟩ : Tk).s] 23)
  replace Tb := Tb.alloc (.cells #[.int .i64 (⟨0, 0, 0, 0, 0⟩ : Tk).i, .int .i64 (⟨0, 0, 0, 0, 0⟩ : Tk).b, .int .i64 (⟨0, 0, 0, 0, 0⟩ : Tk).f, .int .i64 (⟨0, 0, 0, 0, 0⟩ : Tk).c, .int .i64 (⟨0, 0, 0, 0, 0⟩ : Tk).s] 23)
  replace Tx := Tx.alloc (.cells #[.int .i64 (⟨0, 0, 0, 0, 0⟩ : Tk).i, .int .i64 (⟨0, 0, 0, 0, 0⟩ : Tk).b, .int .i64 (⟨0, 0, 0, 0, 0⟩ : Tk).f, .int .i64 (⟨0, 0, 0, 0, 0⟩ : Tk).c, .int .i64 (⟨0, 0, 0, 0, 0⟩ : Tk).s] 23)
  replace Ty := Ty.alloc (.cells #[.int .i64 (⟨0, 0, 0, 0, 0⟩ : Tk).i, .int .i64 (⟨0, 0, 0, 0, 0⟩ : Tk).b, .int .i64 (⟨0, 0, 0, 0, 0⟩ : Tk).f, .int .i64 (⟨0, 0, 0, 0, 0⟩ : Tk).c, .int .i64 (⟨0, 0, 0, 0, 0⟩ : Tk).s] 23)
  replace BB := ball BB (.cells #[.int .i64 (⟨0, 0, 0, 0, 0⟩ : Tk).i, .int .i64 (⟨0, 0, 0, 0, 0⟩ : Tk).b, .int .i64 (⟨0, 0, 0, 0, 0⟩ : Tk).f, .int .i64 (⟨0, 0, 0, 0, 0⟩ : Tk).c, .int .i64 (⟨0, 0, 0, 0, 0⟩ : Tk).s] 23)
  obtain ⟨V14, hV14⟩ : ∃ V14, w13.alloc (.cells #[.int .i64 (⟨0, 0, 0, 0, 0⟩ : Tk).i, .int .i64 (⟨0, 0, 0, 0, 0⟩ : Tk).b, .int .i64 (⟨0, 0, 0, 0, 0⟩ : Tk).f, .int .i64 (⟨0, 0, 0, 0, 0⟩ : Tk).c, .int .i64 (⟨0, 0, 0, 0, 0⟩ : Tk).s] 23) = V14 := ⟨_, rfl⟩
  obtain ⟨kz, hkz⟩ : ∃ kz, w13.heap.size = kz := ⟨_, rfl⟩
  rw [hV14] at Tz BB Tt Ta Tb Tx Ty ⊢
  rw [hkz] at Tz ⊢
  clear hV14 hkz
  refine (tick_at (⟨8, 20, 25, 0, 0⟩ : Tk) _ 28 _ _ (hT.keep BB) HF.out HG.out).mono ?_
  rintro e w15 ⟨rfl, b15⟩
  have Tt := Tt.keep b15
  have Ta := Ta.keep b15
  have Tb := Tb.keep b15
  have Tx := Tx.keep b15
  have Ty := Ty.keep b15
  have Tz := Tz.keep b15
  replace BB := bstep BB b15
  clear b15
  have TC := TkAt.new w15 (⟨8, 28, F, 0, 0⟩ : Tk) 23
  obtain ⟨C0, C1, C2, C3, C4⟩ := TC
  replace Tt := Tt.alloc (.cells #[.int .i64 8, .int .i64 28, .int .i64 F, .int .i64 0, .int .i64 0] 23)
  replace Ta := Ta.alloc (.cells #[.int .i64 8, .int .i64 28, .int .i64 F, .int .i64 0, .int .i64 0] 23)
  replace Tb := Tb.alloc (.cells #[.int .i64 8, .int .i64 28, .int .i64 F, .int .i64 0, .int .i64 0] 23)
  replace BB := ball BB (.cells #[.int .i64 8, .int .i64 28, .int .i64 F, .int .i64 0, .int .i64 0] 23)
  obtain ⟨t0, t1, t2, t3, t4⟩ := id Tt
  obtain ⟨a0, a1, a2, a3, a4⟩ := id Ta
  obtain ⟨b0, b1, b2, b3, b4⟩ := id Tb
  go_wp2_with fail
  go_ret
  exact ⟨by simp, BB⟩
end Go.Proofs.YteeajkopigdblaaDoor
