/- Proved: what Tick of package trickle and of its reference return. Conditions: the table of steps holds its numbers. -/
import Derived.Test.YteeajkopigdblaaDoorW3
namespace Go.Proofs.YteeajkopigdblaaDoor
open Go.RowKit Go.Sort Go.BigFrame Go.Proofs.YteeajkopigdblaaDoor.K
set_option linter.unusedVariables false
set_option linter.unusedSimpArgs false
attribute [local go_sem] cell_alloc_old

abbrev TickPost (u : Tk) (y : Bool) (w : World) (e : Ending) (w' : World) : Prop := e = .returned (.tuple #[u.v, .bool y]) ∧ Below w.heap.size w w'
theorem TkAt.set4 {w : World} {k : Nat} {t : Tk} (h : TkAt w k t) (x : Int) : TkAt (w.setCell ⟨k, 4, none⟩ (.int .i64 x)) k { t with s := x } := by
  obtain ⟨c0, c1, c2, c3, c4⟩ := h
  refine ⟨?_, ?_, ?_, ?_, ?_⟩
  · rw [World.cell?_setCell_other _ _ _ _ (by simp)]; exact c0
  · rw [World.cell?_setCell_other _ _ _ _ (by simp)]; exact c1
  · rw [World.cell?_setCell_other _ _ _ _ (by simp)]; exact c2
  · rw [World.cell?_setCell_other _ _ _ _ (by simp)]; exact c3
  · exact World.cell?_setCell_same' _ _ _ (by rw [c4]; rfl)
theorem TkAt.setAll {w : World} {k : Nat} {t : Tk} (h : TkAt w k t) (i b f c s : Int) : TkAt (((((w.setCell ⟨k, 0, none⟩ (.int .i64 i)).setCell ⟨k, 1, none⟩ (.int .i64 b)).setCell ⟨k, 2, none⟩ (.int .i64 f)).setCell ⟨k, 3, none⟩ (.int .i64 c)).setCell ⟨k, 4, none⟩ (.int .i64 s)) k ⟨i, b, f, c, s⟩ :=
  ((((h.set0 i).set1 b).set2 f).set3 c).set4 s
theorem below_set5 {w0 w : World} {k : Nat} (h : Below w0.heap.size w0 w) (hk : w0.heap.size ≤ k) (i b f c s : Int) : Below w0.heap.size w0 (((((w.setCell ⟨k, 0, none⟩ (.int .i64 i)).setCell ⟨k, 1, none⟩ (.int .i64 b)).setCell ⟨k, 2, none⟩ (.int .i64 f)).setCell ⟨k, 3, none⟩ (.int .i64 c)).setCell ⟨k, 4, none⟩ (.int .i64 s)) :=
  ((((h.setCell (p := ⟨k, 0, none⟩) hk _).setCell (p := ⟨k, 1, none⟩) hk _).setCell (p := ⟨k, 2, none⟩) hk _).setCell (p := ⟨k, 3, none⟩) hk _).setCell (p := ⟨k, 4, none⟩) hk _
/-- Two blocks that a call has made: its argument and its result. -/
structure Two (w V : World) (t z : Tk) : Prop where
  B : Below w.heap.size w V
  T : TkAt V w.heap.size t
  Z : TkAt V (w.heap.size + 1) z
  F : ∀ j, V.frozen? ⟨w.heap.size + 1, j, none⟩ = false
  S : w.heap.size + 2 ≤ V.heap.size
theorem Two.keep {w V V' : World} {t z : Tk} (h : Two w V t z) (hb : Below V.heap.size V V') : Two w V' t z :=
  ⟨bstep h.B hb, h.T.keep hb, h.Z.keep hb, fun j => (hb.frozen (p := ⟨w.heap.size + 1, j, none⟩) (by have := h.S; simp only; omega)).trans (h.F j), Nat.le_trans h.S hb.size⟩
theorem Two.new (w : World) (t z : Tk) : Two w ((w.alloc (.cells #[.int .i64 t.i, .int .i64 t.b, .int .i64 t.f, .int .i64 t.c, .int .i64 t.s] 23)).alloc (.cells #[.int .i64 z.i, .int .i64 z.b, .int .i64 z.f, .int .i64 z.c, .int .i64 z.s] 23)) t z := by
  refine ⟨ball (ball (Below.refl _ _) _) _, ⟨?_, ?_, ?_, ?_, ?_⟩, ⟨?_, ?_, ?_, ?_, ?_⟩, fun j => ?_, by simp⟩
  · exact old1 (new0 rfl rfl) _
  · exact old1 (new0 rfl rfl) _
  · exact old1 (new0 rfl rfl) _
  · exact old1 (new0 rfl rfl) _
  · exact old1 (new0 rfl rfl) _
  · exact new0 (by simp) rfl
  · exact new0 (by simp) rfl
  · exact new0 (by simp) rfl
  · exact new0 (by simp) rfl
  · exact new0 (by simp) rfl
  · rw [frozen?_alloc_cells, frozen?_alloc_cells]; exact frz_new (Nat.le_succ _)

set_option maxRecDepth 100000 in
set_option maxHeartbeats 2000000 in
theorem tick_no1 (t : Tk) (n : Int) (w : World) (hv : Hid (validT t = false)) : Calls Tryd.prog 14 #[t.v, .int .i64 n] w (TickPost t false w) := by
  obtain ⟨i, b, f, c, s⟩ := t
  go_enter Tryd.func14, Tryd.ntmps14
  have HT := Lib.hid (Two.new w ⟨i, b, f, c, s⟩ ⟨0, 0, 0, 0, 0⟩)
  go_wp2_with fail
  obtain ⟨V, hV⟩ : ∃ V, (w.alloc (.cells #[.int .i64 i, .int .i64 b, .int .i64 f, .int .i64 c, .int .i64 s] 23)).alloc (.cells #[.int .i64 0, .int .i64 0, .int .i64 0, .int .i64 0, .int .i64 0] 23) = V := ⟨_, rfl⟩
  rw [hV] at HT ⊢
  clear hV
  refine (valid_at ⟨i, b, f, c, s⟩ _ _ hv.out).mono ?_
  rintro e w1 ⟨rfl, b1⟩
  replace HT := Lib.hid (HT.out.keep b1)
  clear b1
  obtain ⟨B1, ⟨c0, c1, c2, c3, c4⟩, ⟨z0, z1, z2, z3, z4⟩, F1, S1⟩ := HT.out
  have f0 := F1 0; have f1 := F1 1; have f2 := F1 2; have f3 := F1 3; have f4 := F1 4
  clear F1
  go_wp2_with fail
  have q := HT.out.Z.setAll i b f c s
  have BZ := below_set5 HT.out.B (Nat.le_succ _) i b f c s
  obtain ⟨Z, hZ⟩ : ∃ Z, ((((w1.setCell ⟨w.heap.size + 1, 0, none⟩ (.int .i64 i)).setCell ⟨w.heap.size + 1, 1, none⟩ (.int .i64 b)).setCell ⟨w.heap.size + 1, 2, none⟩ (.int .i64 f)).setCell ⟨w.heap.size + 1, 3, none⟩ (.int .i64 c)).setCell ⟨w.heap.size + 1, 4, none⟩ (.int .i64 s) = Z := ⟨_, rfl⟩
  rw [hZ] at q BZ ⊢
  clear hZ
  obtain ⟨q0, q1, q2, q3, q4⟩ := q
  simp only at q0 q1 q2 q3 q4
  refine bodyPost_ret (v := .tuple #[(⟨i, b, f, c, s⟩ : Tk).v, .bool false]) (by simp [results, Tryd.results14, go_sem, q0, q1, q2, q3, q4]) rfl ⟨rfl, BZ⟩
set_option maxRecDepth 100000 in
set_option maxHeartbeats 2000000 in
theorem tick_no2 (t : Tk) (n : Int) (w : World) (hv : Hid (validT t = true)) (hf : Hid (frameB n = false)) : Calls Tryd.prog 14 #[t.v, .int .i64 n] w (TickPost t false w) := by
  obtain ⟨i, b, f, c, s⟩ := t
  go_enter Tryd.func14, Tryd.ntmps14
  have HT := Lib.hid (Two.new w ⟨i, b, f, c, s⟩ ⟨0, 0, 0, 0, 0⟩)
  go_wp2_with fail
  obtain ⟨V, hV⟩ : ∃ V, (w.alloc (.cells #[.int .i64 i, .int .i64 b, .int .i64 f, .int .i64 c, .int .i64 s] 23)).alloc (.cells #[.int .i64 0, .int .i64 0, .int .i64 0, .int .i64 0, .int .i64 0] 23) = V := ⟨_, rfl⟩
  rw [hV] at HT ⊢
  clear hV
  refine (valid_at ⟨i, b, f, c, s⟩ _ _ hv.out).mono ?_
  rintro e w1 ⟨rfl, b1⟩
  replace HT := Lib.hid (HT.out.keep b1)
  clear b1
  obtain ⟨B1, ⟨c0, c1, c2, c3, c4⟩, ⟨z0, z1, z2, z3, z4⟩, F1, S1⟩ := HT.out
  have f0 := F1 0; have f1 := F1 1; have f2 := F1 2; have f3 := F1 3; have f4 := F1 4
  clear F1
  go_wp2_with fail
  refine (frame_at _ _ _ hf.out).mono ?_
  rintro e w2 ⟨rfl, rfl⟩
  go_wp2_with fail
  have q := HT.out.Z.setAll i b f c s
  have BZ := below_set5 HT.out.B (Nat.le_succ _) i b f c s
  obtain ⟨Z, hZ⟩ : ∃ Z, ((((w1.setCell ⟨w.heap.size + 1, 0, none⟩ (.int .i64 i)).setCell ⟨w.heap.size + 1, 1, none⟩ (.int .i64 b)).setCell ⟨w.heap.size + 1, 2, none⟩ (.int .i64 f)).setCell ⟨w.heap.size + 1, 3, none⟩ (.int .i64 c)).setCell ⟨w.heap.size + 1, 4, none⟩ (.int .i64 s) = Z := ⟨_, rfl⟩
  rw [hZ] at q BZ ⊢
  clear hZ
  obtain ⟨q0, q1, q2, q3, q4⟩ := q
  simp only at q0 q1 q2 q3 q4
  refine bodyPost_ret (v := .tuple #[(⟨i, b, f, c, s⟩ : Tk).v, .bool false]) (by simp [results, Tryd.results14, go_sem, q0, q1, q2, q3, q4]) rfl ⟨rfl, BZ⟩
set_option maxRecDepth 100000 in
set_option maxHeartbeats 2000000 in
theorem tick_no3 (t : Tk) (n : Int) (w : World) (hv : Hid (validT t = true)) (hf : Hid (frameB n = true)) (hn : n < t.b) : Calls Tryd.prog 14 #[t.v, .int .i64 n] w (TickPost t false w) := by
  obtain ⟨i, b, f, c, s⟩ := t
  simp only at hn
  go_enter Tryd.func14, Tryd.ntmps14
  have HT := Lib.hid (Two.new w ⟨i, b, f, c, s⟩ ⟨0, 0, 0, 0, 0⟩)
  go_wp2_with fail
  obtain ⟨V, hV⟩ : ∃ V, (w.alloc (.cells #[.int .i64 i, .int .i64 b, .int .i64 f, .int .i64 c, .int .i64 s] 23)).alloc (.cells #[.int .i64 0, .int .i64 0, .int .i64 0, .int .i64 0, .int .i64 0] 23) = V := ⟨_, rfl⟩
  rw [hV] at HT ⊢
  clear hV
  refine (valid_at ⟨i, b, f, c, s⟩ _ _ hv.out).mono ?_
  rintro e w1 ⟨rfl, b1⟩
  replace HT := Lib.hid (HT.out.keep b1)
  clear b1
  obtain ⟨B1, ⟨c0, c1, c2, c3, c4⟩, ⟨z0, z1, z2, z3, z4⟩, F1, S1⟩ := HT.out
  have f0 := F1 0; have f1 := F1 1; have f2 := F1 2; have f3 := F1 3; have f4 := F1 4
  clear F1
  go_wp2_with fail
  refine (frame_at _ _ _ hf.out).mono ?_
  rintro e w2 ⟨rfl, rfl⟩
  go_wp2_with fail
  have q := HT.out.Z.setAll i b f c s
  have BZ := below_set5 HT.out.B (Nat.le_succ _) i b f c s
  obtain ⟨Z, hZ⟩ : ∃ Z, ((((w1.setCell ⟨w.heap.size + 1, 0, none⟩ (.int .i64 i)).setCell ⟨w.heap.size + 1, 1, none⟩ (.int .i64 b)).setCell ⟨w.heap.size + 1, 2, none⟩ (.int .i64 f)).setCell ⟨w.heap.size + 1, 3, none⟩ (.int .i64 c)).setCell ⟨w.heap.size + 1, 4, none⟩ (.int .i64 s) = Z := ⟨_, rfl⟩
  rw [hZ] at q BZ ⊢
  clear hZ
  obtain ⟨q0, q1, q2, q3, q4⟩ := q
  simp only at q0 q1 q2 q3 q4
  refine bodyPost_ret (v := .tuple #[(⟨i, b, f, c, s⟩ : Tk).v, .bool false]) (by simp [results, Tryd.results14, go_sem, q0, q1, q2, q3, q4]) rfl ⟨rfl, BZ⟩
set_option maxRecDepth 100000 in
set_option maxHeartbeats 2000000 in
theorem tick_in (t : Tk) (n : Int) (w : World) (hv : Hid (validT t = true)) (hf : Hid (frameB n = true)) (hn : t.b ≤ n) (hn2 : n < t.b + t.i) (i1 : 1 ≤ t.i) (i8 : t.i ≤ 8) (b0 : 0 ≤ t.b) (b1 : t.b ≤ 999999984) (hne : Hid (t.f = n)) : Calls Tryd.prog 14 #[t.v, .int .i64 n] w (TickPost t (decide (t.c ≤ 1)) w) := by
  obtain ⟨i, b, f, c, s⟩ := t
  simp only at hn hn2 i1 i8 b0 b1 hne ⊢
  have hne := hne.out; subst hne
  go_enter Tryd.func14, Tryd.ntmps14
  have HT := Lib.hid (Two.new w ⟨i, b, f, c, s⟩ ⟨0, 0, 0, 0, 0⟩)
  go_wp2_with fail
  obtain ⟨V, hV⟩ : ∃ V, (w.alloc (.cells #[.int .i64 i, .int .i64 b, .int .i64 f, .int .i64 c, .int .i64 s] 23)).alloc (.cells #[.int .i64 0, .int .i64 0, .int .i64 0, .int .i64 0, .int .i64 0] 23) = V := ⟨_, rfl⟩
  rw [hV] at HT ⊢
  clear hV
  refine (valid_at ⟨i, b, f, c, s⟩ _ _ hv.out).mono ?_
  rintro e w1 ⟨rfl, b1⟩
  replace HT := Lib.hid (HT.out.keep b1)
  clear b1
  obtain ⟨B1, ⟨c0, c1, c2, c3, c4⟩, TZ, F1, S1⟩ := HT.out
  have BA : Below w.heap.size w (w1.alloc (.cells #[.int .i64 i, .int .i64 b, .int .i64 f, .int .i64 c, .int .i64 s] 42)) := ball B1 _
  have TAZ : TkAt (w1.alloc (.cells #[.int .i64 i, .int .i64 b, .int .i64 f, .int .i64 c, .int .i64 s] 42)) (w.heap.size + 1) ⟨0, 0, 0, 0, 0⟩ := ⟨old1 TZ.1 _, old1 TZ.2.1 _, old1 TZ.2.2.1 _, old1 TZ.2.2.2.1 _, old1 TZ.2.2.2.2 _⟩
  have FA : ∀ j, (w1.alloc (.cells #[.int .i64 i, .int .i64 b, .int .i64 f, .int .i64 c, .int .i64 s] 42)).frozen? ⟨w.heap.size + 1, j, none⟩ = false := fun j => (frozen?_alloc_cells _ _ _ _).trans (F1 j)
  have f0 := FA 0; have f1 := FA 1; have f2 := FA 2; have f3 := FA 3; have f4 := FA 4
  obtain ⟨z0, z1, z2, z3, z4⟩ := TZ
  simp only at c0 c1 c2 c3 c4 z0 z1 z2 z3 z4
  clear FA F1
  go_wp2_with fail
  refine (frame_at _ _ _ hf.out).mono ?_
  rintro e w2 ⟨rfl, rfl⟩
  go_wp2_with fail
  have q := TAZ.setAll i b f c s
  have BZ := below_set5 BA (Nat.le_succ _) i b f c s
  obtain ⟨Z, hZ⟩ : ∃ Z, (((((w1.alloc (.cells #[.int .i64 i, .int .i64 b, .int .i64 f, .int .i64 c, .int .i64 s] 42)).setCell ⟨w.heap.size + 1, 0, none⟩ (.int .i64 i)).setCell ⟨w.heap.size + 1, 1, none⟩ (.int .i64 b)).setCell ⟨w.heap.size + 1, 2, none⟩ (.int .i64 f)).setCell ⟨w.heap.size + 1, 3, none⟩ (.int .i64 c)).setCell ⟨w.heap.size + 1, 4, none⟩ (.int .i64 s) = Z := ⟨_, rfl⟩
  rw [hZ] at q BZ ⊢
  clear hZ
  obtain ⟨q0, q1, q2, q3, q4⟩ := q
  simp only at q0 q1 q2 q3 q4
  refine bodyPost_ret (v := .tuple #[(⟨i, b, f, c, s⟩ : Tk).v, .bool (decide (c < 2))]) (by simp [results, Tryd.results14, go_sem, q0, q1, q2, q3, q4]) rfl ⟨?_, BZ⟩
  exact by rw [decide_eq_decide.2 (show c < 2 ↔ c ≤ 1 by omega)]
set_option maxRecDepth 100000 in
set_option maxHeartbeats 2000000 in
theorem tick_in2 (t : Tk) (n : Int) (w : World) (hv : Hid (validT t = true)) (hf : Hid (frameB n = true)) (hn : t.b ≤ n) (hn2 : n < t.b + t.i) (i1 : 1 ≤ t.i) (i8 : t.i ≤ 8) (b0 : 0 ≤ t.b) (b1 : t.b ≤ 999999984) (hne : ¬ n = t.f) : Calls Tryd.prog 14 #[t.v, .int .i64 n] w (TickPost t (false) w) := by
  obtain ⟨i, b, f, c, s⟩ := t
  simp only at hn hn2 i1 i8 b0 b1 hne ⊢
  go_enter Tryd.func14, Tryd.ntmps14
  have HT := Lib.hid (Two.new w ⟨i, b, f, c, s⟩ ⟨0, 0, 0, 0, 0⟩)
  go_wp2_with fail
  obtain ⟨V, hV⟩ : ∃ V, (w.alloc (.cells #[.int .i64 i, .int .i64 b, .int .i64 f, .int .i64 c, .int .i64 s] 23)).alloc (.cells #[.int .i64 0, .int .i64 0, .int .i64 0, .int .i64 0, .int .i64 0] 23) = V := ⟨_, rfl⟩
  rw [hV] at HT ⊢
  clear hV
  refine (valid_at ⟨i, b, f, c, s⟩ _ _ hv.out).mono ?_
  rintro e w1 ⟨rfl, b1⟩
  replace HT := Lib.hid (HT.out.keep b1)
  clear b1
  obtain ⟨B1, ⟨c0, c1, c2, c3, c4⟩, TZ, F1, S1⟩ := HT.out
  have BA : Below w.heap.size w (w1.alloc (.cells #[.int .i64 i, .int .i64 b, .int .i64 f, .int .i64 c, .int .i64 s] 42)) := ball B1 _
  have TAZ : TkAt (w1.alloc (.cells #[.int .i64 i, .int .i64 b, .int .i64 f, .int .i64 c, .int .i64 s] 42)) (w.heap.size + 1) ⟨0, 0, 0, 0, 0⟩ := ⟨old1 TZ.1 _, old1 TZ.2.1 _, old1 TZ.2.2.1 _, old1 TZ.2.2.2.1 _, old1 TZ.2.2.2.2 _⟩
  have FA : ∀ j, (w1.alloc (.cells #[.int .i64 i, .int .i64 b, .int .i64 f, .int .i64 c, .int .i64 s] 42)).frozen? ⟨w.heap.size + 1, j, none⟩ = false := fun j => (frozen?_alloc_cells _ _ _ _).trans (F1 j)
  have f0 := FA 0; have f1 := FA 1; have f2 := FA 2; have f3 := FA 3; have f4 := FA 4
  obtain ⟨z0, z1, z2, z3, z4⟩ := TZ
  simp only at c0 c1 c2 c3 c4 z0 z1 z2 z3 z4
  clear FA F1
  go_wp2_with fail
  refine (frame_at _ _ _ hf.out).mono ?_
  rintro e w2 ⟨rfl, rfl⟩
  go_wp2_with fail
  have q := TAZ.setAll i b f c s
  have BZ := below_set5 BA (Nat.le_succ _) i b f c s
  obtain ⟨Z, hZ⟩ : ∃ Z, (((((w1.alloc (.cells #[.int .i64 i, .int .i64 b, .int .i64 f, .int .i64 c, .int .i64 s] 42)).setCell ⟨w.heap.size + 1, 0, none⟩ (.int .i64 i)).setCell ⟨w.heap.size + 1, 1, none⟩ (.int .i64 b)).setCell ⟨w.heap.size + 1, 2, none⟩ (.int .i64 f)).setCell ⟨w.heap.size + 1, 3, none⟩ (.int .i64 c)).setCell ⟨w.heap.size + 1, 4, none⟩ (.int .i64 s) = Z := ⟨_, rfl⟩
  rw [hZ] at q BZ ⊢
  clear hZ
  obtain ⟨q0, q1, q2, q3, q4⟩ := q
  simp only at q0 q1 q2 q3 q4
  refine bodyPost_ret (v := .tuple #[(⟨i, b, f, c, s⟩ : Tk).v, .bool (false)]) (by simp [results, Tryd.results14, go_sem, q0, q1, q2, q3, q4]) rfl ⟨?_, BZ⟩
  exact rfl
theorem Two.begun {w V V' : World} {t z : Tk} {o : Obj} (h : Two w V t z) (hb : Below V.heap.size (V.alloc o) V') : Two w V' t z := by
  have hb' : Below V.heap.size V V' := (Below.trans (Below.alloc (Below.refl _ V) (Nat.le_refl _) o) hb)
  exact h.keep hb'
set_option maxRecDepth 100000 in
set_option maxHeartbeats 2000000 in
theorem tick_new (t u : Tk) (n : Int) (y : Bool) (w : World) (hT : Tab w) (hv : Hid (validT t = true)) (hf : Hid (frameB n = true)) (hn2 : t.b + t.i ≤ n) (hl : t.i = 1 ∨ t.i = 2 ∨ t.i = 4 ∨ t.i = 8) (b0 : 0 ≤ t.b) (b1 : t.b ≤ 999999984) (s0 : 0 ≤ t.s) (s1 : t.s ≤ 1000000000) (hu : ivalV t.s (min 8 (2 * t.i)) n = u) (hy : Hid ((decide (u.f = n)) = y)) : Calls Tryd.prog 14 #[t.v, .int .i64 n] w (TickPost u y w) := by
  obtain ⟨i, b, f, c, s⟩ := t
  simp only at hn2 hl b0 b1 s0 s1 hu
  have hl2 : min 8 (2 * i) = 1 ∨ min 8 (2 * i) = 2 ∨ min 8 (2 * i) = 4 ∨ min 8 (2 * i) = 8 := by omega
  have uc : u.c = 0 := by rw [← hu]; rfl
  obtain ⟨ui, ub, uf, uk, us⟩ := u
  simp only at uc hy
  subst uc
  have i18 : 1 ≤ i ∧ i ≤ 8 := by omega
  obtain ⟨i1, i8⟩ := i18
  have n01 := frameB_iff.1 hf.out
  have HL := Lib.hid hl2; have HU := Lib.hid hu; have HN := Lib.hid n01
  have hn : b ≤ n := by omega
  clear hl2 hu hl n01
  go_enter Tryd.func14, Tryd.ntmps14
  have HT := Lib.hid (Two.new w ⟨i, b, f, c, s⟩ ⟨0, 0, 0, 0, 0⟩)
  go_wp2_with fail
  obtain ⟨V, hV⟩ : ∃ V, (w.alloc (.cells #[.int .i64 i, .int .i64 b, .int .i64 f, .int .i64 c, .int .i64 s] 23)).alloc (.cells #[.int .i64 0, .int .i64 0, .int .i64 0, .int .i64 0, .int .i64 0] 23) = V := ⟨_, rfl⟩
  rw [hV] at HT ⊢
  clear hV
  refine (valid_at ⟨i, b, f, c, s⟩ _ _ hv.out).mono ?_
  rintro e w1 ⟨rfl, b1⟩
  replace HT := Lib.hid (HT.out.keep b1)
  clear b1
  obtain ⟨B1, ⟨c0, c1, c2, c3, c4⟩, TZ, F1, S1⟩ := HT.out
  have BA : Below w.heap.size w (w1.alloc (.cells #[.int .i64 i, .int .i64 b, .int .i64 f, .int .i64 c, .int .i64 s] 42)) := ball B1 _
  have TAZ : TkAt (w1.alloc (.cells #[.int .i64 i, .int .i64 b, .int .i64 f, .int .i64 c, .int .i64 s] 42)) (w.heap.size + 1) ⟨0, 0, 0, 0, 0⟩ := ⟨old1 TZ.1 _, old1 TZ.2.1 _, old1 TZ.2.2.1 _, old1 TZ.2.2.2.1 _, old1 TZ.2.2.2.2 _⟩
  have FA : ∀ j, (w1.alloc (.cells #[.int .i64 i, .int .i64 b, .int .i64 f, .int .i64 c, .int .i64 s] 42)).frozen? ⟨w.heap.size + 1, j, none⟩ = false := fun j => (frozen?_alloc_cells _ _ _ _).trans (F1 j)
  have f0 := FA 0; have f1 := FA 1; have f2 := FA 2; have f3 := FA 3; have f4 := FA 4
  obtain ⟨z0, z1, z2, z3, z4⟩ := TZ
  simp only at c0 c1 c2 c3 c4 z0 z1 z2 z3 z4
  clear FA F1
  have hk : 0 < w1.heap.size := by omega
  have hT1 := hT.keep BA
  go_wp2_with fail
  refine (frame_at _ _ _ hf.out).mono ?_
  rintro e w2 ⟨rfl, rfl⟩
  go_wp2_with fail
  have TX : TkAt (w1.alloc (.cells #[.int .i64 i, .int .i64 b, .int .i64 f, .int .i64 c, .int .i64 s] 42)) w1.heap.size ⟨i, b, f, c, s⟩ := ⟨new0 rfl rfl, new0 rfl rfl, new0 rfl rfl, new0 rfl rfl, new0 rfl rfl⟩
  have FX : ∀ j, (w1.alloc (.cells #[.int .i64 i, .int .i64 b, .int .i64 f, .int .i64 c, .int .i64 s] 42)).frozen? ⟨w1.heap.size, j, none⟩ = false := fun j => (frozen?_alloc_cells _ _ _ _).trans (frz_new (Nat.le_refl _))
  refine (begin_at ⟨i, b, f, c, s⟩ _ _ n w1.heap.size _ HU.out hT1 s0 s1 HL.out HN.out.1 HN.out.2 TX FX hk).mono ?_
  clear TX FX c0 c1 c2 c3 c4 z0 z1 z2 z3 z4 f0 f1 f2 f3 f4 BA TAZ hT1
  rintro e w3 ⟨⟨v, rfl⟩, ⟨x0, x1, x2, x3, x4⟩, b3⟩
  simp only at x0 x1 x2 x3 x4
  replace HT := Lib.hid (HT.out.begun b3)
  clear b3
  obtain ⟨B3, ⟨c0, c1, c2, c3, c4⟩, ⟨z0, z1, z2, z3, z4⟩, F3, S3⟩ := HT.out
  simp only at c0 c1 c2 c3 c4 z0 z1 z2 z3 z4
  have f0 := F3 0; have f1 := F3 1; have f2 := F3 2; have f3 := F3 3; have f4 := F3 4
  clear F3
  by_cases hne : n = uf
  · have HE := Lib.hid hne
    subst hne
    go_wp2_with fail
    have q := HT.out.Z.setAll ui ub n 0 us
    have BZ := below_set5 HT.out.B (Nat.le_succ _) ui ub n 0 us
    obtain ⟨Z, hZ⟩ : ∃ Z, ((((w3.setCell ⟨w.heap.size + 1, 0, none⟩ (.int .i64 ui)).setCell ⟨w.heap.size + 1, 1, none⟩ (.int .i64 ub)).setCell ⟨w.heap.size + 1, 2, none⟩ (.int .i64 n)).setCell ⟨w.heap.size + 1, 3, none⟩ (.int .i64 0)).setCell ⟨w.heap.size + 1, 4, none⟩ (.int .i64 us) = Z := ⟨_, rfl⟩
    rw [hZ] at q BZ ⊢
    clear hZ
    obtain ⟨q0, q1, q2, q3, q4⟩ := q
    simp only at q0 q1 q2 q3 q4
    refine bodyPost_ret (v := .tuple #[(⟨ui, ub, n, 0, us⟩ : Tk).v, .bool true]) (by simp [results, Tryd.results14, go_sem, q0, q1, q2, q3, q4]) rfl ⟨?_, BZ⟩
    exact by rw [← hy.out]; simp
  · have hne2 : ¬ uf = n := fun h => hne h.symm
    go_wp2_with fail
    have q := HT.out.Z.setAll ui ub uf 0 us
    have BZ := below_set5 HT.out.B (Nat.le_succ _) ui ub uf 0 us
    obtain ⟨Z, hZ⟩ : ∃ Z, ((((w3.setCell ⟨w.heap.size + 1, 0, none⟩ (.int .i64 ui)).setCell ⟨w.heap.size + 1, 1, none⟩ (.int .i64 ub)).setCell ⟨w.heap.size + 1, 2, none⟩ (.int .i64 uf)).setCell ⟨w.heap.size + 1, 3, none⟩ (.int .i64 0)).setCell ⟨w.heap.size + 1, 4, none⟩ (.int .i64 us) = Z := ⟨_, rfl⟩
    rw [hZ] at q BZ ⊢
    clear hZ
    obtain ⟨q0, q1, q2, q3, q4⟩ := q
    simp only at q0 q1 q2 q3 q4
    refine bodyPost_ret (v := .tuple #[(⟨ui, ub, uf, 0, us⟩ : Tk).v, .bool false]) (by simp [results, Tryd.results14, go_sem, q0, q1, q2, q3, q4]) rfl ⟨?_, BZ⟩
    exact by rw [← hy.out]; simp [hne2]
/-- What a tick returns. -/
theorem tick_any (t : Tk) (n : Int) (w : World) (hT : Tab w) : Calls Tryd.prog 14 #[t.v, .int .i64 n] w (TickPost (tickT t n) (tickB t n) w) := by
  cases hv : validT t
  · have k : tickOk t n = false := by simp [tickOk, hv]
    have e1 : tickT t n = t := by unfold tickT; rw [if_neg (by rw [k]; simp)]
    have e2 : tickB t n = false := by simp [tickB, k]
    rw [e1, e2]; exact tick_no1 t n w (Lib.hid hv)
  cases hf : frameB n
  · have k : tickOk t n = false := by simp [tickOk, hf]
    have e1 : tickT t n = t := by unfold tickT; rw [if_neg (by rw [k]; simp)]
    have e2 : tickB t n = false := by simp [tickB, k]
    rw [e1, e2]; exact tick_no2 t n w (Lib.hid hv) (Lib.hid hf)
  by_cases hn : n < t.b
  · have k : tickOk t n = false := by simp [tickOk]; omega
    have e1 : tickT t n = t := by unfold tickT; rw [if_neg (by rw [k]; simp)]
    have e2 : tickB t n = false := by simp [tickB, k]
    rw [e1, e2]; exact tick_no3 t n w (Lib.hid hv) (Lib.hid hf) hn
  have k : tickOk t n = true := by simp [tickOk, hv, hf]; omega
  obtain ⟨hl, b0, b1, s0, s1, c0, c1, f0, f1⟩ := validT_iff.1 hv
  by_cases hn2 : n < t.b + t.i
  · have e1 : tickT t n = t := by unfold tickT; rw [if_neg (by omega)]
    have e2 : tickB t n = (decide (t.f = n) && decide (t.c ≤ 1)) := by unfold tickB; rw [e1, k]; rfl
    rw [e1, e2]
    by_cases hne : t.f = n
    · have := tick_in t n w (Lib.hid hv) (Lib.hid hf) (by omega) hn2 (by omega) (by omega) b0 b1 (Lib.hid hne)
      rwa [show (decide (t.f = n) && decide (t.c ≤ 1)) = decide (t.c ≤ 1) by simp [hne]]
    · rw [show (decide (t.f = n) && decide (t.c ≤ 1)) = false by simp [hne]]
      exact tick_in2 t n w (Lib.hid hv) (Lib.hid hf) (by omega) hn2 (by omega) (by omega) b0 b1 (fun h => hne h.symm)
  · have e1 : tickT t n = ivalV t.s (min 8 (2 * t.i)) n := by unfold tickT; rw [if_pos ⟨k, by omega⟩]
    have e2 : tickB t n = decide ((ivalV t.s (min 8 (2 * t.i)) n).f = n) := by unfold tickB; rw [e1, k]; simp [ivalV]
    rw [e1, e2]
    exact tick_new t _ n _ w hT (Lib.hid hv) (Lib.hid hf) (by omega) hl b0 b1 s0 s1 rfl (Lib.hid rfl)
theorem tick_at (t u : Tk) (n : Int) (y : Bool) (w : World) (hT : Tab w) (hu : tickT t n = u) (hy : tickB t n = y) : Calls Tryd.prog 14 #[t.v, .int .i64 n] w (TickPost u y w) := by
  rw [← hu, ← hy]; exact tick_any t n w hT
end Go.Proofs.YteeajkopigdblaaDoor
