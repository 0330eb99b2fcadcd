/- Proved: what Tick of trickle's reference returns. Conditions: none. -/
import Derived.Test.YteeajkopigdblaaDoorW4
namespace Go.Proofs.YteeajkopigdblaaDoor
open Go.RowKit Go.Sort Go.BigFrame Go.Proofs.YteeajkopigdblaaDoor.K
set_option linter.unusedVariables false
set_option linter.unusedSimpArgs false
attribute [local go_sem] cell_alloc_old
theorem cell_other5 {w : World} {k k8 m : Nat} {v : Value} (h : w.cell? ⟨k, m, none⟩ = some v) (hk : k8 ≠ k) (i b f c s : Int) : (((((w.setCell ⟨k8, 0, none⟩ (.int .i64 i)).setCell ⟨k8, 1, none⟩ (.int .i64 b)).setCell ⟨k8, 2, none⟩ (.int .i64 f)).setCell ⟨k8, 3, none⟩ (.int .i64 c)).setCell ⟨k8, 4, none⟩ (.int .i64 s)).cell? ⟨k, m, none⟩ = some v := by
  have g : ∀ j, (⟨k8, j, none⟩ : Addr) ≠ ⟨k, m, none⟩ := fun j e => hk (congrArg Addr.block e)
  rw [World.cell?_setCell_other _ _ _ _ (g 4), World.cell?_setCell_other _ _ _ _ (g 3), World.cell?_setCell_other _ _ _ _ (g 2), World.cell?_setCell_other _ _ _ _ (g 1), World.cell?_setCell_other _ _ _ _ (g 0)]; exact h
theorem TkAt.drew {w : World} {k : Nat} {t : Tk} (h : TkAt w k t) : TkAt w.drew k t := h
theorem TkAt.other5 {w : World} {k k8 : Nat} {t : Tk} (h : TkAt w k t) (hk : k8 ≠ k) (i b f c s : Int) : TkAt (((((w.setCell ⟨k8, 0, none⟩ (.int .i64 i)).setCell ⟨k8, 1, none⟩ (.int .i64 b)).setCell ⟨k8, 2, none⟩ (.int .i64 f)).setCell ⟨k8, 3, none⟩ (.int .i64 c)).setCell ⟨k8, 4, none⟩ (.int .i64 s)) k t :=
  ⟨cell_other5 h.1 hk .., cell_other5 h.2.1 hk .., cell_other5 h.2.2.1 hk .., cell_other5 h.2.2.2.1 hk .., cell_other5 h.2.2.2.2 hk ..⟩

set_option maxRecDepth 100000 in
set_option maxHeartbeats 2000000 in
theorem rtick_no1 (t : Tk) (n : Int) (w : World) (hv : Hid (validT t = false)) (fz : Bool) (hf : Hid (frameB n = fz)) : Calls Tryd.prog 19 #[t.v, .int .i64 n] w (TickPost t false w) := by
  obtain ⟨i, b, f, c, s⟩ := t
  go_enter Tryd.func19, Tryd.ntmps19
  have HT := Lib.hid (Two.new w ⟨i, b, f, c, s⟩ ⟨0, 0, 0, 0, 0⟩)
  go_wp2_with fail
  obtain ⟨V, hV⟩ : ∃ V, (w.alloc (.cells #[.int .i64 i, .int .i64 b, .int .i64 f, .int .i64 c, .int .i64 s] 23)).alloc (.cells #[.int .i64 0, .int .i64 0, .int .i64 0, .int .i64 0, .int .i64 0] 23) = V := ⟨_, rfl⟩
  rw [hV] at HT ⊢
  clear hV
  refine (rvalid_at ⟨i, b, f, c, s⟩ _ _ hv.out).mono ?_
  rintro e w1 ⟨rfl, b1⟩
  replace HT := Lib.hid (HT.out.keep b1)
  clear b1
  obtain ⟨B1, ⟨c0, c1, c2, c3, c4⟩, ⟨z0, z1, z2, z3, z4⟩, F1, S1⟩ := HT.out
  simp only at c0 c1 c2 c3 c4 z0 z1 z2 z3 z4
  have f0 := F1 0; have f1 := F1 1; have f2 := F1 2; have f3 := F1 3; have f4 := F1 4
  clear F1
  go_wp2_with fail
  refine (rframe_at _ _ _ hf.out).mono ?_
  rintro e w2 ⟨rfl, rfl⟩
  go_wp2_with fail
  have q := (HT.out.Z).setAll i b f c s
  have BZ := below_set5 HT.out.B (Nat.le_succ _) i b f c s
  obtain ⟨Z, hZ⟩ : ∃ Z, ((((w1.setCell ⟨w.heap.size + 1, 0, none⟩ (.int .i64 i)).setCell ⟨w.heap.size + 1, 1, none⟩ (.int .i64 b)).setCell ⟨w.heap.size + 1, 2, none⟩ (.int .i64 f)).setCell ⟨w.heap.size + 1, 3, none⟩ (.int .i64 c)).setCell ⟨w.heap.size + 1, 4, none⟩ (.int .i64 s) = Z := ⟨_, rfl⟩
  rw [hZ] at q BZ ⊢
  clear hZ
  obtain ⟨q0, q1, q2, q3, q4⟩ := q
  simp only at q0 q1 q2 q3 q4
  refine bodyPost_ret (v := .tuple #[(⟨i, b, f, c, s⟩ : Tk).v, .bool (false)]) (by simp [results, Tryd.results19, go_sem, q0, q1, q2, q3, q4]) rfl ⟨rfl, BZ⟩
set_option maxRecDepth 100000 in
set_option maxHeartbeats 2000000 in
theorem rtick_no2 (t : Tk) (n : Int) (w : World) (hv : Hid (validT t = true)) (hf : Hid (frameB n = false)) : Calls Tryd.prog 19 #[t.v, .int .i64 n] w (TickPost t false w) := by
  obtain ⟨i, b, f, c, s⟩ := t
  go_enter Tryd.func19, Tryd.ntmps19
  have HT := Lib.hid (Two.new w ⟨i, b, f, c, s⟩ ⟨0, 0, 0, 0, 0⟩)
  go_wp2_with fail
  obtain ⟨V, hV⟩ : ∃ V, (w.alloc (.cells #[.int .i64 i, .int .i64 b, .int .i64 f, .int .i64 c, .int .i64 s] 23)).alloc (.cells #[.int .i64 0, .int .i64 0, .int .i64 0, .int .i64 0, .int .i64 0] 23) = V := ⟨_, rfl⟩
  rw [hV] at HT ⊢
  clear hV
  refine (rvalid_at ⟨i, b, f, c, s⟩ _ _ hv.out).mono ?_
  rintro e w1 ⟨rfl, b1⟩
  replace HT := Lib.hid (HT.out.keep b1)
  clear b1
  obtain ⟨B1, ⟨c0, c1, c2, c3, c4⟩, ⟨z0, z1, z2, z3, z4⟩, F1, S1⟩ := HT.out
  simp only at c0 c1 c2 c3 c4 z0 z1 z2 z3 z4
  have f0 := F1 0; have f1 := F1 1; have f2 := F1 2; have f3 := F1 3; have f4 := F1 4
  clear F1
  go_wp2_with fail
  refine (rframe_at _ _ _ hf.out).mono ?_
  rintro e w2 ⟨rfl, rfl⟩
  go_wp2_with fail
  have q := (HT.out.Z).setAll i b f c s
  have BZ := below_set5 HT.out.B (Nat.le_succ _) i b f c s
  obtain ⟨Z, hZ⟩ : ∃ Z, ((((w1.setCell ⟨w.heap.size + 1, 0, none⟩ (.int .i64 i)).setCell ⟨w.heap.size + 1, 1, none⟩ (.int .i64 b)).setCell ⟨w.heap.size + 1, 2, none⟩ (.int .i64 f)).setCell ⟨w.heap.size + 1, 3, none⟩ (.int .i64 c)).setCell ⟨w.heap.size + 1, 4, none⟩ (.int .i64 s) = Z := ⟨_, rfl⟩
  rw [hZ] at q BZ ⊢
  clear hZ
  obtain ⟨q0, q1, q2, q3, q4⟩ := q
  simp only at q0 q1 q2 q3 q4
  refine bodyPost_ret (v := .tuple #[(⟨i, b, f, c, s⟩ : Tk).v, .bool (false)]) (by simp [results, Tryd.results19, go_sem, q0, q1, q2, q3, q4]) rfl ⟨rfl, BZ⟩
set_option maxRecDepth 100000 in
set_option maxHeartbeats 2000000 in
theorem rtick_no3 (t : Tk) (n : Int) (w : World) (hv : Hid (validT t = true)) (hf : Hid (frameB n = true)) (hn : n < t.b) : Calls Tryd.prog 19 #[t.v, .int .i64 n] w (TickPost t false w) := by
  obtain ⟨i, b, f, c, s⟩ := t
  simp only at hn
  go_enter Tryd.func19, Tryd.ntmps19
  have HT := Lib.hid (Two.new w ⟨i, b, f, c, s⟩ ⟨0, 0, 0, 0, 0⟩)
  go_wp2_with fail
  obtain ⟨V, hV⟩ : ∃ V, (w.alloc (.cells #[.int .i64 i, .int .i64 b, .int .i64 f, .int .i64 c, .int .i64 s] 23)).alloc (.cells #[.int .i64 0, .int .i64 0, .int .i64 0, .int .i64 0, .int .i64 0] 23) = V := ⟨_, rfl⟩
  rw [hV] at HT ⊢
  clear hV
  refine (rvalid_at ⟨i, b, f, c, s⟩ _ _ hv.out).mono ?_
  rintro e w1 ⟨rfl, b1⟩
  replace HT := Lib.hid (HT.out.keep b1)
  clear b1
  obtain ⟨B1, ⟨c0, c1, c2, c3, c4⟩, ⟨z0, z1, z2, z3, z4⟩, F1, S1⟩ := HT.out
  simp only at c0 c1 c2 c3 c4 z0 z1 z2 z3 z4
  have f0 := F1 0; have f1 := F1 1; have f2 := F1 2; have f3 := F1 3; have f4 := F1 4
  clear F1
  go_wp2_with fail
  refine (rframe_at _ _ _ hf.out).mono ?_
  rintro e w2 ⟨rfl, rfl⟩
  go_wp2_with fail
  have q := (HT.out.Z).setAll i b f c s
  have BZ := below_set5 HT.out.B (Nat.le_succ _) i b f c s
  obtain ⟨Z, hZ⟩ : ∃ Z, ((((w1.setCell ⟨w.heap.size + 1, 0, none⟩ (.int .i64 i)).setCell ⟨w.heap.size + 1, 1, none⟩ (.int .i64 b)).setCell ⟨w.heap.size + 1, 2, none⟩ (.int .i64 f)).setCell ⟨w.heap.size + 1, 3, none⟩ (.int .i64 c)).setCell ⟨w.heap.size + 1, 4, none⟩ (.int .i64 s) = Z := ⟨_, rfl⟩
  rw [hZ] at q BZ ⊢
  clear hZ
  obtain ⟨q0, q1, q2, q3, q4⟩ := q
  simp only at q0 q1 q2 q3 q4
  refine bodyPost_ret (v := .tuple #[(⟨i, b, f, c, s⟩ : Tk).v, .bool (false)]) (by simp [results, Tryd.results19, go_sem, q0, q1, q2, q3, q4]) rfl ⟨rfl, BZ⟩
set_option maxRecDepth 100000 in
set_option maxHeartbeats 2000000 in
theorem rtick_in (t : Tk) (n : Int) (w : World) (hv : Hid (validT t = true)) (hf : Hid (frameB n = true)) (hn : t.b ≤ n) (hn2 : n < t.b + t.i) (i1 : 1 ≤ t.i) (i8 : t.i ≤ 8) (b0 : 0 ≤ t.b) (b1 : t.b ≤ 999999984) (hne : Hid (t.f = n)) : Calls Tryd.prog 19 #[t.v, .int .i64 n] w (TickPost t (decide (t.c ≤ 1)) w) := by
  obtain ⟨i, b, f, c, s⟩ := t
  simp only at hn hn2 i1 i8 b0 b1 hne ⊢
  have hne := hne.out; subst hne
  go_enter Tryd.func19, Tryd.ntmps19
  have HT := Lib.hid (Two.new w ⟨i, b, f, c, s⟩ ⟨0, 0, 0, 0, 0⟩)
  go_wp2_with fail
  obtain ⟨V, hV⟩ : ∃ V, (w.alloc (.cells #[.int .i64 i, .int .i64 b, .int .i64 f, .int .i64 c, .int .i64 s] 23)).alloc (.cells #[.int .i64 0, .int .i64 0, .int .i64 0, .int .i64 0, .int .i64 0] 23) = V := ⟨_, rfl⟩
  rw [hV] at HT ⊢
  clear hV
  refine (rvalid_at ⟨i, b, f, c, s⟩ _ _ hv.out).mono ?_
  rintro e w1 ⟨rfl, b1⟩
  replace HT := Lib.hid (HT.out.keep b1)
  clear b1
  obtain ⟨B1, ⟨c0, c1, c2, c3, c4⟩, TZ, F1, S1⟩ := HT.out
  simp only at c0 c1 c2 c3 c4
  go_wp2_with fail
  refine (rframe_at _ _ _ hf.out).mono ?_
  rintro e w2 ⟨rfl, rfl⟩
  go_wp2_with fail
  have B2 : Below w.heap.size w (w1.alloc (.cells #[.int .i64 i, .int .i64 b, .int .i64 f, .int .i64 c, .int .i64 s] 23)) := ball B1 _
  have TZ2 : TkAt (w1.alloc (.cells #[.int .i64 i, .int .i64 b, .int .i64 f, .int .i64 c, .int .i64 s] 23)) (w.heap.size + 1) ⟨0, 0, 0, 0, 0⟩ := ⟨old1 TZ.1 _, old1 TZ.2.1 _, old1 TZ.2.2.1 _, old1 TZ.2.2.2.1 _, old1 TZ.2.2.2.2 _⟩
  have FA : ∀ j, (w1.alloc (.cells #[.int .i64 i, .int .i64 b, .int .i64 f, .int .i64 c, .int .i64 s] 23)).frozen? ⟨w.heap.size + 1, j, none⟩ = false := fun j => (frozen?_alloc_cells _ _ _ _).trans (F1 j)
  have TX : TkAt (w1.alloc (.cells #[.int .i64 i, .int .i64 b, .int .i64 f, .int .i64 c, .int .i64 s] 23)) w1.heap.size ⟨i, b, f, c, s⟩ := ⟨new0 rfl rfl, new0 rfl rfl, new0 rfl rfl, new0 rfl rfl, new0 rfl rfl⟩
  obtain ⟨V2, hV2⟩ : ∃ V2, w1.alloc (.cells #[.int .i64 i, .int .i64 b, .int .i64 f, .int .i64 c, .int .i64 s] 23) = V2 := ⟨_, rfl⟩
  obtain ⟨k8, hk8⟩ : ∃ k8, w1.heap.size = k8 := ⟨_, rfl⟩
  rw [hV2] at B2 TZ2 FA TX ⊢
  rw [hk8] at TX ⊢
  have hk9 : w.heap.size + 2 ≤ k8 := by omega
  clear hV2 hk8 c0 c1 c2 c3 c4 F1 TZ HT
  have f0 := FA 0; have f1 := FA 1; have f2 := FA 2; have f3 := FA 3; have f4 := FA 4
  clear FA
  obtain ⟨x0, x1, x2, x3, x4⟩ := TX
  simp only at x0 x1 x2 x3 x4
  have TZ2' := TZ2
  obtain ⟨z0, z1, z2, z3, z4⟩ := TZ2'
  simp only at z0 z1 z2 z3 z4
  have nb1 : ¬ k8 = w.heap.size + 1 := by omega
  have nb2 : ¬ w.heap.size + 1 = k8 := by omega
  go_region
  clear nb1 nb2 x0 x1 x2 x3 x4
  go_wp2_with fail
  have q := (TZ2).setAll i b f c s
  have BZ := below_set5 B2 (Nat.le_succ _) i b f c s
  replace q := q.drew
  have BZ := Below.drew BZ
  obtain ⟨Z, hZ⟩ : ∃ Z, (((((V2.setCell ⟨w.heap.size + 1, 0, none⟩ (.int .i64 i)).setCell ⟨w.heap.size + 1, 1, none⟩ (.int .i64 b)).setCell ⟨w.heap.size + 1, 2, none⟩ (.int .i64 f)).setCell ⟨w.heap.size + 1, 3, none⟩ (.int .i64 c)).setCell ⟨w.heap.size + 1, 4, none⟩ (.int .i64 s)).drew = Z := ⟨_, rfl⟩
  rw [hZ] at q BZ ⊢
  clear hZ
  obtain ⟨q0, q1, q2, q3, q4⟩ := q
  simp only at q0 q1 q2 q3 q4
  refine bodyPost_ret (v := .tuple #[(⟨i, b, f, c, s⟩ : Tk).v, .bool (decide (c ≤ 1))]) (by simp [results, Tryd.results19, go_sem, q0, q1, q2, q3, q4]) rfl ⟨rfl, BZ⟩
set_option maxRecDepth 100000 in
set_option maxHeartbeats 2000000 in
theorem rtick_in2 (t : Tk) (n : Int) (w : World) (hv : Hid (validT t = true)) (hf : Hid (frameB n = true)) (hn : t.b ≤ n) (hn2 : n < t.b + t.i) (i1 : 1 ≤ t.i) (i8 : t.i ≤ 8) (b0 : 0 ≤ t.b) (b1 : t.b ≤ 999999984) (hne : ¬ t.f = n) : Calls Tryd.prog 19 #[t.v, .int .i64 n] w (TickPost t (false) w) := by
  obtain ⟨i, b, f, c, s⟩ := t
  simp only at hn hn2 i1 i8 b0 b1 hne ⊢
  go_enter Tryd.func19, Tryd.ntmps19
  have HT := Lib.hid (Two.new w ⟨i, b, f, c, s⟩ ⟨0, 0, 0, 0, 0⟩)
  go_wp2_with fail
  obtain ⟨V, hV⟩ : ∃ V, (w.alloc (.cells #[.int .i64 i, .int .i64 b, .int .i64 f, .int .i64 c, .int .i64 s] 23)).alloc (.cells #[.int .i64 0, .int .i64 0, .int .i64 0, .int .i64 0, .int .i64 0] 23) = V := ⟨_, rfl⟩
  rw [hV] at HT ⊢
  clear hV
  refine (rvalid_at ⟨i, b, f, c, s⟩ _ _ hv.out).mono ?_
  rintro e w1 ⟨rfl, b1⟩
  replace HT := Lib.hid (HT.out.keep b1)
  clear b1
  obtain ⟨B1, ⟨c0, c1, c2, c3, c4⟩, TZ, F1, S1⟩ := HT.out
  simp only at c0 c1 c2 c3 c4
  go_wp2_with fail
  refine (rframe_at _ _ _ hf.out).mono ?_
  rintro e w2 ⟨rfl, rfl⟩
  go_wp2_with fail
  have B2 : Below w.heap.size w (w1.alloc (.cells #[.int .i64 i, .int .i64 b, .int .i64 f, .int .i64 c, .int .i64 s] 23)) := ball B1 _
  have TZ2 : TkAt (w1.alloc (.cells #[.int .i64 i, .int .i64 b, .int .i64 f, .int .i64 c, .int .i64 s] 23)) (w.heap.size + 1) ⟨0, 0, 0, 0, 0⟩ := ⟨old1 TZ.1 _, old1 TZ.2.1 _, old1 TZ.2.2.1 _, old1 TZ.2.2.2.1 _, old1 TZ.2.2.2.2 _⟩
  have FA : ∀ j, (w1.alloc (.cells #[.int .i64 i, .int .i64 b, .int .i64 f, .int .i64 c, .int .i64 s] 23)).frozen? ⟨w.heap.size + 1, j, none⟩ = false := fun j => (frozen?_alloc_cells _ _ _ _).trans (F1 j)
  have TX : TkAt (w1.alloc (.cells #[.int .i64 i, .int .i64 b, .int .i64 f, .int .i64 c, .int .i64 s] 23)) w1.heap.size ⟨i, b, f, c, s⟩ := ⟨new0 rfl rfl, new0 rfl rfl, new0 rfl rfl, new0 rfl rfl, new0 rfl rfl⟩
  obtain ⟨V2, hV2⟩ : ∃ V2, w1.alloc (.cells #[.int .i64 i, .int .i64 b, .int .i64 f, .int .i64 c, .int .i64 s] 23) = V2 := ⟨_, rfl⟩
  obtain ⟨k8, hk8⟩ : ∃ k8, w1.heap.size = k8 := ⟨_, rfl⟩
  rw [hV2] at B2 TZ2 FA TX ⊢
  rw [hk8] at TX ⊢
  have hk9 : w.heap.size + 2 ≤ k8 := by omega
  clear hV2 hk8 c0 c1 c2 c3 c4 F1 TZ HT
  have f0 := FA 0; have f1 := FA 1; have f2 := FA 2; have f3 := FA 3; have f4 := FA 4
  clear FA
  obtain ⟨x0, x1, x2, x3, x4⟩ := TX
  simp only at x0 x1 x2 x3 x4
  have hneb : (f == n) = false := beq_eq_false_iff_ne.2 hne
  have TZ2' := TZ2
  obtain ⟨z0, z1, z2, z3, z4⟩ := TZ2'
  simp only at z0 z1 z2 z3 z4
  have nb1 : ¬ k8 = w.heap.size + 1 := by omega
  have nb2 : ¬ w.heap.size + 1 = k8 := by omega
  go_region
  clear nb1 nb2 x0 x1 x2 x3 x4
  go_wp2_with fail
  have q := (TZ2).setAll i b f c s
  have BZ := below_set5 B2 (Nat.le_succ _) i b f c s
  replace q := q.drew
  have BZ := Below.drew BZ
  obtain ⟨Z, hZ⟩ : ∃ Z, (((((V2.setCell ⟨w.heap.size + 1, 0, none⟩ (.int .i64 i)).setCell ⟨w.heap.size + 1, 1, none⟩ (.int .i64 b)).setCell ⟨w.heap.size + 1, 2, none⟩ (.int .i64 f)).setCell ⟨w.heap.size + 1, 3, none⟩ (.int .i64 c)).setCell ⟨w.heap.size + 1, 4, none⟩ (.int .i64 s)).drew = Z := ⟨_, rfl⟩
  rw [hZ] at q BZ ⊢
  clear hZ
  obtain ⟨q0, q1, q2, q3, q4⟩ := q
  simp only at q0 q1 q2 q3 q4
  refine bodyPost_ret (v := .tuple #[(⟨i, b, f, c, s⟩ : Tk).v, .bool (false)]) (by simp [results, Tryd.results19, go_sem, q0, q1, q2, q3, q4]) rfl ⟨rfl, BZ⟩
set_option maxRecDepth 100000 in
set_option maxHeartbeats 2000000 in
theorem rtick_new (t u : Tk) (n : Int) (y : Bool) (w : World) (hv : Hid (validT t = true)) (hf : Hid (frameB n = true)) (hn2 : t.b + t.i ≤ n) (hl : t.i = 1 ∨ t.i = 2 ∨ t.i = 4 ∨ t.i = 8) (b0 : 0 ≤ t.b) (b1 : t.b ≤ 999999984) (s0 : 0 ≤ t.s) (s1 : t.s ≤ 1000000000) (hu : ivalV t.s (min 8 (2 * t.i)) n = u) (hy : Hid ((decide (u.f = n)) = y)) : Calls Tryd.prog 19 #[t.v, .int .i64 n] w (TickPost u y w) := by
  obtain ⟨i, b, f, c, s⟩ := t
  simp only at hn2 hl b0 b1 s0 s1 hu
  have hl2 : min 8 (2 * i) = 1 ∨ min 8 (2 * i) = 2 ∨ min 8 (2 * i) = 4 ∨ min 8 (2 * i) = 8 := by omega
  have uc : u.c = 0 := by rw [← hu]; rfl
  obtain ⟨ui, ub, uf, uk, us⟩ := u
  simp only at uc hy
  subst uc
  have i18 : 1 ≤ i ∧ i ≤ 8 := by omega
  obtain ⟨i1, i8⟩ := i18
  have n01 := frameB_iff.1 hf.out
  have HL := Lib.hid hl2; have HU := Lib.hid hu; have HN := Lib.hid n01
  have hn : b ≤ n := by omega
  clear hl2 hu hl n01
  go_enter Tryd.func19, Tryd.ntmps19
  have HT := Lib.hid (Two.new w ⟨i, b, f, c, s⟩ ⟨0, 0, 0, 0, 0⟩)
  go_wp2_with fail
  obtain ⟨V, hV⟩ : ∃ V, (w.alloc (.cells #[.int .i64 i, .int .i64 b, .int .i64 f, .int .i64 c, .int .i64 s] 23)).alloc (.cells #[.int .i64 0, .int .i64 0, .int .i64 0, .int .i64 0, .int .i64 0] 23) = V := ⟨_, rfl⟩
  rw [hV] at HT ⊢
  clear hV
  refine (rvalid_at ⟨i, b, f, c, s⟩ _ _ hv.out).mono ?_
  rintro e w1 ⟨rfl, b1⟩
  replace HT := Lib.hid (HT.out.keep b1)
  clear b1
  obtain ⟨B1, ⟨c0, c1, c2, c3, c4⟩, TZ, F1, S1⟩ := HT.out
  simp only at c0 c1 c2 c3 c4
  go_wp2_with fail
  refine (rframe_at _ _ _ hf.out).mono ?_
  rintro e w2 ⟨rfl, rfl⟩
  go_wp2_with fail
  have B2 : Below w.heap.size w (w1.alloc (.cells #[.int .i64 i, .int .i64 b, .int .i64 f, .int .i64 c, .int .i64 s] 23)) := ball B1 _
  have TZ2 : TkAt (w1.alloc (.cells #[.int .i64 i, .int .i64 b, .int .i64 f, .int .i64 c, .int .i64 s] 23)) (w.heap.size + 1) ⟨0, 0, 0, 0, 0⟩ := ⟨old1 TZ.1 _, old1 TZ.2.1 _, old1 TZ.2.2.1 _, old1 TZ.2.2.2.1 _, old1 TZ.2.2.2.2 _⟩
  have FA : ∀ j, (w1.alloc (.cells #[.int .i64 i, .int .i64 b, .int .i64 f, .int .i64 c, .int .i64 s] 23)).frozen? ⟨w.heap.size + 1, j, none⟩ = false := fun j => (frozen?_alloc_cells _ _ _ _).trans (F1 j)
  have TX : TkAt (w1.alloc (.cells #[.int .i64 i, .int .i64 b, .int .i64 f, .int .i64 c, .int .i64 s] 23)) w1.heap.size ⟨i, b, f, c, s⟩ := ⟨new0 rfl rfl, new0 rfl rfl, new0 rfl rfl, new0 rfl rfl, new0 rfl rfl⟩
  have FX : ∀ j, (w1.alloc (.cells #[.int .i64 i, .int .i64 b, .int .i64 f, .int .i64 c, .int .i64 s] 23)).frozen? ⟨w1.heap.size, j, none⟩ = false := fun j => (frozen?_alloc_cells _ _ _ _).trans (frz_new (Nat.le_refl _))
  obtain ⟨V2, hV2⟩ : ∃ V2, w1.alloc (.cells #[.int .i64 i, .int .i64 b, .int .i64 f, .int .i64 c, .int .i64 s] 23) = V2 := ⟨_, rfl⟩
  obtain ⟨k8, hk8⟩ : ∃ k8, w1.heap.size = k8 := ⟨_, rfl⟩
  have hk9 : w.heap.size + 2 ≤ k8 := by omega
  rw [hV2] at B2 TZ2 FA TX FX ⊢
  rw [hk8] at TX FX ⊢
  clear hV2 hk8 c0 c1 c2 c3 c4 F1 TZ HT
  refine (rival_at s _ n _ _ s0 s1 HL.out HN.out.1 HN.out.2 HU.out).mono ?_
  rintro e w3 ⟨rfl, b3⟩
  have FA : ∀ j, w3.frozen? ⟨w.heap.size + 1, j, none⟩ = false := fun j => (b3.frozen (p := ⟨w.heap.size + 1, j, none⟩) (World.block_lt_of_cell? V2 ⟨w.heap.size + 1, 0, none⟩ TZ2.1)).trans (FA j)
  have FX : ∀ j, w3.frozen? ⟨k8, j, none⟩ = false := fun j => (b3.frozen (p := ⟨k8, j, none⟩) (World.block_lt_of_cell? V2 ⟨k8, 0, none⟩ TX.1)).trans (FX j)
  have TX := TX.keep b3
  have TZ2 := TZ2.keep b3
  have B2 := bstep B2 b3
  have g0 := FX 0; have g1 := FX 1; have g2 := FX 2; have g3 := FX 3; have g4 := FX 4
  have TX' := TX
  obtain ⟨x0, x1, x2, x3, x4⟩ := TX'
  simp only at x0 x1 x2 x3 x4
  clear b3 FX
  go_wp2_with fail
  have TX := TX.setAll ui ub uf 0 us
  have B2 := below_set5 B2 (k := k8) (by omega) ui ub uf 0 us
  have TZ2 := TZ2.other5 (k8 := k8) (by omega) ui ub uf 0 us
  obtain ⟨V3, hV3⟩ : ∃ V3, ((((w3.setCell ⟨k8, 0, none⟩ (.int .i64 ui)).setCell ⟨k8, 1, none⟩ (.int .i64 ub)).setCell ⟨k8, 2, none⟩ (.int .i64 uf)).setCell ⟨k8, 3, none⟩ (.int .i64 0)).setCell ⟨k8, 4, none⟩ (.int .i64 us) = V3 := ⟨_, rfl⟩
  have FA : ∀ j, V3.frozen? ⟨w.heap.size + 1, j, none⟩ = false := fun j => by rw [← hV3]; simp only [World.frozen?_setCell]; exact FA j
  rw [hV3] at TX B2 TZ2 ⊢
  have f0 := FA 0; have f1 := FA 1; have f2 := FA 2; have f3 := FA 3; have f4 := FA 4
  clear hV3 x0 x1 x2 x3 x4 g0 g1 g2 g3 g4 FA
  obtain ⟨x0, x1, x2, x3, x4⟩ := TX
  simp only at x0 x1 x2 x3 x4
  by_cases hne : uf = n
  · subst hne
    have TZ2' := TZ2
    obtain ⟨z0, z1, z2, z3, z4⟩ := TZ2'
    simp only at z0 z1 z2 z3 z4
    have nb1 : ¬ k8 = w.heap.size + 1 := by omega
    have nb2 : ¬ w.heap.size + 1 = k8 := by omega
    go_region
    clear nb1 nb2 x0 x1 x2 x3 x4
    go_wp2_with fail
    have q := (TZ2).setAll ui ub uf 0 us
    have BZ := below_set5 B2 (Nat.le_succ _) ui ub uf 0 us
    replace q := q.drew
    have BZ := Below.drew BZ
    obtain ⟨Z, hZ⟩ : ∃ Z, (((((V3.setCell ⟨w.heap.size + 1, 0, none⟩ (.int .i64 ui)).setCell ⟨w.heap.size + 1, 1, none⟩ (.int .i64 ub)).setCell ⟨w.heap.size + 1, 2, none⟩ (.int .i64 uf)).setCell ⟨w.heap.size + 1, 3, none⟩ (.int .i64 0)).setCell ⟨w.heap.size + 1, 4, none⟩ (.int .i64 us)).drew = Z := ⟨_, rfl⟩
    rw [hZ] at q BZ ⊢
    clear hZ
    obtain ⟨q0, q1, q2, q3, q4⟩ := q
    simp only at q0 q1 q2 q3 q4
    refine bodyPost_ret (v := .tuple #[(⟨ui, ub, uf, 0, us⟩ : Tk).v, .bool (true)]) (by simp [results, Tryd.results19, go_sem, q0, q1, q2, q3, q4]) rfl ⟨by rw [← hy.out]; simp, BZ⟩
  · have htriv := trivial
    have hneb : (uf == n) = false := beq_eq_false_iff_ne.2 hne
    have TZ2' := TZ2
    obtain ⟨z0, z1, z2, z3, z4⟩ := TZ2'
    simp only at z0 z1 z2 z3 z4
    have nb1 : ¬ k8 = w.heap.size + 1 := by omega
    have nb2 : ¬ w.heap.size + 1 = k8 := by omega
    go_region
    clear nb1 nb2 x0 x1 x2 x3 x4
    go_wp2_with fail
    have q := (TZ2).setAll ui ub uf 0 us
    have BZ := below_set5 B2 (Nat.le_succ _) ui ub uf 0 us
    replace q := q.drew
    have BZ := Below.drew BZ
    obtain ⟨Z, hZ⟩ : ∃ Z, (((((V3.setCell ⟨w.heap.size + 1, 0, none⟩ (.int .i64 ui)).setCell ⟨w.heap.size + 1, 1, none⟩ (.int .i64 ub)).setCell ⟨w.heap.size + 1, 2, none⟩ (.int .i64 uf)).setCell ⟨w.heap.size + 1, 3, none⟩ (.int .i64 0)).setCell ⟨w.heap.size + 1, 4, none⟩ (.int .i64 us)).drew = Z := ⟨_, rfl⟩
    rw [hZ] at q BZ ⊢
    clear hZ
    obtain ⟨q0, q1, q2, q3, q4⟩ := q
    simp only at q0 q1 q2 q3 q4
    refine bodyPost_ret (v := .tuple #[(⟨ui, ub, uf, 0, us⟩ : Tk).v, .bool (false)]) (by simp [results, Tryd.results19, go_sem, q0, q1, q2, q3, q4]) rfl ⟨by rw [← hy.out]; simp [hne], BZ⟩
/-- What a tick of the reference returns. -/
theorem rtick_any (t : Tk) (n : Int) (w : World) : Calls Tryd.prog 19 #[t.v, .int .i64 n] w (TickPost (tickT t n) (tickB t n) w) := by
  cases hv : validT t
  · have k : tickOk t n = false := by simp [tickOk, hv]
    have e1 : tickT t n = t := by unfold tickT; rw [if_neg (by rw [k]; simp)]
    have e2 : tickB t n = false := by simp [tickB, k]
    rw [e1, e2]; exact rtick_no1 t n w (Lib.hid hv) _ (Lib.hid rfl)
  cases hf : frameB n
  · have k : tickOk t n = false := by simp [tickOk, hf]
    have e1 : tickT t n = t := by unfold tickT; rw [if_neg (by rw [k]; simp)]
    have e2 : tickB t n = false := by simp [tickB, k]
    rw [e1, e2]; exact rtick_no2 t n w (Lib.hid hv) (Lib.hid hf)
  by_cases hn : n < t.b
  · have k : tickOk t n = false := by simp [tickOk]; omega
    have e1 : tickT t n = t := by unfold tickT; rw [if_neg (by rw [k]; simp)]
    have e2 : tickB t n = false := by simp [tickB, k]
    rw [e1, e2]; exact rtick_no3 t n w (Lib.hid hv) (Lib.hid hf) hn
  have k : tickOk t n = true := by simp [tickOk, hv, hf]; omega
  obtain ⟨hl, b0, b1, s0, s1, c0, c1, f0, f1⟩ := validT_iff.1 hv
  by_cases hn2 : n < t.b + t.i
  · have e1 : tickT t n = t := by unfold tickT; rw [if_neg (by omega)]
    have e2 : tickB t n = (decide (t.f = n) && decide (t.c ≤ 1)) := by unfold tickB; rw [e1, k]; rfl
    rw [e1, e2]
    by_cases hne : t.f = n
    · have := rtick_in t n w (Lib.hid hv) (Lib.hid hf) (by omega) hn2 (by omega) (by omega) b0 b1 (Lib.hid hne)
      rwa [show (decide (t.f = n) && decide (t.c ≤ 1)) = decide (t.c ≤ 1) by simp [hne]]
    · rw [show (decide (t.f = n) && decide (t.c ≤ 1)) = false by simp [hne]]
      exact rtick_in2 t n w (Lib.hid hv) (Lib.hid hf) (by omega) hn2 (by omega) (by omega) b0 b1 hne
  · have e1 : tickT t n = ivalV t.s (min 8 (2 * t.i)) n := by unfold tickT; rw [if_pos ⟨k, by omega⟩]
    have e2 : tickB t n = decide ((ivalV t.s (min 8 (2 * t.i)) n).f = n) := by unfold tickB; rw [e1, k]; simp [ivalV]
    rw [e1, e2]
    exact rtick_new t _ n _ w (Lib.hid hv) (Lib.hid hf) (by omega) hl b0 b1 s0 s1 rfl (Lib.hid rfl)
theorem rtick_at (t u : Tk) (n : Int) (y : Bool) (w : World) (hu : tickT t n = u) (hy : tickB t n = y) : Calls Tryd.prog 19 #[t.v, .int .i64 n] w (TickPost u y w) := by
  rw [← hu, ← hy]; exact rtick_any t n w
end Go.Proofs.YteeajkopigdblaaDoor
