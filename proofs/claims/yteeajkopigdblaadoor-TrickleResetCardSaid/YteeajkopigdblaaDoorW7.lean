/- Proved: what Hear of package trickle and of its reference, and usable of the statements return. Conditions: none. -/
import Derived.Test.YteeajkopigdblaaDoorW6
namespace Go.Proofs.YteeajkopigdblaaDoor
open Go.RowKit Go.Sort Go.BigFrame Go.Proofs.YteeajkopigdblaaDoor.K
set_option linter.unusedVariables false
set_option linter.unusedSimpArgs false
attribute [local go_sem] cell_alloc_old
theorem TkAt.other1 {w : World} {k k8 : Nat} {t : Tk} (h : TkAt w k t) (hk : ¬ k8 = k) (j : Nat) (x : Int) : TkAt (w.setCell ⟨k8, j, none⟩ (.int .i64 x)) k t := by
  obtain ⟨c0, c1, c2, c3, c4⟩ := h
  refine ⟨?_, ?_, ?_, ?_, ?_⟩ <;> rw [World.cell?_setCell_other _ _ _ _ (fun e => hk (congrArg Addr.block e))] <;> assumption

set_option maxRecDepth 100000 in
set_option maxHeartbeats 2000000 in
theorem hear_no (t : Tk) (w : World) (hv : Hid (validT t = false)) : Calls Tryd.prog 15 #[t.v] w (OnePost t w) := by
  obtain ⟨i, b, f, c, s⟩ := t
  go_enter Tryd.func15, Tryd.ntmps15
  have HT := Lib.hid (Two.new w ⟨i, b, f, c, s⟩ ⟨0, 0, 0, 0, 0⟩)
  have FT : ∀ j, ((w.alloc (.cells #[.int .i64 i, .int .i64 b, .int .i64 f, .int .i64 c, .int .i64 s] 23)).alloc (.cells #[.int .i64 0, .int .i64 0, .int .i64 0, .int .i64 0, .int .i64 0] 23)).frozen? ⟨w.heap.size, j, none⟩ = false := fun j => by rw [frozen?_alloc_cells, frozen?_alloc_cells]; exact frz_new (Nat.le_refl _)
  go_wp2_with fail
  obtain ⟨V, hV⟩ : ∃ V, (w.alloc (.cells #[.int .i64 i, .int .i64 b, .int .i64 f, .int .i64 c, .int .i64 s] 23)).alloc (.cells #[.int .i64 0, .int .i64 0, .int .i64 0, .int .i64 0, .int .i64 0] 23) = V := ⟨_, rfl⟩
  rw [hV] at HT FT ⊢
  clear hV
  refine (valid_at ⟨i, b, f, c, s⟩ _ _ hv.out).mono ?_
  rintro e w1 ⟨rfl, b1⟩
  have FT : ∀ j, w1.frozen? ⟨w.heap.size, j, none⟩ = false := fun j => (b1.frozen (p := ⟨w.heap.size, j, none⟩) (by have := HT.out.S; simp only; omega)).trans (FT j)
  replace HT := Lib.hid (HT.out.keep b1)
  clear b1
  obtain ⟨B1, ⟨c0, c1, c2, c3, c4⟩, ⟨z0, z1, z2, z3, z4⟩, F1, S1⟩ := HT.out
  simp only at c0 c1 c2 c3 c4 z0 z1 z2 z3 z4
  have f0 := F1 0; have f1 := F1 1; have f2 := F1 2; have f3 := F1 3; have f4 := F1 4
  have g3 := FT 3
  clear F1 FT
  go_wp2_with fail
  have q := (HT.out.Z).setAll i b f c s
  have BZ := below_set5 (HT.out.B) (Nat.le_succ _) i b f c s
  obtain ⟨Z, hZ⟩ : ∃ Z, ((((w1.setCell ⟨w.heap.size + 1, 0, none⟩ (.int .i64 i)).setCell ⟨w.heap.size + 1, 1, none⟩ (.int .i64 b)).setCell ⟨w.heap.size + 1, 2, none⟩ (.int .i64 f)).setCell ⟨w.heap.size + 1, 3, none⟩ (.int .i64 c)).setCell ⟨w.heap.size + 1, 4, none⟩ (.int .i64 s) = Z := ⟨_, rfl⟩
  rw [hZ] at q BZ ⊢
  clear hZ
  obtain ⟨q0, q1, q2, q3, q4⟩ := q
  simp only at q0 q1 q2 q3 q4
  refine bodyPost_ret (v := (⟨i, b, f, c, s⟩ : Tk).v) (by simp [results, Tryd.results15, go_sem, q0, q1, q2, q3, q4]) rfl ⟨rfl, BZ⟩
set_option maxRecDepth 100000 in
set_option maxHeartbeats 2000000 in
theorem hear_yes (t : Tk) (w : World) (hv : Hid (validT t = true)) (h0 : 0 ≤ t.c) (h1 : t.c ≤ 100) : Calls Tryd.prog 15 #[t.v] w (OnePost { t with c := min 100 (t.c + 1) } w) := by
  obtain ⟨i, b, f, c, s⟩ := t
  simp only at h0 h1 ⊢
  go_enter Tryd.func15, Tryd.ntmps15
  have HT := Lib.hid (Two.new w ⟨i, b, f, c, s⟩ ⟨0, 0, 0, 0, 0⟩)
  have FT : ∀ j, ((w.alloc (.cells #[.int .i64 i, .int .i64 b, .int .i64 f, .int .i64 c, .int .i64 s] 23)).alloc (.cells #[.int .i64 0, .int .i64 0, .int .i64 0, .int .i64 0, .int .i64 0] 23)).frozen? ⟨w.heap.size, j, none⟩ = false := fun j => by rw [frozen?_alloc_cells, frozen?_alloc_cells]; exact frz_new (Nat.le_refl _)
  go_wp2_with fail
  obtain ⟨V, hV⟩ : ∃ V, (w.alloc (.cells #[.int .i64 i, .int .i64 b, .int .i64 f, .int .i64 c, .int .i64 s] 23)).alloc (.cells #[.int .i64 0, .int .i64 0, .int .i64 0, .int .i64 0, .int .i64 0] 23) = V := ⟨_, rfl⟩
  rw [hV] at HT FT ⊢
  clear hV
  refine (valid_at ⟨i, b, f, c, s⟩ _ _ hv.out).mono ?_
  rintro e w1 ⟨rfl, b1⟩
  have FT : ∀ j, w1.frozen? ⟨w.heap.size, j, none⟩ = false := fun j => (b1.frozen (p := ⟨w.heap.size, j, none⟩) (by have := HT.out.S; simp only; omega)).trans (FT j)
  replace HT := Lib.hid (HT.out.keep b1)
  clear b1
  obtain ⟨B1, ⟨c0, c1, c2, c3, c4⟩, ⟨z0, z1, z2, z3, z4⟩, F1, S1⟩ := HT.out
  simp only at c0 c1 c2 c3 c4 z0 z1 z2 z3 z4
  have f0 := F1 0; have f1 := F1 1; have f2 := F1 2; have f3 := F1 3; have f4 := F1 4
  have g3 := FT 3
  clear F1 FT
  have nb1 : ¬ w.heap.size = w.heap.size + 1 := by omega
  have nb2 : ¬ w.heap.size + 1 = w.heap.size := by omega
  have HB := Lib.hid (HT.out.B.setCell (p := ⟨w.heap.size, 3, none⟩) (Nat.le_refl _) (.int .i64 (min 100 (c + 1))))
  have HZ := Lib.hid (TkAt.other1 HT.out.Z nb1 3 (min 100 (c + 1)))
  go_wp2_with fail
  have q := (HZ.out).setAll i b f (min 100 (c + 1)) s
  have BZ := below_set5 (HB.out) (Nat.le_succ _) i b f (min 100 (c + 1)) s
  obtain ⟨Z, hZ⟩ : ∃ Z, (((((w1.setCell ⟨w.heap.size, 3, none⟩ (.int .i64 (min 100 (c + 1)))).setCell ⟨w.heap.size + 1, 0, none⟩ (.int .i64 i)).setCell ⟨w.heap.size + 1, 1, none⟩ (.int .i64 b)).setCell ⟨w.heap.size + 1, 2, none⟩ (.int .i64 f)).setCell ⟨w.heap.size + 1, 3, none⟩ (.int .i64 (min 100 (c + 1)))).setCell ⟨w.heap.size + 1, 4, none⟩ (.int .i64 s) = Z := ⟨_, rfl⟩
  rw [hZ] at q BZ ⊢
  clear hZ
  obtain ⟨q0, q1, q2, q3, q4⟩ := q
  simp only at q0 q1 q2 q3 q4
  refine bodyPost_ret (v := (⟨i, b, f, min 100 (c + 1), s⟩ : Tk).v) (by simp [results, Tryd.results15, go_sem, q0, q1, q2, q3, q4]) rfl ⟨rfl, BZ⟩
set_option maxRecDepth 100000 in
set_option maxHeartbeats 2000000 in
theorem rhear_no (t : Tk) (w : World) (hv : Hid (validT t = false)) : Calls Tryd.prog 22 #[t.v] w (OnePost t w) := by
  obtain ⟨i, b, f, c, s⟩ := t
  go_enter Tryd.func22, Tryd.ntmps22
  have HT := Lib.hid (Two.new w ⟨i, b, f, c, s⟩ ⟨0, 0, 0, 0, 0⟩)
  have FT : ∀ j, ((w.alloc (.cells #[.int .i64 i, .int .i64 b, .int .i64 f, .int .i64 c, .int .i64 s] 23)).alloc (.cells #[.int .i64 0, .int .i64 0, .int .i64 0, .int .i64 0, .int .i64 0] 23)).frozen? ⟨w.heap.size, j, none⟩ = false := fun j => by rw [frozen?_alloc_cells, frozen?_alloc_cells]; exact frz_new (Nat.le_refl _)
  go_wp2_with fail
  obtain ⟨V, hV⟩ : ∃ V, (w.alloc (.cells #[.int .i64 i, .int .i64 b, .int .i64 f, .int .i64 c, .int .i64 s] 23)).alloc (.cells #[.int .i64 0, .int .i64 0, .int .i64 0, .int .i64 0, .int .i64 0] 23) = V := ⟨_, rfl⟩
  rw [hV] at HT FT ⊢
  clear hV
  refine (rvalid_at ⟨i, b, f, c, s⟩ _ _ hv.out).mono ?_
  rintro e w1 ⟨rfl, b1⟩
  have FT : ∀ j, w1.frozen? ⟨w.heap.size, j, none⟩ = false := fun j => (b1.frozen (p := ⟨w.heap.size, j, none⟩) (by have := HT.out.S; simp only; omega)).trans (FT j)
  replace HT := Lib.hid (HT.out.keep b1)
  clear b1
  obtain ⟨B1, ⟨c0, c1, c2, c3, c4⟩, ⟨z0, z1, z2, z3, z4⟩, F1, S1⟩ := HT.out
  simp only at c0 c1 c2 c3 c4 z0 z1 z2 z3 z4
  have f0 := F1 0; have f1 := F1 1; have f2 := F1 2; have f3 := F1 3; have f4 := F1 4
  have g3 := FT 3
  clear F1 FT
  go_wp2_with fail
  have q := (HT.out.Z).setAll i b f c s
  have BZ := below_set5 (HT.out.B) (Nat.le_succ _) i b f c s
  obtain ⟨Z, hZ⟩ : ∃ Z, ((((w1.setCell ⟨w.heap.size + 1, 0, none⟩ (.int .i64 i)).setCell ⟨w.heap.size + 1, 1, none⟩ (.int .i64 b)).setCell ⟨w.heap.size + 1, 2, none⟩ (.int .i64 f)).setCell ⟨w.heap.size + 1, 3, none⟩ (.int .i64 c)).setCell ⟨w.heap.size + 1, 4, none⟩ (.int .i64 s) = Z := ⟨_, rfl⟩
  rw [hZ] at q BZ ⊢
  clear hZ
  obtain ⟨q0, q1, q2, q3, q4⟩ := q
  simp only at q0 q1 q2 q3 q4
  refine bodyPost_ret (v := (⟨i, b, f, c, s⟩ : Tk).v) (by simp [results, Tryd.results22, go_sem, q0, q1, q2, q3, q4]) rfl ⟨rfl, BZ⟩
set_option maxRecDepth 100000 in
set_option maxHeartbeats 2000000 in
theorem rhear_yes (t : Tk) (w : World) (hv : Hid (validT t = true)) (h0 : 0 ≤ t.c) (h1 : t.c < 100) : Calls Tryd.prog 22 #[t.v] w (OnePost { t with c := t.c + 1 } w) := by
  obtain ⟨i, b, f, c, s⟩ := t
  simp only at h0 h1 ⊢
  go_enter Tryd.func22, Tryd.ntmps22
  have HT := Lib.hid (Two.new w ⟨i, b, f, c, s⟩ ⟨0, 0, 0, 0, 0⟩)
  have FT : ∀ j, ((w.alloc (.cells #[.int .i64 i, .int .i64 b, .int .i64 f, .int .i64 c, .int .i64 s] 23)).alloc (.cells #[.int .i64 0, .int .i64 0, .int .i64 0, .int .i64 0, .int .i64 0] 23)).frozen? ⟨w.heap.size, j, none⟩ = false := fun j => by rw [frozen?_alloc_cells, frozen?_alloc_cells]; exact frz_new (Nat.le_refl _)
  go_wp2_with fail
  obtain ⟨V, hV⟩ : ∃ V, (w.alloc (.cells #[.int .i64 i, .int .i64 b, .int .i64 f, .int .i64 c, .int .i64 s] 23)).alloc (.cells #[.int .i64 0, .int .i64 0, .int .i64 0, .int .i64 0, .int .i64 0] 23) = V := ⟨_, rfl⟩
  rw [hV] at HT FT ⊢
  clear hV
  refine (rvalid_at ⟨i, b, f, c, s⟩ _ _ hv.out).mono ?_
  rintro e w1 ⟨rfl, b1⟩
  have FT : ∀ j, w1.frozen? ⟨w.heap.size, j, none⟩ = false := fun j => (b1.frozen (p := ⟨w.heap.size, j, none⟩) (by have := HT.out.S; simp only; omega)).trans (FT j)
  replace HT := Lib.hid (HT.out.keep b1)
  clear b1
  obtain ⟨B1, ⟨c0, c1, c2, c3, c4⟩, ⟨z0, z1, z2, z3, z4⟩, F1, S1⟩ := HT.out
  simp only at c0 c1 c2 c3 c4 z0 z1 z2 z3 z4
  have f0 := F1 0; have f1 := F1 1; have f2 := F1 2; have f3 := F1 3; have f4 := F1 4
  have g3 := FT 3
  clear F1 FT
  have nb1 : ¬ w.heap.size = w.heap.size + 1 := by omega
  have nb2 : ¬ w.heap.size + 1 = w.heap.size := by omega
  have HB := Lib.hid (HT.out.B.setCell (p := ⟨w.heap.size, 3, none⟩) (Nat.le_refl _) (.int .i64 (c + 1)))
  have HZ := Lib.hid (TkAt.other1 HT.out.Z nb1 3 (c + 1))
  go_wp2_with fail
  have q := (HZ.out).setAll i b f (c + 1) s
  have BZ := below_set5 (HB.out) (Nat.le_succ _) i b f (c + 1) s
  obtain ⟨Z, hZ⟩ : ∃ Z, (((((w1.setCell ⟨w.heap.size, 3, none⟩ (.int .i64 (c + 1))).setCell ⟨w.heap.size + 1, 0, none⟩ (.int .i64 i)).setCell ⟨w.heap.size + 1, 1, none⟩ (.int .i64 b)).setCell ⟨w.heap.size + 1, 2, none⟩ (.int .i64 f)).setCell ⟨w.heap.size + 1, 3, none⟩ (.int .i64 (c + 1))).setCell ⟨w.heap.size + 1, 4, none⟩ (.int .i64 s) = Z := ⟨_, rfl⟩
  rw [hZ] at q BZ ⊢
  clear hZ
  obtain ⟨q0, q1, q2, q3, q4⟩ := q
  simp only at q0 q1 q2 q3 q4
  refine bodyPost_ret (v := (⟨i, b, f, c + 1, s⟩ : Tk).v) (by simp [results, Tryd.results22, go_sem, q0, q1, q2, q3, q4]) rfl ⟨rfl, BZ⟩
set_option maxRecDepth 100000 in
set_option maxHeartbeats 2000000 in
theorem rhear_full (t : Tk) (w : World) (hv : Hid (validT t = true)) (h1 : 100 ≤ t.c) : Calls Tryd.prog 22 #[t.v] w (OnePost { t with c := t.c } w) := by
  obtain ⟨i, b, f, c, s⟩ := t
  simp only at h1 ⊢
  go_enter Tryd.func22, Tryd.ntmps22
  have HT := Lib.hid (Two.new w ⟨i, b, f, c, s⟩ ⟨0, 0, 0, 0, 0⟩)
  have FT : ∀ j, ((w.alloc (.cells #[.int .i64 i, .int .i64 b, .int .i64 f, .int .i64 c, .int .i64 s] 23)).alloc (.cells #[.int .i64 0, .int .i64 0, .int .i64 0, .int .i64 0, .int .i64 0] 23)).frozen? ⟨w.heap.size, j, none⟩ = false := fun j => by rw [frozen?_alloc_cells, frozen?_alloc_cells]; exact frz_new (Nat.le_refl _)
  go_wp2_with fail
  obtain ⟨V, hV⟩ : ∃ V, (w.alloc (.cells #[.int .i64 i, .int .i64 b, .int .i64 f, .int .i64 c, .int .i64 s] 23)).alloc (.cells #[.int .i64 0, .int .i64 0, .int .i64 0, .int .i64 0, .int .i64 0] 23) = V := ⟨_, rfl⟩
  rw [hV] at HT FT ⊢
  clear hV
  refine (rvalid_at ⟨i, b, f, c, s⟩ _ _ hv.out).mono ?_
  rintro e w1 ⟨rfl, b1⟩
  have FT : ∀ j, w1.frozen? ⟨w.heap.size, j, none⟩ = false := fun j => (b1.frozen (p := ⟨w.heap.size, j, none⟩) (by have := HT.out.S; simp only; omega)).trans (FT j)
  replace HT := Lib.hid (HT.out.keep b1)
  clear b1
  obtain ⟨B1, ⟨c0, c1, c2, c3, c4⟩, ⟨z0, z1, z2, z3, z4⟩, F1, S1⟩ := HT.out
  simp only at c0 c1 c2 c3 c4 z0 z1 z2 z3 z4
  have f0 := F1 0; have f1 := F1 1; have f2 := F1 2; have f3 := F1 3; have f4 := F1 4
  have g3 := FT 3
  clear F1 FT
  go_wp2_with fail
  have q := (HT.out.Z).setAll i b f c s
  have BZ := below_set5 (HT.out.B) (Nat.le_succ _) i b f c s
  obtain ⟨Z, hZ⟩ : ∃ Z, ((((w1.setCell ⟨w.heap.size + 1, 0, none⟩ (.int .i64 i)).setCell ⟨w.heap.size + 1, 1, none⟩ (.int .i64 b)).setCell ⟨w.heap.size + 1, 2, none⟩ (.int .i64 f)).setCell ⟨w.heap.size + 1, 3, none⟩ (.int .i64 c)).setCell ⟨w.heap.size + 1, 4, none⟩ (.int .i64 s) = Z := ⟨_, rfl⟩
  rw [hZ] at q BZ ⊢
  clear hZ
  obtain ⟨q0, q1, q2, q3, q4⟩ := q
  simp only at q0 q1 q2 q3 q4
  refine bodyPost_ret (v := (⟨i, b, f, c, s⟩ : Tk).v) (by simp [results, Tryd.results22, go_sem, q0, q1, q2, q3, q4]) rfl ⟨rfl, BZ⟩
theorem hear_any (t : Tk) (w : World) : Calls Tryd.prog 15 #[t.v] w (OnePost (hearV t) w) := by
  cases hv : validT t
  · rw [show hearV t = t by simp [hearV, hv]]; exact hear_no t w (Lib.hid hv)
  have hV := validT_iff.1 hv
  have := hear_yes t w (Lib.hid hv) hV.c0 hV.c1
  by_cases hc : t.c < 100
  · rw [show hearV t = { t with c := min 100 (t.c + 1) } by unfold hearV; rw [if_pos ⟨hv, hc⟩, show min 100 (t.c + 1) = t.c + 1 by omega]]; exact this
  · have h1 := hV.c1
    rw [show hearV t = { t with c := min 100 (t.c + 1) } by unfold hearV; rw [if_neg (fun h => hc h.2), show min 100 (t.c + 1) = t.c by omega]]; exact this
theorem hear_at (t u : Tk) (w : World) (hu : hearV t = u) : Calls Tryd.prog 15 #[t.v] w (OnePost u w) := by rw [← hu]; exact hear_any t w
theorem rhear_any (t : Tk) (w : World) : Calls Tryd.prog 22 #[t.v] w (OnePost (hearV t) w) := by
  cases hv : validT t
  · rw [show hearV t = t by simp [hearV, hv]]; exact rhear_no t w (Lib.hid hv)
  have hV := validT_iff.1 hv
  by_cases hc : t.c < 100
  · rw [show hearV t = { t with c := t.c + 1 } by unfold hearV; rw [if_pos ⟨hv, hc⟩]]; exact rhear_yes t w (Lib.hid hv) hV.c0 hc
  · rw [show hearV t = { t with c := t.c } by unfold hearV; rw [if_neg (fun h => hc h.2)]]; exact rhear_full t w (Lib.hid hv) (by omega)
theorem rhear_at (t u : Tk) (w : World) (hu : hearV t = u) : Calls Tryd.prog 22 #[t.v] w (OnePost u w) := by rw [← hu]; exact rhear_any t w
theorem TkAt.alloc {w : World} {k : Nat} {t : Tk} (h : TkAt w k t) (o : Obj) : TkAt (w.alloc o) k t := ⟨old1 h.1 o, old1 h.2.1 o, old1 h.2.2.1 o, old1 h.2.2.2.1 o, old1 h.2.2.2.2 o⟩
theorem TkAt.new (w : World) (t : Tk) (ty : TypeId) : TkAt (w.alloc (.cells #[.int .i64 t.i, .int .i64 t.b, .int .i64 t.f, .int .i64 t.c, .int .i64 t.s] ty)) w.heap.size t := ⟨new0 rfl rfl, new0 rfl rfl, new0 rfl rfl, new0 rfl rfl, new0 rfl rfl⟩
set_option maxRecDepth 100000 in
set_option maxHeartbeats 2000000 in
theorem usable_any (t : Tk) (n : Int) (w : World) : Calls Tryd.prog 11 #[t.v, .int .i64 n] w fun e w' => e = .returned (.bool (usableB t n)) ∧ Below w.heap.size w w' := by
  cases hv : validT t
  · rw [show usableB t n = false by simp [usableB, hv]]
    have HV := Lib.hid hv; clear hv
    have TN := Lib.hid (TkAt.new w t 23)
    go_enter Tryd.func11, Tryd.ntmps11
    go_wp2_with fail
    refine (rvalid_at t _ _ HV.out).mono ?_
    rintro e w1 ⟨rfl, b1⟩
    have B := bstep (ball (Below.refl _ _) _) b1
    go_wp2_with fail
    go_ret
    exact ⟨rfl, B⟩
  have hV := validT_iff.1 hv
  obtain ⟨hl, b0, b1, _, _, _, _, _, _⟩ := hV
  have i1 : 1 ≤ t.i := by omega
  have i8 : t.i ≤ 8 := by omega
  have HV := Lib.hid hv; clear hv hl
  have HU : Hid (usableB t n = (decide (t.b ≤ n) && decide (n ≤ t.b + t.i) && decide (n ≤ 900000000))) := Lib.hid (by simp [usableB, HV.out])
  have TN := TkAt.new w t 23
  obtain ⟨V, hV⟩ : ∃ V, w.alloc (.cells #[.int .i64 t.i, .int .i64 t.b, .int .i64 t.f, .int .i64 t.c, .int .i64 t.s] 23) = V := ⟨_, rfl⟩
  have B0 : Below w.heap.size w V := by rw [← hV]; exact ball (Below.refl _ _) _
  rw [hV] at TN
  have HW := Lib.hid hV; clear hV
  by_cases h1 : t.b ≤ n
  · by_cases h2 : n ≤ t.b + t.i
    · rw [HU.out, show (decide (t.b ≤ n) && decide (n ≤ t.b + t.i) && decide (n ≤ 900000000)) = decide (n ≤ 900000000) by simp [h1, h2]]
      go_enter Tryd.func11, Tryd.ntmps11
      go_wp2_with fail
      rw [HW.out]
      refine (rvalid_at t _ _ HV.out).mono ?_
      rintro e w1 ⟨rfl, bb⟩
      have TN := TN.keep bb
      have B := bstep B0 bb
      obtain ⟨c0, c1, c2, c3, c4⟩ := TN
      clear bb B0
      go_wp2_with fail
      go_ret
      exact ⟨rfl, B⟩
    · rw [HU.out, show (decide (t.b ≤ n) && decide (n ≤ t.b + t.i) && decide (n ≤ 900000000)) = false by simp [h2]]
      go_enter Tryd.func11, Tryd.ntmps11
      go_wp2_with fail
      rw [HW.out]
      refine (rvalid_at t _ _ HV.out).mono ?_
      rintro e w1 ⟨rfl, bb⟩
      have TN := TN.keep bb
      have B := bstep B0 bb
      obtain ⟨c0, c1, c2, c3, c4⟩ := TN
      clear bb B0
      go_wp2_with fail
      go_ret
      exact ⟨rfl, B⟩
  · rw [HU.out, show (decide (t.b ≤ n) && decide (n ≤ t.b + t.i) && decide (n ≤ 900000000)) = false by simp [h1]]
    go_enter Tryd.func11, Tryd.ntmps11
    go_wp2_with fail
    rw [HW.out]
    refine (rvalid_at t _ _ HV.out).mono ?_
    rintro e w1 ⟨rfl, bb⟩
    have TN := TN.keep bb
    have B := bstep B0 bb
    obtain ⟨c0, c1, c2, c3, c4⟩ := TN
    clear bb B0
    go_wp2_with fail
    go_ret
    exact ⟨rfl, B⟩
theorem usable_at (t : Tk) (n : Int) (y : Bool) (w : World) (hy : usableB t n = y) : Calls Tryd.prog 11 #[t.v, .int .i64 n] w fun e w' => e = .returned (.bool y) ∧ Below w.heap.size w w' := by
  rw [← hy]; exact usable_any t n w
end Go.Proofs.YteeajkopigdblaaDoor
