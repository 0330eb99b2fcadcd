/- Proved: what New, Reset and Hear of package trickle and of its reference return. Conditions: the table of steps holds its numbers. -/
import Derived.Test.YteeajkopigdblaaDoorW5
namespace Go.Proofs.YteeajkopigdblaaDoor
open Go.RowKit Go.Sort Go.BigFrame Go.Proofs.YteeajkopigdblaaDoor.K
set_option linter.unusedVariables false
set_option linter.unusedSimpArgs false
attribute [local go_sem] cell_alloc_old

abbrev NewPost (u : Tk) (y : Int) (w : World) (e : Ending) (w' : World) : Prop := e = .returned (.tuple #[u.v, .int .i64 y]) ∧ Below w.heap.size w w'
abbrev OnePost (u : Tk) (w : World) (e : Ending) (w' : World) : Prop := e = .returned u.v ∧ Below w.heap.size w w'
/-- A block that a call has made: its result. -/
structure One (w V : World) (z : Tk) : Prop where
  B : Below w.heap.size w V
  Z : TkAt V w.heap.size z
  F : ∀ j, V.frozen? ⟨w.heap.size, j, none⟩ = false
  S : w.heap.size + 1 ≤ V.heap.size
theorem One.keep {w V V' : World} {z : Tk} (h : One w V z) (hb : Below V.heap.size V V') : One w V' z :=
  ⟨bstep h.B hb, h.Z.keep hb, fun j => (hb.frozen (p := ⟨w.heap.size, j, none⟩) (by have := h.S; simp only; omega)).trans (h.F j), Nat.le_trans h.S hb.size⟩
theorem One.begun {w V V' : World} {z : Tk} {o : Obj} (h : One w V z) (hb : Below V.heap.size (V.alloc o) V') : One w V' z :=
  h.keep (Below.trans (Below.alloc (Below.refl _ V) (Nat.le_refl _) o) hb)
theorem One.new (w : World) (z : Tk) : One w (w.alloc (.cells #[.int .i64 z.i, .int .i64 z.b, .int .i64 z.f, .int .i64 z.c, .int .i64 z.s] 23)) z :=
  ⟨ball (Below.refl _ _) _, ⟨new0 rfl rfl, new0 rfl rfl, new0 rfl rfl, new0 rfl rfl, new0 rfl rfl⟩, fun j => (frozen?_alloc_cells _ _ _ _).trans (frz_new (Nat.le_refl _)), by simp⟩

set_option maxRecDepth 100000 in
set_option maxHeartbeats 2000000 in
theorem new_no0 (s n : Int) (w : World) (hs : Hid (seedB s = false)) : Calls Tryd.prog 17 #[.int .i64 s, .int .i64 n] w (NewPost ⟨0, 0, 0, 0, 0⟩ 1 w) := by
  go_enter Tryd.func17, Tryd.ntmps17
  go_wp2_with fail
  obtain ⟨V, hV⟩ : ∃ V, w.alloc (.cells #[.int .i64 0, .int .i64 0, .int .i64 0, .int .i64 0, .int .i64 0] 23) = V := ⟨_, rfl⟩
  have HO := Lib.hid (One.new w ⟨0, 0, 0, 0, 0⟩)
  rw [hV] at HO ⊢
  clear hV
  obtain ⟨B1, ⟨z0, z1, z2, z3, z4⟩, F1, S1⟩ := HO.out
  simp only at z0 z1 z2 z3 z4
  have f0 := F1 0; have f1 := F1 1; have f2 := F1 2; have f3 := F1 3; have f4 := F1 4
  clear F1
  refine (seed_at _ _ _ hs.out).mono ?_
  rintro e w1 ⟨rfl, rfl⟩
  go_wp2_with fail
  have q := (HO.out.Z).setAll 0 0 0 0 0
  have BZ := below_set5 (HO.out.B) (Nat.le_refl _) 0 0 0 0 0
  obtain ⟨Z, hZ⟩ : ∃ Z, ((((V.setCell ⟨w.heap.size, 0, none⟩ (.int .i64 0)).setCell ⟨w.heap.size, 1, none⟩ (.int .i64 0)).setCell ⟨w.heap.size, 2, none⟩ (.int .i64 0)).setCell ⟨w.heap.size, 3, none⟩ (.int .i64 0)).setCell ⟨w.heap.size, 4, none⟩ (.int .i64 0) = Z := ⟨_, rfl⟩
  rw [hZ] at q BZ ⊢
  clear hZ
  obtain ⟨q0, q1, q2, q3, q4⟩ := q
  simp only at q0 q1 q2 q3 q4
  refine bodyPost_ret (v := .tuple #[(⟨0, 0, 0, 0, 0⟩ : Tk).v, .int .i64 1]) (by simp [results, Tryd.results17, go_sem, q0, q1, q2, q3, q4]) rfl ⟨rfl, BZ⟩
set_option maxRecDepth 100000 in
set_option maxHeartbeats 2000000 in
theorem new_no1 (s n : Int) (w : World) (hs : Hid (seedB s = true)) (hf : Hid (frameB n = false)) : Calls Tryd.prog 17 #[.int .i64 s, .int .i64 n] w (NewPost ⟨0, 0, 0, 0, 0⟩ 1 w) := by
  go_enter Tryd.func17, Tryd.ntmps17
  go_wp2_with fail
  obtain ⟨V, hV⟩ : ∃ V, w.alloc (.cells #[.int .i64 0, .int .i64 0, .int .i64 0, .int .i64 0, .int .i64 0] 23) = V := ⟨_, rfl⟩
  have HO := Lib.hid (One.new w ⟨0, 0, 0, 0, 0⟩)
  rw [hV] at HO ⊢
  clear hV
  obtain ⟨B1, ⟨z0, z1, z2, z3, z4⟩, F1, S1⟩ := HO.out
  simp only at z0 z1 z2 z3 z4
  have f0 := F1 0; have f1 := F1 1; have f2 := F1 2; have f3 := F1 3; have f4 := F1 4
  clear F1
  refine (seed_at _ _ _ hs.out).mono ?_
  rintro e w1 ⟨rfl, rfl⟩
  go_wp2_with fail
  refine (frame_at _ _ _ hf.out).mono ?_
  rintro e w1 ⟨rfl, rfl⟩
  go_wp2_with fail
  have q := (HO.out.Z).setAll 0 0 0 0 0
  have BZ := below_set5 (HO.out.B) (Nat.le_refl _) 0 0 0 0 0
  obtain ⟨Z, hZ⟩ : ∃ Z, ((((V.setCell ⟨w.heap.size, 0, none⟩ (.int .i64 0)).setCell ⟨w.heap.size, 1, none⟩ (.int .i64 0)).setCell ⟨w.heap.size, 2, none⟩ (.int .i64 0)).setCell ⟨w.heap.size, 3, none⟩ (.int .i64 0)).setCell ⟨w.heap.size, 4, none⟩ (.int .i64 0) = Z := ⟨_, rfl⟩
  rw [hZ] at q BZ ⊢
  clear hZ
  obtain ⟨q0, q1, q2, q3, q4⟩ := q
  simp only at q0 q1 q2 q3 q4
  refine bodyPost_ret (v := .tuple #[(⟨0, 0, 0, 0, 0⟩ : Tk).v, .int .i64 1]) (by simp [results, Tryd.results17, go_sem, q0, q1, q2, q3, q4]) rfl ⟨rfl, BZ⟩
set_option maxRecDepth 100000 in
set_option maxHeartbeats 2000000 in
theorem new_yes (s n : Int) (u : Tk) (w : World) (hT : Tab w) (hs : Hid (seedB s = true)) (hf : Hid (frameB n = true)) (s0 : 0 ≤ s) (s1 : s ≤ 1000000000) (n0 : 0 ≤ n) (n1 : n ≤ 999999984) (hu : Hid (ivalV s 1 n = u)) : Calls Tryd.prog 17 #[.int .i64 s, .int .i64 n] w (NewPost u 0 w) := by
  obtain ⟨ui, ub, uf, uk, us⟩ := u
  go_enter Tryd.func17, Tryd.ntmps17
  go_wp2_with fail
  obtain ⟨V, hV⟩ : ∃ V, w.alloc (.cells #[.int .i64 0, .int .i64 0, .int .i64 0, .int .i64 0, .int .i64 0] 23) = V := ⟨_, rfl⟩
  have HO := Lib.hid (One.new w ⟨0, 0, 0, 0, 0⟩)
  rw [hV] at HO ⊢
  clear hV
  refine (seed_at _ _ _ hs.out).mono ?_
  rintro e w1 ⟨rfl, rfl⟩
  go_wp2_with fail
  refine (frame_at _ _ _ hf.out).mono ?_
  rintro e w1 ⟨rfl, rfl⟩
  go_wp2_with fail
  have hT1 := hT.keep (ball HO.out.B (.cells #[.int .i64 0, .int .i64 0, .int .i64 0, .int .i64 0, .int .i64 s] 42))
  have TX : TkAt (V.alloc (.cells #[.int .i64 0, .int .i64 0, .int .i64 0, .int .i64 0, .int .i64 s] 42)) V.heap.size ⟨0, 0, 0, 0, s⟩ := ⟨new0 rfl rfl, new0 rfl rfl, new0 rfl rfl, new0 rfl rfl, new0 rfl rfl⟩
  have FX : ∀ j, (V.alloc (.cells #[.int .i64 0, .int .i64 0, .int .i64 0, .int .i64 0, .int .i64 s] 42)).frozen? ⟨V.heap.size, j, none⟩ = false := fun j => (frozen?_alloc_cells _ _ _ _).trans (frz_new (Nat.le_refl _))
  have hk : 0 < V.heap.size := by have := HO.out.S; omega
  refine (begin_at ⟨0, 0, 0, 0, s⟩ _ 1 n V.heap.size _ hu.out hT1 s0 s1 (.inl rfl) n0 n1 TX FX hk).mono ?_
  clear TX FX hT1 hk
  rintro e w3 ⟨⟨v, rfl⟩, ⟨x0, x1, x2, x3, x4⟩, b3⟩
  simp only at x0 x1 x2 x3 x4
  replace HO := Lib.hid (HO.out.begun b3)
  clear b3
  obtain ⟨B1, ⟨z0, z1, z2, z3, z4⟩, F1, S1⟩ := HO.out
  simp only at z0 z1 z2 z3 z4
  have f0 := F1 0; have f1 := F1 1; have f2 := F1 2; have f3 := F1 3; have f4 := F1 4
  clear F1
  go_wp2_with fail
  have q := (HO.out.Z).setAll ui ub uf uk us
  have BZ := below_set5 (HO.out.B) (Nat.le_refl _) ui ub uf uk us
  obtain ⟨Z, hZ⟩ : ∃ Z, ((((w3.setCell ⟨w.heap.size, 0, none⟩ (.int .i64 ui)).setCell ⟨w.heap.size, 1, none⟩ (.int .i64 ub)).setCell ⟨w.heap.size, 2, none⟩ (.int .i64 uf)).setCell ⟨w.heap.size, 3, none⟩ (.int .i64 uk)).setCell ⟨w.heap.size, 4, none⟩ (.int .i64 us) = Z := ⟨_, rfl⟩
  rw [hZ] at q BZ ⊢
  clear hZ
  obtain ⟨q0, q1, q2, q3, q4⟩ := q
  simp only at q0 q1 q2 q3 q4
  refine bodyPost_ret (v := .tuple #[(⟨ui, ub, uf, uk, us⟩ : Tk).v, .int .i64 0]) (by simp [results, Tryd.results17, go_sem, q0, q1, q2, q3, q4]) rfl ⟨rfl, BZ⟩
theorem new_any (s n : Int) (w : World) (hT : Tab w) : Calls Tryd.prog 17 #[.int .i64 s, .int .i64 n] w (NewPost (newV s n) (errT s n) w) := by
  cases hs : seedB s
  · have e1 : newV s n = ⟨0, 0, 0, 0, 0⟩ := by simp [newV, hs]
    have e2 : errT s n = 1 := by simp [errT, hs]
    rw [e1, e2]; exact new_no0 s n w (Lib.hid hs)
  cases hf : frameB n
  · have e1 : newV s n = ⟨0, 0, 0, 0, 0⟩ := by simp [newV, hf]
    have e2 : errT s n = 1 := by simp [errT, hf]
    rw [e1, e2]; exact new_no1 s n w (Lib.hid hs) (Lib.hid hf)
  have e1 : newV s n = ivalV s 1 n := by simp [newV, hs, hf]
  have e2 : errT s n = 0 := by simp [errT, hs, hf]
  have hs' : 0 ≤ s ∧ s ≤ 1000000000 := by simpa [seedB] using hs
  have hf' := frameB_iff.1 hf
  rw [e1, e2]; exact new_yes s n _ w hT (Lib.hid hs) (Lib.hid hf) hs'.1 hs'.2 hf'.1 hf'.2 (Lib.hid rfl)
theorem new_at (s n y : Int) (u : Tk) (w : World) (hT : Tab w) (hu : newV s n = u) (hy : errT s n = y) : Calls Tryd.prog 17 #[.int .i64 s, .int .i64 n] w (NewPost u y w) := by
  rw [← hu, ← hy]; exact new_any s n w hT
set_option maxRecDepth 100000 in
set_option maxHeartbeats 2000000 in
theorem rnew_no0 (s n : Int) (w : World) (hf : Hid (frameB n = false)) : Calls Tryd.prog 18 #[.int .i64 s, .int .i64 n] w (NewPost ⟨0, 0, 0, 0, 0⟩ 1 w) := by
  go_enter Tryd.func18, Tryd.ntmps18
  go_wp2_with fail
  obtain ⟨V, hV⟩ : ∃ V, w.alloc (.cells #[.int .i64 0, .int .i64 0, .int .i64 0, .int .i64 0, .int .i64 0] 23) = V := ⟨_, rfl⟩
  have HO := Lib.hid (One.new w ⟨0, 0, 0, 0, 0⟩)
  rw [hV] at HO ⊢
  clear hV
  obtain ⟨B1, ⟨z0, z1, z2, z3, z4⟩, F1, S1⟩ := HO.out
  simp only at z0 z1 z2 z3 z4
  have f0 := F1 0; have f1 := F1 1; have f2 := F1 2; have f3 := F1 3; have f4 := F1 4
  clear F1
  refine (rframe_at _ _ _ hf.out).mono ?_
  rintro e w1 ⟨rfl, rfl⟩
  go_wp2_with fail
  have q := (HO.out.Z).setAll 0 0 0 0 0
  have BZ := below_set5 (HO.out.B) (Nat.le_refl _) 0 0 0 0 0
  obtain ⟨Z, hZ⟩ : ∃ Z, ((((V.setCell ⟨w.heap.size, 0, none⟩ (.int .i64 0)).setCell ⟨w.heap.size, 1, none⟩ (.int .i64 0)).setCell ⟨w.heap.size, 2, none⟩ (.int .i64 0)).setCell ⟨w.heap.size, 3, none⟩ (.int .i64 0)).setCell ⟨w.heap.size, 4, none⟩ (.int .i64 0) = Z := ⟨_, rfl⟩
  rw [hZ] at q BZ ⊢
  clear hZ
  obtain ⟨q0, q1, q2, q3, q4⟩ := q
  simp only at q0 q1 q2 q3 q4
  refine bodyPost_ret (v := .tuple #[(⟨0, 0, 0, 0, 0⟩ : Tk).v, .int .i64 1]) (by simp [results, Tryd.results18, go_sem, q0, q1, q2, q3, q4]) rfl ⟨rfl, BZ⟩
set_option maxRecDepth 100000 in
set_option maxHeartbeats 2000000 in
theorem rnew_no1 (s n : Int) (w : World) (hf : Hid (frameB n = true)) (h : s < 0) : Calls Tryd.prog 18 #[.int .i64 s, .int .i64 n] w (NewPost ⟨0, 0, 0, 0, 0⟩ 1 w) := by
  go_enter Tryd.func18, Tryd.ntmps18
  go_wp2_with fail
  obtain ⟨V, hV⟩ : ∃ V, w.alloc (.cells #[.int .i64 0, .int .i64 0, .int .i64 0, .int .i64 0, .int .i64 0] 23) = V := ⟨_, rfl⟩
  have HO := Lib.hid (One.new w ⟨0, 0, 0, 0, 0⟩)
  rw [hV] at HO ⊢
  clear hV
  obtain ⟨B1, ⟨z0, z1, z2, z3, z4⟩, F1, S1⟩ := HO.out
  simp only at z0 z1 z2 z3 z4
  have f0 := F1 0; have f1 := F1 1; have f2 := F1 2; have f3 := F1 3; have f4 := F1 4
  clear F1
  refine (rframe_at _ _ _ hf.out).mono ?_
  rintro e w1 ⟨rfl, rfl⟩
  go_wp2_with fail
  have q := (HO.out.Z).setAll 0 0 0 0 0
  have BZ := below_set5 (HO.out.B) (Nat.le_refl _) 0 0 0 0 0
  obtain ⟨Z, hZ⟩ : ∃ Z, ((((V.setCell ⟨w.heap.size, 0, none⟩ (.int .i64 0)).setCell ⟨w.heap.size, 1, none⟩ (.int .i64 0)).setCell ⟨w.heap.size, 2, none⟩ (.int .i64 0)).setCell ⟨w.heap.size, 3, none⟩ (.int .i64 0)).setCell ⟨w.heap.size, 4, none⟩ (.int .i64 0) = Z := ⟨_, rfl⟩
  rw [hZ] at q BZ ⊢
  clear hZ
  obtain ⟨q0, q1, q2, q3, q4⟩ := q
  simp only at q0 q1 q2 q3 q4
  refine bodyPost_ret (v := .tuple #[(⟨0, 0, 0, 0, 0⟩ : Tk).v, .int .i64 1]) (by simp [results, Tryd.results18, go_sem, q0, q1, q2, q3, q4]) rfl ⟨rfl, BZ⟩
set_option maxRecDepth 100000 in
set_option maxHeartbeats 2000000 in
theorem rnew_no2 (s n : Int) (w : World) (hf : Hid (frameB n = true)) (h0 : 0 ≤ s) (h : 1000000000 < s) : Calls Tryd.prog 18 #[.int .i64 s, .int .i64 n] w (NewPost ⟨0, 0, 0, 0, 0⟩ 1 w) := by
  go_enter Tryd.func18, Tryd.ntmps18
  go_wp2_with fail
  obtain ⟨V, hV⟩ : ∃ V, w.alloc (.cells #[.int .i64 0, .int .i64 0, .int .i64 0, .int .i64 0, .int .i64 0] 23) = V := ⟨_, rfl⟩
  have HO := Lib.hid (One.new w ⟨0, 0, 0, 0, 0⟩)
  rw [hV] at HO ⊢
  clear hV
  obtain ⟨B1, ⟨z0, z1, z2, z3, z4⟩, F1, S1⟩ := HO.out
  simp only at z0 z1 z2 z3 z4
  have f0 := F1 0; have f1 := F1 1; have f2 := F1 2; have f3 := F1 3; have f4 := F1 4
  clear F1
  refine (rframe_at _ _ _ hf.out).mono ?_
  rintro e w1 ⟨rfl, rfl⟩
  go_wp2_with fail
  have q := (HO.out.Z).setAll 0 0 0 0 0
  have BZ := below_set5 (HO.out.B) (Nat.le_refl _) 0 0 0 0 0
  obtain ⟨Z, hZ⟩ : ∃ Z, ((((V.setCell ⟨w.heap.size, 0, none⟩ (.int .i64 0)).setCell ⟨w.heap.size, 1, none⟩ (.int .i64 0)).setCell ⟨w.heap.size, 2, none⟩ (.int .i64 0)).setCell ⟨w.heap.size, 3, none⟩ (.int .i64 0)).setCell ⟨w.heap.size, 4, none⟩ (.int .i64 0) = Z := ⟨_, rfl⟩
  rw [hZ] at q BZ ⊢
  clear hZ
  obtain ⟨q0, q1, q2, q3, q4⟩ := q
  simp only at q0 q1 q2 q3 q4
  refine bodyPost_ret (v := .tuple #[(⟨0, 0, 0, 0, 0⟩ : Tk).v, .int .i64 1]) (by simp [results, Tryd.results18, go_sem, q0, q1, q2, q3, q4]) rfl ⟨rfl, BZ⟩
set_option maxRecDepth 100000 in
set_option maxHeartbeats 2000000 in
theorem rnew_yes (s n : Int) (u : Tk) (w : World) (hf : Hid (frameB n = true)) (s0 : 0 ≤ s) (s1 : s ≤ 1000000000) (n0 : 0 ≤ n) (n1 : n ≤ 999999984) (hu : Hid (ivalV s 1 n = u)) : Calls Tryd.prog 18 #[.int .i64 s, .int .i64 n] w (NewPost u 0 w) := by
  obtain ⟨ui, ub, uf, uk, us⟩ := u
  go_enter Tryd.func18, Tryd.ntmps18
  go_wp2_with fail
  obtain ⟨V, hV⟩ : ∃ V, w.alloc (.cells #[.int .i64 0, .int .i64 0, .int .i64 0, .int .i64 0, .int .i64 0] 23) = V := ⟨_, rfl⟩
  have HO := Lib.hid (One.new w ⟨0, 0, 0, 0, 0⟩)
  rw [hV] at HO ⊢
  clear hV
  refine (rframe_at _ _ _ hf.out).mono ?_
  rintro e w1 ⟨rfl, rfl⟩
  go_wp2_with fail
  refine (rival_at s _ n _ _ s0 s1 (.inl rfl) n0 n1 hu.out).mono ?_
  rintro e w3 ⟨rfl, b3⟩
  replace HO := Lib.hid (HO.out.keep b3)
  clear b3
  obtain ⟨B1, ⟨z0, z1, z2, z3, z4⟩, F1, S1⟩ := HO.out
  simp only at z0 z1 z2 z3 z4
  have f0 := F1 0; have f1 := F1 1; have f2 := F1 2; have f3 := F1 3; have f4 := F1 4
  clear F1
  go_wp2_with fail
  have q := (HO.out.Z).setAll ui ub uf uk us
  have BZ := below_set5 (HO.out.B) (Nat.le_refl _) ui ub uf uk us
  obtain ⟨Z, hZ⟩ : ∃ Z, ((((w3.setCell ⟨w.heap.size, 0, none⟩ (.int .i64 ui)).setCell ⟨w.heap.size, 1, none⟩ (.int .i64 ub)).setCell ⟨w.heap.size, 2, none⟩ (.int .i64 uf)).setCell ⟨w.heap.size, 3, none⟩ (.int .i64 uk)).setCell ⟨w.heap.size, 4, none⟩ (.int .i64 us) = Z := ⟨_, rfl⟩
  rw [hZ] at q BZ ⊢
  clear hZ
  obtain ⟨q0, q1, q2, q3, q4⟩ := q
  simp only at q0 q1 q2 q3 q4
  refine bodyPost_ret (v := .tuple #[(⟨ui, ub, uf, uk, us⟩ : Tk).v, .int .i64 0]) (by simp [results, Tryd.results18, go_sem, q0, q1, q2, q3, q4]) rfl ⟨rfl, BZ⟩
theorem rnew_any (s n : Int) (w : World) : Calls Tryd.prog 18 #[.int .i64 s, .int .i64 n] w (NewPost (newV s n) (errT s n) w) := by
  cases hf : frameB n
  · have e1 : newV s n = ⟨0, 0, 0, 0, 0⟩ := by simp [newV, hf]
    have e2 : errT s n = 1 := by simp [errT, hf]
    rw [e1, e2]; exact rnew_no0 s n w (Lib.hid hf)
  by_cases h0 : s < 0
  · have hs : seedB s = false := by simp [seedB]; omega
    have e1 : newV s n = ⟨0, 0, 0, 0, 0⟩ := by simp [newV, hs]
    have e2 : errT s n = 1 := by simp [errT, hs]
    rw [e1, e2]; exact rnew_no1 s n w (Lib.hid hf) h0
  by_cases h1 : 1000000000 < s
  · have hs : seedB s = false := by simp [seedB]; omega
    have e1 : newV s n = ⟨0, 0, 0, 0, 0⟩ := by simp [newV, hs]
    have e2 : errT s n = 1 := by simp [errT, hs]
    rw [e1, e2]; exact rnew_no2 s n w (Lib.hid hf) (by omega) h1
  have hs : seedB s = true := by simp [seedB]; omega
  have e1 : newV s n = ivalV s 1 n := by simp [newV, hs, hf]
  have e2 : errT s n = 0 := by simp [errT, hs, hf]
  have hf' := frameB_iff.1 hf
  rw [e1, e2]; exact rnew_yes s n _ w (Lib.hid hf) (by omega) (by omega) hf'.1 hf'.2 (Lib.hid rfl)
theorem rnew_at (s n y : Int) (u : Tk) (w : World) (hu : newV s n = u) (hy : errT s n = y) : Calls Tryd.prog 18 #[.int .i64 s, .int .i64 n] w (NewPost u y w) := by
  rw [← hu, ← hy]; exact rnew_any s n w
set_option maxRecDepth 100000 in
set_option maxHeartbeats 2000000 in
theorem reset_no0 (t : Tk) (n : Int) (w : World) (hv : Hid (validT t = false)) (fz : Bool) (hf : Hid (frameB n = fz)) : Calls Tryd.prog 20 #[t.v, .int .i64 n] w (OnePost t w) := by
  obtain ⟨i, b, f, c, s⟩ := t
  go_enter Tryd.func20, Tryd.ntmps20
  have HT := Lib.hid (Two.new w ⟨i, b, f, c, s⟩ ⟨0, 0, 0, 0, 0⟩)
  go_wp2_with fail
  obtain ⟨V, hV⟩ : ∃ V, (w.alloc (.cells #[.int .i64 i, .int .i64 b, .int .i64 f, .int .i64 c, .int .i64 s] 23)).alloc (.cells #[.int .i64 0, .int .i64 0, .int .i64 0, .int .i64 0, .int .i64 0] 23) = V := ⟨_, rfl⟩
  rw [hV] at HT ⊢
  clear hV
  refine (valid_at ⟨i, b, f, c, s⟩ _ _ hv.out).mono ?_
  rintro e w1 ⟨rfl, b1⟩
  replace HT := Lib.hid (HT.out.keep b1)
  clear b1
  obtain ⟨B1, ⟨c0, c1, c2, c3, c4⟩, ⟨z0, z1, z2, z3, z4⟩, F1, S1⟩ := HT.out
  simp only at c0 c1 c2 c3 c4 z0 z1 z2 z3 z4
  have f0 := F1 0; have f1 := F1 1; have f2 := F1 2; have f3 := F1 3; have f4 := F1 4
  clear F1
  go_wp2_with fail
  have q := (HT.out.Z).setAll i b f c s
  have BZ := below_set5 (HT.out.B) (Nat.le_succ _) i b f c s
  obtain ⟨Z, hZ⟩ : ∃ Z, ((((w1.setCell ⟨w.heap.size + 1, 0, none⟩ (.int .i64 i)).setCell ⟨w.heap.size + 1, 1, none⟩ (.int .i64 b)).setCell ⟨w.heap.size + 1, 2, none⟩ (.int .i64 f)).setCell ⟨w.heap.size + 1, 3, none⟩ (.int .i64 c)).setCell ⟨w.heap.size + 1, 4, none⟩ (.int .i64 s) = Z := ⟨_, rfl⟩
  rw [hZ] at q BZ ⊢
  clear hZ
  obtain ⟨q0, q1, q2, q3, q4⟩ := q
  simp only at q0 q1 q2 q3 q4
  refine bodyPost_ret (v := (⟨i, b, f, c, s⟩ : Tk).v) (by simp [results, Tryd.results20, go_sem, q0, q1, q2, q3, q4]) rfl ⟨rfl, BZ⟩
set_option maxRecDepth 100000 in
set_option maxHeartbeats 2000000 in
theorem reset_no1 (t : Tk) (n : Int) (w : World) (hv : Hid (validT t = true)) (hf : Hid (frameB n = false)) : Calls Tryd.prog 20 #[t.v, .int .i64 n] w (OnePost t w) := by
  obtain ⟨i, b, f, c, s⟩ := t
  go_enter Tryd.func20, Tryd.ntmps20
  have HT := Lib.hid (Two.new w ⟨i, b, f, c, s⟩ ⟨0, 0, 0, 0, 0⟩)
  go_wp2_with fail
  obtain ⟨V, hV⟩ : ∃ V, (w.alloc (.cells #[.int .i64 i, .int .i64 b, .int .i64 f, .int .i64 c, .int .i64 s] 23)).alloc (.cells #[.int .i64 0, .int .i64 0, .int .i64 0, .int .i64 0, .int .i64 0] 23) = V := ⟨_, rfl⟩
  rw [hV] at HT ⊢
  clear hV
  refine (valid_at ⟨i, b, f, c, s⟩ _ _ hv.out).mono ?_
  rintro e w1 ⟨rfl, b1⟩
  replace HT := Lib.hid (HT.out.keep b1)
  clear b1
  obtain ⟨B1, ⟨c0, c1, c2, c3, c4⟩, ⟨z0, z1, z2, z3, z4⟩, F1, S1⟩ := HT.out
  simp only at c0 c1 c2 c3 c4 z0 z1 z2 z3 z4
  have f0 := F1 0; have f1 := F1 1; have f2 := F1 2; have f3 := F1 3; have f4 := F1 4
  clear F1
  go_wp2_with fail
  refine (frame_at _ _ _ hf.out).mono ?_
  rintro e w2 ⟨rfl, rfl⟩
  go_wp2_with fail
  have q := (HT.out.Z).setAll i b f c s
  have BZ := below_set5 (HT.out.B) (Nat.le_succ _) i b f c s
  obtain ⟨Z, hZ⟩ : ∃ Z, ((((w1.setCell ⟨w.heap.size + 1, 0, none⟩ (.int .i64 i)).setCell ⟨w.heap.size + 1, 1, none⟩ (.int .i64 b)).setCell ⟨w.heap.size + 1, 2, none⟩ (.int .i64 f)).setCell ⟨w.heap.size + 1, 3, none⟩ (.int .i64 c)).setCell ⟨w.heap.size + 1, 4, none⟩ (.int .i64 s) = Z := ⟨_, rfl⟩
  rw [hZ] at q BZ ⊢
  clear hZ
  obtain ⟨q0, q1, q2, q3, q4⟩ := q
  simp only at q0 q1 q2 q3 q4
  refine bodyPost_ret (v := (⟨i, b, f, c, s⟩ : Tk).v) (by simp [results, Tryd.results20, go_sem, q0, q1, q2, q3, q4]) rfl ⟨rfl, BZ⟩
set_option maxRecDepth 100000 in
set_option maxHeartbeats 2000000 in
theorem reset_no2 (t : Tk) (n : Int) (w : World) (hv : Hid (validT t = true)) (hf : Hid (frameB n = true)) (h1 : Hid (t.i = 1)) : Calls Tryd.prog 20 #[t.v, .int .i64 n] w (OnePost t w) := by
  obtain ⟨i, b, f, c, s⟩ := t
  have h1 := h1.out
  simp only at h1
  subst h1
  go_enter Tryd.func20, Tryd.ntmps20
  have HT := Lib.hid (Two.new w ⟨1, b, f, c, s⟩ ⟨0, 0, 0, 0, 0⟩)
  go_wp2_with fail
  obtain ⟨V, hV⟩ : ∃ V, (w.alloc (.cells #[.int .i64 1, .int .i64 b, .int .i64 f, .int .i64 c, .int .i64 s] 23)).alloc (.cells #[.int .i64 0, .int .i64 0, .int .i64 0, .int .i64 0, .int .i64 0] 23) = V := ⟨_, rfl⟩
  rw [hV] at HT ⊢
  clear hV
  refine (valid_at ⟨1, b, f, c, s⟩ _ _ hv.out).mono ?_
  rintro e w1 ⟨rfl, b1⟩
  replace HT := Lib.hid (HT.out.keep b1)
  clear b1
  obtain ⟨B1, ⟨c0, c1, c2, c3, c4⟩, ⟨z0, z1, z2, z3, z4⟩, F1, S1⟩ := HT.out
  simp only at c0 c1 c2 c3 c4 z0 z1 z2 z3 z4
  have f0 := F1 0; have f1 := F1 1; have f2 := F1 2; have f3 := F1 3; have f4 := F1 4
  clear F1
  go_wp2_with fail
  refine (frame_at _ _ _ hf.out).mono ?_
  rintro e w2 ⟨rfl, rfl⟩
  go_wp2_with fail
  have q := (HT.out.Z).setAll 1 b f c s
  have BZ := below_set5 (HT.out.B) (Nat.le_succ _) 1 b f c s
  obtain ⟨Z, hZ⟩ : ∃ Z, ((((w1.setCell ⟨w.heap.size + 1, 0, none⟩ (.int .i64 1)).setCell ⟨w.heap.size + 1, 1, none⟩ (.int .i64 b)).setCell ⟨w.heap.size + 1, 2, none⟩ (.int .i64 f)).setCell ⟨w.heap.size + 1, 3, none⟩ (.int .i64 c)).setCell ⟨w.heap.size + 1, 4, none⟩ (.int .i64 s) = Z := ⟨_, rfl⟩
  rw [hZ] at q BZ ⊢
  clear hZ
  obtain ⟨q0, q1, q2, q3, q4⟩ := q
  simp only at q0 q1 q2 q3 q4
  refine bodyPost_ret (v := (⟨1, b, f, c, s⟩ : Tk).v) (by simp [results, Tryd.results20, go_sem, q0, q1, q2, q3, q4]) rfl ⟨rfl, BZ⟩
set_option maxRecDepth 100000 in
set_option maxHeartbeats 2000000 in
theorem reset_yes (t u : Tk) (n : Int) (w : World) (hT : Tab w) (hv : Hid (validT t = true)) (hf : Hid (frameB n = true)) (h1 : ¬ t.i = 1) (s0 : 0 ≤ t.s) (s1 : t.s ≤ 1000000000) (n0 : 0 ≤ n) (n1 : n ≤ 999999984) (hu : Hid (ivalV t.s 1 n = u)) : Calls Tryd.prog 20 #[t.v, .int .i64 n] w (OnePost u w) := by
  obtain ⟨i, b, f, c, s⟩ := t
  obtain ⟨ui, ub, uf, uk, us⟩ := u
  simp only at h1 s0 s1 hu
  have h1b : (i == 1) = false := beq_eq_false_iff_ne.2 h1
  go_enter Tryd.func20, Tryd.ntmps20
  have HT := Lib.hid (Two.new w ⟨i, b, f, c, s⟩ ⟨0, 0, 0, 0, 0⟩)
  go_wp2_with fail
  obtain ⟨V, hV⟩ : ∃ V, (w.alloc (.cells #[.int .i64 i, .int .i64 b, .int .i64 f, .int .i64 c, .int .i64 s] 23)).alloc (.cells #[.int .i64 0, .int .i64 0, .int .i64 0, .int .i64 0, .int .i64 0] 23) = V := ⟨_, rfl⟩
  rw [hV] at HT ⊢
  clear hV
  refine (valid_at ⟨i, b, f, c, s⟩ _ _ hv.out).mono ?_
  rintro e w1 ⟨rfl, b1⟩
  replace HT := Lib.hid (HT.out.keep b1)
  clear b1
  obtain ⟨B1, ⟨c0, c1, c2, c3, c4⟩, ⟨z0, z1, z2, z3, z4⟩, F1, S1⟩ := HT.out
  simp only at c0 c1 c2 c3 c4 z0 z1 z2 z3 z4
  have f0 := F1 0; have f1 := F1 1; have f2 := F1 2; have f3 := F1 3; have f4 := F1 4
  clear F1
  go_wp2_with fail
  refine (frame_at _ _ _ hf.out).mono ?_
  rintro e w2 ⟨rfl, rfl⟩
  go_wp2_with fail
  have hT1 := hT.keep (ball HT.out.B (.cells #[.int .i64 i, .int .i64 b, .int .i64 f, .int .i64 c, .int .i64 s] 42))
  have TX : TkAt (w1.alloc (.cells #[.int .i64 i, .int .i64 b, .int .i64 f, .int .i64 c, .int .i64 s] 42)) w1.heap.size ⟨i, b, f, c, s⟩ := ⟨new0 rfl rfl, new0 rfl rfl, new0 rfl rfl, new0 rfl rfl, new0 rfl rfl⟩
  have FX : ∀ j, (w1.alloc (.cells #[.int .i64 i, .int .i64 b, .int .i64 f, .int .i64 c, .int .i64 s] 42)).frozen? ⟨w1.heap.size, j, none⟩ = false := fun j => (frozen?_alloc_cells _ _ _ _).trans (frz_new (Nat.le_refl _))
  have hk : 0 < w1.heap.size := by omega
  refine (begin_at ⟨i, b, f, c, s⟩ _ 1 n w1.heap.size _ hu.out hT1 s0 s1 (.inl rfl) n0 n1 TX FX hk).mono ?_
  clear TX FX hT1 hk c0 c1 c2 c3 c4 z0 z1 z2 z3 z4 f0 f1 f2 f3 f4
  rintro e w3 ⟨⟨v, rfl⟩, ⟨x0, x1, x2, x3, x4⟩, b3⟩
  simp only at x0 x1 x2 x3 x4
  replace HT := Lib.hid (HT.out.begun b3)
  clear b3
  obtain ⟨B3, ⟨c0, c1, c2, c3, c4⟩, ⟨z0, z1, z2, z3, z4⟩, F3, S3⟩ := HT.out
  simp only at c0 c1 c2 c3 c4 z0 z1 z2 z3 z4
  have f0 := F3 0; have f1 := F3 1; have f2 := F3 2; have f3 := F3 3; have f4 := F3 4
  clear F3
  go_wp2_with fail
  have q := (HT.out.Z).setAll ui ub uf uk us
  have BZ := below_set5 (HT.out.B) (Nat.le_succ _) ui ub uf uk us
  obtain ⟨Z, hZ⟩ : ∃ Z, ((((w3.setCell ⟨w.heap.size + 1, 0, none⟩ (.int .i64 ui)).setCell ⟨w.heap.size + 1, 1, none⟩ (.int .i64 ub)).setCell ⟨w.heap.size + 1, 2, none⟩ (.int .i64 uf)).setCell ⟨w.heap.size + 1, 3, none⟩ (.int .i64 uk)).setCell ⟨w.heap.size + 1, 4, none⟩ (.int .i64 us) = Z := ⟨_, rfl⟩
  rw [hZ] at q BZ ⊢
  clear hZ
  obtain ⟨q0, q1, q2, q3, q4⟩ := q
  simp only at q0 q1 q2 q3 q4
  refine bodyPost_ret (v := (⟨ui, ub, uf, uk, us⟩ : Tk).v) (by simp [results, Tryd.results20, go_sem, q0, q1, q2, q3, q4]) rfl ⟨rfl, BZ⟩
theorem reset_any (t : Tk) (n : Int) (w : World) (hT : Tab w) : Calls Tryd.prog 20 #[t.v, .int .i64 n] w (OnePost (resetV t n) w) := by
  cases hv : validT t
  · rw [show resetV t n = t by simp [resetV, hv]]; exact reset_no0 t n w (Lib.hid hv) _ (Lib.hid rfl)
  cases hf : frameB n
  · rw [show resetV t n = t by simp [resetV, hf]]; exact reset_no1 t n w (Lib.hid hv) (Lib.hid hf)
  by_cases h1 : t.i = 1
  · rw [show resetV t n = t by simp [resetV, h1]]; exact reset_no2 t n w (Lib.hid hv) (Lib.hid hf) (Lib.hid h1)
  rw [show resetV t n = ivalV t.s 1 n by simp [resetV, hv, hf, h1]]
  have hV := validT_iff.1 hv
  have hf' := frameB_iff.1 hf
  exact reset_yes t _ n w hT (Lib.hid hv) (Lib.hid hf) h1 hV.s0 hV.s1 hf'.1 hf'.2 (Lib.hid rfl)
theorem reset_at (t u : Tk) (n : Int) (w : World) (hT : Tab w) (hu : resetV t n = u) : Calls Tryd.prog 20 #[t.v, .int .i64 n] w (OnePost u w) := by
  rw [← hu]; exact reset_any t n w hT
set_option maxRecDepth 100000 in
set_option maxHeartbeats 2000000 in
theorem rreset_no0 (t : Tk) (n : Int) (w : World) (hv : Hid (validT t = false)) (fz : Bool) (hf : Hid (frameB n = fz)) : Calls Tryd.prog 21 #[t.v, .int .i64 n] w (OnePost t w) := by
  obtain ⟨i, b, f, c, s⟩ := t
  go_enter Tryd.func21, Tryd.ntmps21
  have HT := Lib.hid (Two.new w ⟨i, b, f, c, s⟩ ⟨0, 0, 0, 0, 0⟩)
  go_wp2_with fail
  obtain ⟨V, hV⟩ : ∃ V, (w.alloc (.cells #[.int .i64 i, .int .i64 b, .int .i64 f, .int .i64 c, .int .i64 s] 23)).alloc (.cells #[.int .i64 0, .int .i64 0, .int .i64 0, .int .i64 0, .int .i64 0] 23) = V := ⟨_, rfl⟩
  rw [hV] at HT ⊢
  clear hV
  refine (rvalid_at ⟨i, b, f, c, s⟩ _ _ hv.out).mono ?_
  rintro e w1 ⟨rfl, b1⟩
  replace HT := Lib.hid (HT.out.keep b1)
  clear b1
  obtain ⟨B1, ⟨c0, c1, c2, c3, c4⟩, ⟨z0, z1, z2, z3, z4⟩, F1, S1⟩ := HT.out
  simp only at c0 c1 c2 c3 c4 z0 z1 z2 z3 z4
  have f0 := F1 0; have f1 := F1 1; have f2 := F1 2; have f3 := F1 3; have f4 := F1 4
  clear F1
  go_wp2_with fail
  refine (rframe_at _ _ _ hf.out).mono ?_
  rintro e w2 ⟨rfl, rfl⟩
  go_wp2_with fail
  have q := (HT.out.Z).setAll i b f c s
  have BZ := below_set5 (HT.out.B) (Nat.le_succ _) i b f c s
  obtain ⟨Z, hZ⟩ : ∃ Z, ((((w1.setCell ⟨w.heap.size + 1, 0, none⟩ (.int .i64 i)).setCell ⟨w.heap.size + 1, 1, none⟩ (.int .i64 b)).setCell ⟨w.heap.size + 1, 2, none⟩ (.int .i64 f)).setCell ⟨w.heap.size + 1, 3, none⟩ (.int .i64 c)).setCell ⟨w.heap.size + 1, 4, none⟩ (.int .i64 s) = Z := ⟨_, rfl⟩
  rw [hZ] at q BZ ⊢
  clear hZ
  obtain ⟨q0, q1, q2, q3, q4⟩ := q
  simp only at q0 q1 q2 q3 q4
  refine bodyPost_ret (v := (⟨i, b, f, c, s⟩ : Tk).v) (by simp [results, Tryd.results21, go_sem, q0, q1, q2, q3, q4]) rfl ⟨rfl, BZ⟩
set_option maxRecDepth 100000 in
set_option maxHeartbeats 2000000 in
theorem rreset_no1 (t : Tk) (n : Int) (w : World) (hv : Hid (validT t = true)) (hf : Hid (frameB n = false)) : Calls Tryd.prog 21 #[t.v, .int .i64 n] w (OnePost t w) := by
  obtain ⟨i, b, f, c, s⟩ := t
  go_enter Tryd.func21, Tryd.ntmps21
  have HT := Lib.hid (Two.new w ⟨i, b, f, c, s⟩ ⟨0, 0, 0, 0, 0⟩)
  go_wp2_with fail
  obtain ⟨V, hV⟩ : ∃ V, (w.alloc (.cells #[.int .i64 i, .int .i64 b, .int .i64 f, .int .i64 c, .int .i64 s] 23)).alloc (.cells #[.int .i64 0, .int .i64 0, .int .i64 0, .int .i64 0, .int .i64 0] 23) = V := ⟨_, rfl⟩
  rw [hV] at HT ⊢
  clear hV
  refine (rvalid_at ⟨i, b, f, c, s⟩ _ _ hv.out).mono ?_
  rintro e w1 ⟨rfl, b1⟩
  replace HT := Lib.hid (HT.out.keep b1)
  clear b1
  obtain ⟨B1, ⟨c0, c1, c2, c3, c4⟩, ⟨z0, z1, z2, z3, z4⟩, F1, S1⟩ := HT.out
  simp only at c0 c1 c2 c3 c4 z0 z1 z2 z3 z4
  have f0 := F1 0; have f1 := F1 1; have f2 := F1 2; have f3 := F1 3; have f4 := F1 4
  clear F1
  go_wp2_with fail
  refine (rframe_at _ _ _ hf.out).mono ?_
  rintro e w2 ⟨rfl, rfl⟩
  go_wp2_with fail
  have q := (HT.out.Z).setAll i b f c s
  have BZ := below_set5 (HT.out.B) (Nat.le_succ _) i b f c s
  obtain ⟨Z, hZ⟩ : ∃ Z, ((((w1.setCell ⟨w.heap.size + 1, 0, none⟩ (.int .i64 i)).setCell ⟨w.heap.size + 1, 1, none⟩ (.int .i64 b)).setCell ⟨w.heap.size + 1, 2, none⟩ (.int .i64 f)).setCell ⟨w.heap.size + 1, 3, none⟩ (.int .i64 c)).setCell ⟨w.heap.size + 1, 4, none⟩ (.int .i64 s) = Z := ⟨_, rfl⟩
  rw [hZ] at q BZ ⊢
  clear hZ
  obtain ⟨q0, q1, q2, q3, q4⟩ := q
  simp only at q0 q1 q2 q3 q4
  refine bodyPost_ret (v := (⟨i, b, f, c, s⟩ : Tk).v) (by simp [results, Tryd.results21, go_sem, q0, q1, q2, q3, q4]) rfl ⟨rfl, BZ⟩
set_option maxRecDepth 100000 in
set_option maxHeartbeats 2000000 in
theorem rreset_no2 (t : Tk) (n : Int) (w : World) (hv : Hid (validT t = true)) (hf : Hid (frameB n = true)) (h1 : Hid (t.i = 1)) : Calls Tryd.prog 21 #[t.v, .int .i64 n] w (OnePost t w) := by
  obtain ⟨i, b, f, c, s⟩ := t
  have h1 := h1.out
  simp only at h1
  subst h1
  go_enter Tryd.func21, Tryd.ntmps21
  have HT := Lib.hid (Two.new w ⟨1, b, f, c, s⟩ ⟨0, 0, 0, 0, 0⟩)
  go_wp2_with fail
  obtain ⟨V, hV⟩ : ∃ V, (w.alloc (.cells #[.int .i64 1, .int .i64 b, .int .i64 f, .int .i64 c, .int .i64 s] 23)).alloc (.cells #[.int .i64 0, .int .i64 0, .int .i64 0, .int .i64 0, .int .i64 0] 23) = V := ⟨_, rfl⟩
  rw [hV] at HT ⊢
  clear hV
  refine (rvalid_at ⟨1, b, f, c, s⟩ _ _ hv.out).mono ?_
  rintro e w1 ⟨rfl, b1⟩
  replace HT := Lib.hid (HT.out.keep b1)
  clear b1
  obtain ⟨B1, ⟨c0, c1, c2, c3, c4⟩, ⟨z0, z1, z2, z3, z4⟩, F1, S1⟩ := HT.out
  simp only at c0 c1 c2 c3 c4 z0 z1 z2 z3 z4
  have f0 := F1 0; have f1 := F1 1; have f2 := F1 2; have f3 := F1 3; have f4 := F1 4
  clear F1
  go_wp2_with fail
  refine (rframe_at _ _ _ hf.out).mono ?_
  rintro e w2 ⟨rfl, rfl⟩
  go_wp2_with fail
  have q := (HT.out.Z).setAll 1 b f c s
  have BZ := below_set5 (HT.out.B) (Nat.le_succ _) 1 b f c s
  obtain ⟨Z, hZ⟩ : ∃ Z, ((((w1.setCell ⟨w.heap.size + 1, 0, none⟩ (.int .i64 1)).setCell ⟨w.heap.size + 1, 1, none⟩ (.int .i64 b)).setCell ⟨w.heap.size + 1, 2, none⟩ (.int .i64 f)).setCell ⟨w.heap.size + 1, 3, none⟩ (.int .i64 c)).setCell ⟨w.heap.size + 1, 4, none⟩ (.int .i64 s) = Z := ⟨_, rfl⟩
  rw [hZ] at q BZ ⊢
  clear hZ
  obtain ⟨q0, q1, q2, q3, q4⟩ := q
  simp only at q0 q1 q2 q3 q4
  refine bodyPost_ret (v := (⟨1, b, f, c, s⟩ : Tk).v) (by simp [results, Tryd.results21, go_sem, q0, q1, q2, q3, q4]) rfl ⟨rfl, BZ⟩
set_option maxRecDepth 100000 in
set_option maxHeartbeats 2000000 in
theorem rreset_yes (t u : Tk) (n : Int) (w : World) (hT : Tab w) (hv : Hid (validT t = true)) (hf : Hid (frameB n = true)) (h1 : ¬ t.i = 1) (s0 : 0 ≤ t.s) (s1 : t.s ≤ 1000000000) (n0 : 0 ≤ n) (n1 : n ≤ 999999984) (hu : Hid (ivalV t.s 1 n = u)) : Calls Tryd.prog 21 #[t.v, .int .i64 n] w (OnePost u w) := by
  obtain ⟨i, b, f, c, s⟩ := t
  obtain ⟨ui, ub, uf, uk, us⟩ := u
  simp only at h1 s0 s1 hu
  have h1b : (i == 1) = false := beq_eq_false_iff_ne.2 h1
  go_enter Tryd.func21, Tryd.ntmps21
  have HT := Lib.hid (Two.new w ⟨i, b, f, c, s⟩ ⟨0, 0, 0, 0, 0⟩)
  go_wp2_with fail
  obtain ⟨V, hV⟩ : ∃ V, (w.alloc (.cells #[.int .i64 i, .int .i64 b, .int .i64 f, .int .i64 c, .int .i64 s] 23)).alloc (.cells #[.int .i64 0, .int .i64 0, .int .i64 0, .int .i64 0, .int .i64 0] 23) = V := ⟨_, rfl⟩
  rw [hV] at HT ⊢
  clear hV
  refine (rvalid_at ⟨i, b, f, c, s⟩ _ _ hv.out).mono ?_
  rintro e w1 ⟨rfl, b1⟩
  replace HT := Lib.hid (HT.out.keep b1)
  clear b1
  obtain ⟨B1, ⟨c0, c1, c2, c3, c4⟩, ⟨z0, z1, z2, z3, z4⟩, F1, S1⟩ := HT.out
  simp only at c0 c1 c2 c3 c4 z0 z1 z2 z3 z4
  have f0 := F1 0; have f1 := F1 1; have f2 := F1 2; have f3 := F1 3; have f4 := F1 4
  clear F1
  go_wp2_with fail
  refine (rframe_at _ _ _ hf.out).mono ?_
  rintro e w2 ⟨rfl, rfl⟩
  go_wp2_with fail
  refine (rival_at s _ n _ _ s0 s1 (.inl rfl) n0 n1 hu.out).mono ?_
  clear c0 c1 c2 c3 c4 z0 z1 z2 z3 z4 f0 f1 f2 f3 f4
  rintro e w3 ⟨rfl, b3⟩
  replace HT := Lib.hid (HT.out.keep b3)
  clear b3
  obtain ⟨B3, ⟨c0, c1, c2, c3, c4⟩, ⟨z0, z1, z2, z3, z4⟩, F3, S3⟩ := HT.out
  simp only at c0 c1 c2 c3 c4 z0 z1 z2 z3 z4
  have f0 := F3 0; have f1 := F3 1; have f2 := F3 2; have f3 := F3 3; have f4 := F3 4
  clear F3
  go_wp2_with fail
  have q := (HT.out.Z).setAll ui ub uf uk us
  have BZ := below_set5 (HT.out.B) (Nat.le_succ _) ui ub uf uk us
  obtain ⟨Z, hZ⟩ : ∃ Z, ((((w3.setCell ⟨w.heap.size + 1, 0, none⟩ (.int .i64 ui)).setCell ⟨w.heap.size + 1, 1, none⟩ (.int .i64 ub)).setCell ⟨w.heap.size + 1, 2, none⟩ (.int .i64 uf)).setCell ⟨w.heap.size + 1, 3, none⟩ (.int .i64 uk)).setCell ⟨w.heap.size + 1, 4, none⟩ (.int .i64 us) = Z := ⟨_, rfl⟩
  rw [hZ] at q BZ ⊢
  clear hZ
  obtain ⟨q0, q1, q2, q3, q4⟩ := q
  simp only at q0 q1 q2 q3 q4
  refine bodyPost_ret (v := (⟨ui, ub, uf, uk, us⟩ : Tk).v) (by simp [results, Tryd.results21, go_sem, q0, q1, q2, q3, q4]) rfl ⟨rfl, BZ⟩
theorem rreset_any (t : Tk) (n : Int) (w : World) (hT : Tab w) : Calls Tryd.prog 21 #[t.v, .int .i64 n] w (OnePost (resetV t n) w) := by
  cases hv : validT t
  · rw [show resetV t n = t by simp [resetV, hv]]; exact rreset_no0 t n w (Lib.hid hv) _ (Lib.hid rfl)
  cases hf : frameB n
  · rw [show resetV t n = t by simp [resetV, hf]]; exact rreset_no1 t n w (Lib.hid hv) (Lib.hid hf)
  by_cases h1 : t.i = 1
  · rw [show resetV t n = t by simp [resetV, h1]]; exact rreset_no2 t n w (Lib.hid hv) (Lib.hid hf) (Lib.hid h1)
  rw [show resetV t n = ivalV t.s 1 n by simp [resetV, hv, hf, h1]]
  have hV := validT_iff.1 hv
  have hf' := frameB_iff.1 hf
  exact rreset_yes t _ n w hT (Lib.hid hv) (Lib.hid hf) h1 hV.s0 hV.s1 hf'.1 hf'.2 (Lib.hid rfl)
theorem rreset_at (t u : Tk) (n : Int) (w : World) (hT : Tab w) (hu : resetV t n = u) : Calls Tryd.prog 21 #[t.v, .int .i64 n] w (OnePost u w) := by
  rw [← hu]; exact rreset_any t n w hT
end Go.Proofs.YteeajkopigdblaaDoor
