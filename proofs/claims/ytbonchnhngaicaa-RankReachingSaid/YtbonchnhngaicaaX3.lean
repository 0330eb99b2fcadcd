/- Proved: what Before of the reference and the two function values of rank.Choose, and Start return. Conditions: offers are valid where a theorem says so. -/
import Derived.Test.YtbonchnhngaicaaX2
namespace Go.Proofs.Ytbonchnhngaicaa
open Go.RowKit Go.Sort Go.BigFrame
set_option linter.unusedVariables false
set_option linter.unusedSimpArgs false
attribute [local go_sem] cell_alloc_old

set_option maxRecDepth 100000 in
set_option maxHeartbeats 1000000 in
theorem rbefore_any (a b : Ofr) (w : World) (a0 : 0 ≤ a.t.r) (a1 : a.t.r ≤ 1000000) (a2 : 1 ≤ a.c) (a3 : a.c ≤ 4096) (b0 : 0 ≤ b.t.r) (b1 : b.t.r ≤ 1000000) (b2 : 1 ≤ b.c) (b3 : b.c ≤ 4096) : Calls Try.prog 25 #[a.v, b.v] w (Yes (beforeB a b) w) := by
  have key : ∀ y : Bool, (y = true ↔ b.t.s < a.t.s ∨ a.t.s = b.t.s ∧ (a.t.r + a.c < b.t.r + b.c ∨ a.t.r + a.c = b.t.r + b.c ∧ a.p < b.p)) → y = beforeB a b := fun y hy => by
    rw [Bool.eq_iff_iff, hy, before_iff]
  have KEY := Lib.hid key; clear key
  obtain ⟨p, ⟨s, r⟩, c⟩ := a
  obtain ⟨q, ⟨t, x⟩, d⟩ := b
  simp only at a0 a1 a2 a3 b0 b1 b2 b3 KEY
  by_cases hs : s = t
  · have HS := Lib.hid hs
    subst hs
    go_enter Try.func25, Try.ntmps25
    go_wp2_with fail
    all_goals
      go_ret
      refine ⟨congrArg (fun z => Ending.returned (.bool z)) (KEY.out _ ?_), ball (ball (Below.refl _ _) _) _⟩
      simp <;> omega
  · have hsb : (s != t) = true := by simpa using hs
    go_enter Try.func25, Try.ntmps25
    go_wp2_with fail
    all_goals
      go_ret
      refine ⟨congrArg (fun z => Ending.returned (.bool z)) (KEY.out _ ?_), ball (ball (Below.refl _ _) _) _⟩
      simp <;> omega
theorem rbefore_at (a b : Ofr) (y : Bool) (w : World) (a0 : 0 ≤ a.t.r) (a1 : a.t.r ≤ 1000000) (a2 : 1 ≤ a.c) (a3 : a.c ≤ 4096) (b0 : 0 ≤ b.t.r) (b1 : b.t.r ≤ 1000000) (b2 : 1 ≤ b.c) (b3 : b.c ≤ 4096) (hy : beforeB a b = y) : Calls Try.prog 25 #[a.v, b.v] w (Yes y w) := by rw [← hy]; exact rbefore_any a b w a0 a1 a2 a3 b0 b1 b2 b3
set_option maxRecDepth 100000 in
theorem cl1_at (r : Rt) (k : Nat) (o : Ofr) (y : Bool) (w : World) (hr : CAt w k [.int .i64 r.o.s, .int .i64 r.o.r, .int .i64 r.l.s, .int .i64 r.l.r, .int .i64 r.p]) (t0 : 0 ≤ o.t.r) (t1 : o.t.r ≤ 1000000) (c0 : 1 ≤ o.c) (c1 : o.c ≤ 4096) (hy : possB r o = y) : Calls Try.prog 35 #[o.v, .pointer (some ⟨k, 0, none⟩)] w (Yes y w) := by
  have HY := Lib.hid hy; clear hy
  go_enter Try.func35, Try.ntmps35
  have hr0 := hr 0 _ rfl; have hr1 := hr 1 _ rfl; have hr2 := hr 2 _ rfl; have hr3 := hr 3 _ rfl; have hr4 := hr 4 _ rfl
  go_wp2_with fail
  have Td := CAt.new (w) [.int .i64 o.p, .int .i64 o.t.s, .int .i64 o.t.r, .int .i64 o.c] 40
  have BB : Below w.heap.size w ((w).alloc (.cells #[.int .i64 o.p, .int .i64 o.t.s, .int .i64 o.t.r, .int .i64 o.c] 40)) := ball (Below.refl _ _) _
  obtain ⟨V1, hV1⟩ : ∃ V1, w.alloc (.cells #[.int .i64 o.p, .int .i64 o.t.s, .int .i64 o.t.r, .int .i64 o.c] 40) = V1 := ⟨_, rfl⟩
  rw [hV1] at BB Td ⊢
  clear hV1
  clear hr0 hr1 hr2 hr3 hr4
  refine (poss_at r o y _ t0 t1 c0 c1 HY.out).mono ?_
  rintro e w2 ⟨rfl, b2⟩
  replace Td := Td.keep b2
  replace BB := bstep BB b2
  clear b2
  go_wp2_with fail
  go_ret
  exact ⟨rfl, BB⟩
set_option maxRecDepth 100000 in
set_option maxHeartbeats 1000000 in
theorem cl2_0 (a b : Ofr) (w : World) (a0 : 0 ≤ a.t.r) (a1 : a.t.r ≤ 1000000) (a2 : 1 ≤ a.c) (a3 : a.c ≤ 4096) (b0 : 0 ≤ b.t.r) (b1 : b.t.r ≤ 1000000) (b2 : 1 ≤ b.c) (b3 : b.c ≤ 4096) (h1 : Hid (betterB (thr a) (thr b) = true)) : Calls Try.prog 38 #[a.v, b.v] w (Yes true w) := by
  go_enter Try.func38, Try.ntmps38
  go_wp2_with fail
  have Ta := CAt.new (w) [.int .i64 a.p, .int .i64 a.t.s, .int .i64 a.t.r, .int .i64 a.c] 40
  have BB : Below w.heap.size w ((w).alloc (.cells #[.int .i64 a.p, .int .i64 a.t.s, .int .i64 a.t.r, .int .i64 a.c] 40)) := ball (Below.refl _ _) _
  have Tb := CAt.new (w.alloc (.cells #[.int .i64 a.p, .int .i64 a.t.s, .int .i64 a.t.r, .int .i64 a.c] 40)) [.int .i64 b.p, .int .i64 b.t.s, .int .i64 b.t.r, .int .i64 b.c] 40
  replace Ta := Ta.alloc (.cells #[.int .i64 b.p, .int .i64 b.t.s, .int .i64 b.t.r, .int .i64 b.c] 40)
  replace BB := ball BB (.cells #[.int .i64 b.p, .int .i64 b.t.s, .int .i64 b.t.r, .int .i64 b.c] 40)
  simp only [World.size_alloc, Nat.add_assoc, Nat.reduceAdd] at Tb
  obtain ⟨V1, hV1⟩ : ∃ V1, (w.alloc (.cells #[.int .i64 a.p, .int .i64 a.t.s, .int .i64 a.t.r, .int .i64 a.c] 40)).alloc (.cells #[.int .i64 b.p, .int .i64 b.t.s, .int .i64 b.t.r, .int .i64 b.c] 40) = V1 := ⟨_, rfl⟩
  rw [hV1] at BB Ta Tb ⊢
  clear hV1
  have bs2 : w.heap.size ≤ V1.heap.size := BB.size
  have lt2a : w.heap.size < V1.heap.size := World.block_lt_of_cell? V1 ⟨w.heap.size, 0, none⟩ (Ta 0 _ rfl)
  have lt2b : w.heap.size + 1 < V1.heap.size := World.block_lt_of_cell? V1 ⟨w.heap.size + 1, 0, none⟩ (Tb 0 _ rfl)
  have a0 := Ta 0 _ rfl
  have ka0 := cell_regrown a0
  have a1 := Ta 1 _ rfl
  have ka1 := cell_regrown a1
  have a2 := Ta 2 _ rfl
  have ka2 := cell_regrown a2
  have a3 := Ta 3 _ rfl
  have ka3 := cell_regrown a3
  have b0 := Tb 0 _ rfl
  have kb0 := cell_regrown b0
  have b1 := Tb 1 _ rfl
  have kb1 := cell_regrown b1
  have b2 := Tb 2 _ rfl
  have kb2 := cell_regrown b2
  have b3 := Tb 3 _ rfl
  have kb3 := cell_regrown b3
  refine' wp_region_mixed [0, 1, 2, 3] [4, 5] [6, 7] (by kernel_rfl) (by kernel_rfl) _ (fun Z hZ hN => quiet_hole ?hq1) (fun _ => (.cells #[.int .i64 0, .int .i64 0] 23)) (fun _ p => .pointer (some ⟨p, 0, none⟩)) ?hal1 ?ht1
  case hq1 =>
    intro Q9 hQ9
    show wpQuiet _ _ _ _ [_, _, _, _] _
    repeat (go_big_quiet_step (first
      | (go_at_call 39; exact rgX hZ fun w' h => through_any _ w' (by assumption) (by assumption) (by assumption) (by assumption))))
    exact wpQuiet_nil hQ9
  case hal1 =>
    intro i hi o ho w' hw'
    simp only [List.mem_cons, List.not_mem_nil, or_false] at hi
    rcases hi with rfl | rfl <;> (simp only [List.getElem?_cons_succ, List.getElem?_cons_zero, Option.some.injEq] at ho; subst ho; go_simp)
  rintro π z2 hz2 hπ hπd
  simp only [List.filterMap_cons, List.filterMap_nil, List.getElem?_cons_zero, List.getElem?_cons_succ, putsA, Option.bind_some, Act.put, List.setIfInBounds_toArray, List.set_cons_zero, List.set_cons_succ]
  show wpList _ _ _ [_, _] _ _
  clear a0 ka0 a1 ka1 a2 ka2 a3 ka3 b0 kb0 b1 kb1 b2 kb2 b3 kb3
  replace Ta := Ta.keep hz2
  replace Tb := Tb.keep hz2
  replace BB := bstep BB hz2
  have hpx := hπ 4 (by simp)
  have Tx : CAt z2 (π 4) [.int .i64 0, .int .i64 0] := fun j v hj => cell_blk hpx.1 (by simpa using hj)
  have Fx : Fz z2 (π 4) := ⟨fun j => frz_blk hpx.1, (Array.getElem?_eq_some_iff.1 hpx.1).1⟩
  have hlx := hpx.2
  have hpy := hπ 5 (by simp)
  have Ty : CAt z2 (π 5) [.int .i64 0, .int .i64 0] := fun j v hj => cell_blk hpy.1 (by simpa using hj)
  have Fy : Fz z2 (π 5) := ⟨fun j => frz_blk hpy.1, (Array.getElem?_eq_some_iff.1 hpy.1).1⟩
  have hly := hpy.2
  have neyx : ¬ π 5 = π 4 := fun h => by have := hπd 5 (by simp) 4 (by simp) h; omega
  have nexy : ¬ π 4 = π 5 := fun h => neyx h.symm
  clear hπ hπd hpx hpy
  obtain ⟨px, ex⟩ : ∃ q, π 4 = q := ⟨_, rfl⟩
  rw [ex] at Tx Fx hlx nexy neyx ⊢
  clear ex
  obtain ⟨py, ey⟩ : ∃ q, π 5 = q := ⟨_, rfl⟩
  rw [ey] at Ty Fy hly nexy neyx ⊢
  clear ey
  have x0 := Tx 0 _ rfl
  have fx0 := Fx.1 0
  have x1 := Tx 1 _ rfl
  have fx1 := Fx.1 1
  have y0 := Ty 0 _ rfl
  have fy0 := Fy.1 0
  have y1 := Ty 1 _ rfl
  have fy1 := Fy.1 1
  have a0 := Ta 0 _ rfl
  have a1 := Ta 1 _ rfl
  have a2 := Ta 2 _ rfl
  have a3 := Ta 3 _ rfl
  have b0 := Tb 0 _ rfl
  have b1 := Tb 1 _ rfl
  have b2 := Tb 2 _ rfl
  have b3 := Tb 3 _ rfl
  unfold thr
  go_upto_region 2 with (fail)
  clear x0 fx0 x1 fx1 y0 fy0 y1 fy1 a0 a1 a2 a3 b0 b1 b2 b3
  replace Tx := Tx.set 0 (.int .i64 a.t.s) (by simp)
  replace Ta := Ta.other (k' := px) (by omega) 0 (.int .i64 a.t.s)
  replace Tb := Tb.other (k' := px) (by omega) 0 (.int .i64 a.t.s)
  replace Ty := Ty.other (k' := px) (by omega) 0 (.int .i64 a.t.s)
  replace Fx := Fx.set ⟨px, 0, none⟩ (.int .i64 a.t.s)
  replace Fy := Fy.set ⟨px, 0, none⟩ (.int .i64 a.t.s)
  replace BB := BB.setCell (p := ⟨px, 0, none⟩) (by first | exact Nat.le_refl _ | (simp only; omega)) (.int .i64 a.t.s)
  replace Tx := Tx.set 1 (.int .i64 (a.t.r + a.c)) (by simp)
  replace Ta := Ta.other (k' := px) (by omega) 1 (.int .i64 (a.t.r + a.c))
  replace Tb := Tb.other (k' := px) (by omega) 1 (.int .i64 (a.t.r + a.c))
  replace Ty := Ty.other (k' := px) (by omega) 1 (.int .i64 (a.t.r + a.c))
  replace Fx := Fx.set ⟨px, 1, none⟩ (.int .i64 (a.t.r + a.c))
  replace Fy := Fy.set ⟨px, 1, none⟩ (.int .i64 (a.t.r + a.c))
  replace BB := BB.setCell (p := ⟨px, 1, none⟩) (by first | exact Nat.le_refl _ | (simp only; omega)) (.int .i64 (a.t.r + a.c))
  obtain ⟨V3, hV3⟩ : ∃ V3, (z2.setCell ⟨px, 0, none⟩ (.int .i64 a.t.s)).setCell ⟨px, 1, none⟩ (.int .i64 (a.t.r + a.c)) = V3 := ⟨_, rfl⟩
  rw [hV3] at BB Ta Tb Tx Ty Fx Fy ⊢
  clear hV3
  replace Ty := Ty.set 0 (.int .i64 b.t.s) (by simp)
  replace Ta := Ta.other (k' := py) (by omega) 0 (.int .i64 b.t.s)
  replace Tb := Tb.other (k' := py) (by omega) 0 (.int .i64 b.t.s)
  replace Tx := Tx.other (k' := py) (by omega) 0 (.int .i64 b.t.s)
  replace Fx := Fx.set ⟨py, 0, none⟩ (.int .i64 b.t.s)
  replace Fy := Fy.set ⟨py, 0, none⟩ (.int .i64 b.t.s)
  replace BB := BB.setCell (p := ⟨py, 0, none⟩) (by first | exact Nat.le_refl _ | (simp only; omega)) (.int .i64 b.t.s)
  replace Ty := Ty.set 1 (.int .i64 (b.t.r + b.c)) (by simp)
  replace Ta := Ta.other (k' := py) (by omega) 1 (.int .i64 (b.t.r + b.c))
  replace Tb := Tb.other (k' := py) (by omega) 1 (.int .i64 (b.t.r + b.c))
  replace Tx := Tx.other (k' := py) (by omega) 1 (.int .i64 (b.t.r + b.c))
  replace Fx := Fx.set ⟨py, 1, none⟩ (.int .i64 (b.t.r + b.c))
  replace Fy := Fy.set ⟨py, 1, none⟩ (.int .i64 (b.t.r + b.c))
  replace BB := BB.setCell (p := ⟨py, 1, none⟩) (by first | exact Nat.le_refl _ | (simp only; omega)) (.int .i64 (b.t.r + b.c))
  obtain ⟨V4, hV4⟩ : ∃ V4, (V3.setCell ⟨py, 0, none⟩ (.int .i64 b.t.s)).setCell ⟨py, 1, none⟩ (.int .i64 (b.t.r + b.c)) = V4 := ⟨_, rfl⟩
  rw [hV4] at BB Ta Tb Tx Ty Fx Fy ⊢
  clear hV4
  have a0 := Ta 0 _ rfl
  have a1 := Ta 1 _ rfl
  have a2 := Ta 2 _ rfl
  have a3 := Ta 3 _ rfl
  have b0 := Tb 0 _ rfl
  have b1 := Tb 1 _ rfl
  have b2 := Tb 2 _ rfl
  have b3 := Tb 3 _ rfl
  have x0 := Tx 0 _ rfl
  have fx0 := Fx.1 0
  have x1 := Tx 1 _ rfl
  have fx1 := Fx.1 1
  have y0 := Ty 0 _ rfl
  have fy0 := Fy.1 0
  have y1 := Ty 1 _ rfl
  have fy1 := Fy.1 1
  go_wp2_with fail
  refine (better_at ⟨a.t.s, a.t.r + a.c⟩ ⟨b.t.s, b.t.r + b.c⟩ _ _ h1.out).mono ?_
  clear a0 a1 a2 a3 b0 b1 b2 b3 x0 fx0 x1 fx1 y0 fy0 y1 fy1
  rintro e w5 ⟨rfl, b5⟩
  replace Ta := Ta.keep b5
  replace Tb := Tb.keep b5
  replace Tx := Tx.keep b5
  replace Ty := Ty.keep b5
  replace Fx := Fx.keep b5
  replace Fy := Fy.keep b5
  replace BB := bstep BB b5
  clear b5
  have a0 := Ta 0 _ rfl
  have a1 := Ta 1 _ rfl
  have a2 := Ta 2 _ rfl
  have a3 := Ta 3 _ rfl
  have b0 := Tb 0 _ rfl
  have b1 := Tb 1 _ rfl
  have b2 := Tb 2 _ rfl
  have b3 := Tb 3 _ rfl
  have x0 := Tx 0 _ rfl
  have fx0 := Fx.1 0
  have x1 := Tx 1 _ rfl
  have fx1 := Fx.1 1
  have y0 := Ty 0 _ rfl
  have fy0 := Fy.1 0
  have y1 := Ty 1 _ rfl
  have fy1 := Fy.1 1
  go_wp2_with fail
  all_goals
    go_ret
    refine ⟨?_, BB⟩
    first | rfl | (have h2q := h2.out; exfalso; omega) | (have h2q := h2.out; simp [*]; done)
set_option maxRecDepth 100000 in
set_option maxHeartbeats 1000000 in
theorem cl2_1 (a b : Ofr) (w : World) (a0 : 0 ≤ a.t.r) (a1 : a.t.r ≤ 1000000) (a2 : 1 ≤ a.c) (a3 : a.c ≤ 4096) (b0 : 0 ≤ b.t.r) (b1 : b.t.r ≤ 1000000) (b2 : 1 ≤ b.c) (b3 : b.c ≤ 4096) (h1 : Hid (betterB (thr a) (thr b) = false)) (h2 : Hid (¬ (a.t.s = b.t.s ∧ a.t.r + a.c = b.t.r + b.c))) : Calls Try.prog 38 #[a.v, b.v] w (Yes false w) := by
  go_enter Try.func38, Try.ntmps38
  go_wp2_with fail
  have Ta := CAt.new (w) [.int .i64 a.p, .int .i64 a.t.s, .int .i64 a.t.r, .int .i64 a.c] 40
  have BB : Below w.heap.size w ((w).alloc (.cells #[.int .i64 a.p, .int .i64 a.t.s, .int .i64 a.t.r, .int .i64 a.c] 40)) := ball (Below.refl _ _) _
  have Tb := CAt.new (w.alloc (.cells #[.int .i64 a.p, .int .i64 a.t.s, .int .i64 a.t.r, .int .i64 a.c] 40)) [.int .i64 b.p, .int .i64 b.t.s, .int .i64 b.t.r, .int .i64 b.c] 40
  replace Ta := Ta.alloc (.cells #[.int .i64 b.p, .int .i64 b.t.s, .int .i64 b.t.r, .int .i64 b.c] 40)
  replace BB := ball BB (.cells #[.int .i64 b.p, .int .i64 b.t.s, .int .i64 b.t.r, .int .i64 b.c] 40)
  simp only [World.size_alloc, Nat.add_assoc, Nat.reduceAdd] at Tb
  obtain ⟨V1, hV1⟩ : ∃ V1, (w.alloc (.cells #[.int .i64 a.p, .int .i64 a.t.s, .int .i64 a.t.r, .int .i64 a.c] 40)).alloc (.cells #[.int .i64 b.p, .int .i64 b.t.s, .int .i64 b.t.r, .int .i64 b.c] 40) = V1 := ⟨_, rfl⟩
  rw [hV1] at BB Ta Tb ⊢
  clear hV1
  have bs2 : w.heap.size ≤ V1.heap.size := BB.size
  have lt2a : w.heap.size < V1.heap.size := World.block_lt_of_cell? V1 ⟨w.heap.size, 0, none⟩ (Ta 0 _ rfl)
  have lt2b : w.heap.size + 1 < V1.heap.size := World.block_lt_of_cell? V1 ⟨w.heap.size + 1, 0, none⟩ (Tb 0 _ rfl)
  have a0 := Ta 0 _ rfl
  have ka0 := cell_regrown a0
  have a1 := Ta 1 _ rfl
  have ka1 := cell_regrown a1
  have a2 := Ta 2 _ rfl
  have ka2 := cell_regrown a2
  have a3 := Ta 3 _ rfl
  have ka3 := cell_regrown a3
  have b0 := Tb 0 _ rfl
  have kb0 := cell_regrown b0
  have b1 := Tb 1 _ rfl
  have kb1 := cell_regrown b1
  have b2 := Tb 2 _ rfl
  have kb2 := cell_regrown b2
  have b3 := Tb 3 _ rfl
  have kb3 := cell_regrown b3
  refine' wp_region_mixed [0, 1, 2, 3] [4, 5] [6, 7] (by kernel_rfl) (by kernel_rfl) _ (fun Z hZ hN => quiet_hole ?hq1) (fun _ => (.cells #[.int .i64 0, .int .i64 0] 23)) (fun _ p => .pointer (some ⟨p, 0, none⟩)) ?hal1 ?ht1
  case hq1 =>
    intro Q9 hQ9
    show wpQuiet _ _ _ _ [_, _, _, _] _
    repeat (go_big_quiet_step (first
      | (go_at_call 39; exact rgX hZ fun w' h => through_any _ w' (by assumption) (by assumption) (by assumption) (by assumption))))
    exact wpQuiet_nil hQ9
  case hal1 =>
    intro i hi o ho w' hw'
    simp only [List.mem_cons, List.not_mem_nil, or_false] at hi
    rcases hi with rfl | rfl <;> (simp only [List.getElem?_cons_succ, List.getElem?_cons_zero, Option.some.injEq] at ho; subst ho; go_simp)
  rintro π z2 hz2 hπ hπd
  simp only [List.filterMap_cons, List.filterMap_nil, List.getElem?_cons_zero, List.getElem?_cons_succ, putsA, Option.bind_some, Act.put, List.setIfInBounds_toArray, List.set_cons_zero, List.set_cons_succ]
  show wpList _ _ _ [_, _] _ _
  clear a0 ka0 a1 ka1 a2 ka2 a3 ka3 b0 kb0 b1 kb1 b2 kb2 b3 kb3
  replace Ta := Ta.keep hz2
  replace Tb := Tb.keep hz2
  replace BB := bstep BB hz2
  have hpx := hπ 4 (by simp)
  have Tx : CAt z2 (π 4) [.int .i64 0, .int .i64 0] := fun j v hj => cell_blk hpx.1 (by simpa using hj)
  have Fx : Fz z2 (π 4) := ⟨fun j => frz_blk hpx.1, (Array.getElem?_eq_some_iff.1 hpx.1).1⟩
  have hlx := hpx.2
  have hpy := hπ 5 (by simp)
  have Ty : CAt z2 (π 5) [.int .i64 0, .int .i64 0] := fun j v hj => cell_blk hpy.1 (by simpa using hj)
  have Fy : Fz z2 (π 5) := ⟨fun j => frz_blk hpy.1, (Array.getElem?_eq_some_iff.1 hpy.1).1⟩
  have hly := hpy.2
  have neyx : ¬ π 5 = π 4 := fun h => by have := hπd 5 (by simp) 4 (by simp) h; omega
  have nexy : ¬ π 4 = π 5 := fun h => neyx h.symm
  clear hπ hπd hpx hpy
  obtain ⟨px, ex⟩ : ∃ q, π 4 = q := ⟨_, rfl⟩
  rw [ex] at Tx Fx hlx nexy neyx ⊢
  clear ex
  obtain ⟨py, ey⟩ : ∃ q, π 5 = q := ⟨_, rfl⟩
  rw [ey] at Ty Fy hly nexy neyx ⊢
  clear ey
  have x0 := Tx 0 _ rfl
  have fx0 := Fx.1 0
  have x1 := Tx 1 _ rfl
  have fx1 := Fx.1 1
  have y0 := Ty 0 _ rfl
  have fy0 := Fy.1 0
  have y1 := Ty 1 _ rfl
  have fy1 := Fy.1 1
  have a0 := Ta 0 _ rfl
  have a1 := Ta 1 _ rfl
  have a2 := Ta 2 _ rfl
  have a3 := Ta 3 _ rfl
  have b0 := Tb 0 _ rfl
  have b1 := Tb 1 _ rfl
  have b2 := Tb 2 _ rfl
  have b3 := Tb 3 _ rfl
  unfold thr
  go_upto_region 2 with (fail)
  clear x0 fx0 x1 fx1 y0 fy0 y1 fy1 a0 a1 a2 a3 b0 b1 b2 b3
  replace Tx := Tx.set 0 (.int .i64 a.t.s) (by simp)
  replace Ta := Ta.other (k' := px) (by omega) 0 (.int .i64 a.t.s)
  replace Tb := Tb.other (k' := px) (by omega) 0 (.int .i64 a.t.s)
  replace Ty := Ty.other (k' := px) (by omega) 0 (.int .i64 a.t.s)
  replace Fx := Fx.set ⟨px, 0, none⟩ (.int .i64 a.t.s)
  replace Fy := Fy.set ⟨px, 0, none⟩ (.int .i64 a.t.s)
  replace BB := BB.setCell (p := ⟨px, 0, none⟩) (by first | exact Nat.le_refl _ | (simp only; omega)) (.int .i64 a.t.s)
  replace Tx := Tx.set 1 (.int .i64 (a.t.r + a.c)) (by simp)
  replace Ta := Ta.other (k' := px) (by omega) 1 (.int .i64 (a.t.r + a.c))
  replace Tb := Tb.other (k' := px) (by omega) 1 (.int .i64 (a.t.r + a.c))
  replace Ty := Ty.other (k' := px) (by omega) 1 (.int .i64 (a.t.r + a.c))
  replace Fx := Fx.set ⟨px, 1, none⟩ (.int .i64 (a.t.r + a.c))
  replace Fy := Fy.set ⟨px, 1, none⟩ (.int .i64 (a.t.r + a.c))
  replace BB := BB.setCell (p := ⟨px, 1, none⟩) (by first | exact Nat.le_refl _ | (simp only; omega)) (.int .i64 (a.t.r + a.c))
  obtain ⟨V3, hV3⟩ : ∃ V3, (z2.setCell ⟨px, 0, none⟩ (.int .i64 a.t.s)).setCell ⟨px, 1, none⟩ (.int .i64 (a.t.r + a.c)) = V3 := ⟨_, rfl⟩
  rw [hV3] at BB Ta Tb Tx Ty Fx Fy ⊢
  clear hV3
  replace Ty := Ty.set 0 (.int .i64 b.t.s) (by simp)
  replace Ta := Ta.other (k' := py) (by omega) 0 (.int .i64 b.t.s)
  replace Tb := Tb.other (k' := py) (by omega) 0 (.int .i64 b.t.s)
  replace Tx := Tx.other (k' := py) (by omega) 0 (.int .i64 b.t.s)
  replace Fx := Fx.set ⟨py, 0, none⟩ (.int .i64 b.t.s)
  replace Fy := Fy.set ⟨py, 0, none⟩ (.int .i64 b.t.s)
  replace BB := BB.setCell (p := ⟨py, 0, none⟩) (by first | exact Nat.le_refl _ | (simp only; omega)) (.int .i64 b.t.s)
  replace Ty := Ty.set 1 (.int .i64 (b.t.r + b.c)) (by simp)
  replace Ta := Ta.other (k' := py) (by omega) 1 (.int .i64 (b.t.r + b.c))
  replace Tb := Tb.other (k' := py) (by omega) 1 (.int .i64 (b.t.r + b.c))
  replace Tx := Tx.other (k' := py) (by omega) 1 (.int .i64 (b.t.r + b.c))
  replace Fx := Fx.set ⟨py, 1, none⟩ (.int .i64 (b.t.r + b.c))
  replace Fy := Fy.set ⟨py, 1, none⟩ (.int .i64 (b.t.r + b.c))
  replace BB := BB.setCell (p := ⟨py, 1, none⟩) (by first | exact Nat.le_refl _ | (simp only; omega)) (.int .i64 (b.t.r + b.c))
  obtain ⟨V4, hV4⟩ : ∃ V4, (V3.setCell ⟨py, 0, none⟩ (.int .i64 b.t.s)).setCell ⟨py, 1, none⟩ (.int .i64 (b.t.r + b.c)) = V4 := ⟨_, rfl⟩
  rw [hV4] at BB Ta Tb Tx Ty Fx Fy ⊢
  clear hV4
  have a0 := Ta 0 _ rfl
  have a1 := Ta 1 _ rfl
  have a2 := Ta 2 _ rfl
  have a3 := Ta 3 _ rfl
  have b0 := Tb 0 _ rfl
  have b1 := Tb 1 _ rfl
  have b2 := Tb 2 _ rfl
  have b3 := Tb 3 _ rfl
  have x0 := Tx 0 _ rfl
  have fx0 := Fx.1 0
  have x1 := Tx 1 _ rfl
  have fx1 := Fx.1 1
  have y0 := Ty 0 _ rfl
  have fy0 := Fy.1 0
  have y1 := Ty 1 _ rfl
  have fy1 := Fy.1 1
  go_wp2_with fail
  refine (better_at ⟨a.t.s, a.t.r + a.c⟩ ⟨b.t.s, b.t.r + b.c⟩ _ _ h1.out).mono ?_
  clear a0 a1 a2 a3 b0 b1 b2 b3 x0 fx0 x1 fx1 y0 fy0 y1 fy1
  rintro e w5 ⟨rfl, b5⟩
  replace Ta := Ta.keep b5
  replace Tb := Tb.keep b5
  replace Tx := Tx.keep b5
  replace Ty := Ty.keep b5
  replace Fx := Fx.keep b5
  replace Fy := Fy.keep b5
  replace BB := bstep BB b5
  clear b5
  have a0 := Ta 0 _ rfl
  have a1 := Ta 1 _ rfl
  have a2 := Ta 2 _ rfl
  have a3 := Ta 3 _ rfl
  have b0 := Tb 0 _ rfl
  have b1 := Tb 1 _ rfl
  have b2 := Tb 2 _ rfl
  have b3 := Tb 3 _ rfl
  have x0 := Tx 0 _ rfl
  have fx0 := Fx.1 0
  have x1 := Tx 1 _ rfl
  have fx1 := Fx.1 1
  have y0 := Ty 0 _ rfl
  have fy0 := Fy.1 0
  have y1 := Ty 1 _ rfl
  have fy1 := Fy.1 1
  go_wp2_with fail
  all_goals
    go_ret
    refine ⟨?_, BB⟩
    first | rfl | (have h2q := h2.out; exfalso; omega) | (have h2q := h2.out; simp [*]; done)
set_option maxRecDepth 100000 in
set_option maxHeartbeats 1000000 in
theorem cl2_2 (a b : Ofr) (w : World) (a0 : 0 ≤ a.t.r) (a1 : a.t.r ≤ 1000000) (a2 : 1 ≤ a.c) (a3 : a.c ≤ 4096) (b0 : 0 ≤ b.t.r) (b1 : b.t.r ≤ 1000000) (b2 : 1 ≤ b.c) (b3 : b.c ≤ 4096) (h1 : Hid (betterB (thr a) (thr b) = false)) (h2 : Hid (a.t.s = b.t.s ∧ a.t.r + a.c = b.t.r + b.c)) : Calls Try.prog 38 #[a.v, b.v] w (Yes (decide (a.p < b.p)) w) := by
  go_enter Try.func38, Try.ntmps38
  go_wp2_with fail
  have Ta := CAt.new (w) [.int .i64 a.p, .int .i64 a.t.s, .int .i64 a.t.r, .int .i64 a.c] 40
  have BB : Below w.heap.size w ((w).alloc (.cells #[.int .i64 a.p, .int .i64 a.t.s, .int .i64 a.t.r, .int .i64 a.c] 40)) := ball (Below.refl _ _) _
  have Tb := CAt.new (w.alloc (.cells #[.int .i64 a.p, .int .i64 a.t.s, .int .i64 a.t.r, .int .i64 a.c] 40)) [.int .i64 b.p, .int .i64 b.t.s, .int .i64 b.t.r, .int .i64 b.c] 40
  replace Ta := Ta.alloc (.cells #[.int .i64 b.p, .int .i64 b.t.s, .int .i64 b.t.r, .int .i64 b.c] 40)
  replace BB := ball BB (.cells #[.int .i64 b.p, .int .i64 b.t.s, .int .i64 b.t.r, .int .i64 b.c] 40)
  simp only [World.size_alloc, Nat.add_assoc, Nat.reduceAdd] at Tb
  obtain ⟨V1, hV1⟩ : ∃ V1, (w.alloc (.cells #[.int .i64 a.p, .int .i64 a.t.s, .int .i64 a.t.r, .int .i64 a.c] 40)).alloc (.cells #[.int .i64 b.p, .int .i64 b.t.s, .int .i64 b.t.r, .int .i64 b.c] 40) = V1 := ⟨_, rfl⟩
  rw [hV1] at BB Ta Tb ⊢
  clear hV1
  have bs2 : w.heap.size ≤ V1.heap.size := BB.size
  have lt2a : w.heap.size < V1.heap.size := World.block_lt_of_cell? V1 ⟨w.heap.size, 0, none⟩ (Ta 0 _ rfl)
  have lt2b : w.heap.size + 1 < V1.heap.size := World.block_lt_of_cell? V1 ⟨w.heap.size + 1, 0, none⟩ (Tb 0 _ rfl)
  have a0 := Ta 0 _ rfl
  have ka0 := cell_regrown a0
  have a1 := Ta 1 _ rfl
  have ka1 := cell_regrown a1
  have a2 := Ta 2 _ rfl
  have ka2 := cell_regrown a2
  have a3 := Ta 3 _ rfl
  have ka3 := cell_regrown a3
  have b0 := Tb 0 _ rfl
  have kb0 := cell_regrown b0
  have b1 := Tb 1 _ rfl
  have kb1 := cell_regrown b1
  have b2 := Tb 2 _ rfl
  have kb2 := cell_regrown b2
  have b3 := Tb 3 _ rfl
  have kb3 := cell_regrown b3
  refine' wp_region_mixed [0, 1, 2, 3] [4, 5] [6, 7] (by kernel_rfl) (by kernel_rfl) _ (fun Z hZ hN => quiet_hole ?hq1) (fun _ => (.cells #[.int .i64 0, .int .i64 0] 23)) (fun _ p => .pointer (some ⟨p, 0, none⟩)) ?hal1 ?ht1
  case hq1 =>
    intro Q9 hQ9
    show wpQuiet _ _ _ _ [_, _, _, _] _
    repeat (go_big_quiet_step (first
      | (go_at_call 39; exact rgX hZ fun w' h => through_any _ w' (by assumption) (by assumption) (by assumption) (by assumption))))
    exact wpQuiet_nil hQ9
  case hal1 =>
    intro i hi o ho w' hw'
    simp only [List.mem_cons, List.not_mem_nil, or_false] at hi
    rcases hi with rfl | rfl <;> (simp only [List.getElem?_cons_succ, List.getElem?_cons_zero, Option.some.injEq] at ho; subst ho; go_simp)
  rintro π z2 hz2 hπ hπd
  simp only [List.filterMap_cons, List.filterMap_nil, List.getElem?_cons_zero, List.getElem?_cons_succ, putsA, Option.bind_some, Act.put, List.setIfInBounds_toArray, List.set_cons_zero, List.set_cons_succ]
  show wpList _ _ _ [_, _] _ _
  clear a0 ka0 a1 ka1 a2 ka2 a3 ka3 b0 kb0 b1 kb1 b2 kb2 b3 kb3
  replace Ta := Ta.keep hz2
  replace Tb := Tb.keep hz2
  replace BB := bstep BB hz2
  have hpx := hπ 4 (by simp)
  have Tx : CAt z2 (π 4) [.int .i64 0, .int .i64 0] := fun j v hj => cell_blk hpx.1 (by simpa using hj)
  have Fx : Fz z2 (π 4) := ⟨fun j => frz_blk hpx.1, (Array.getElem?_eq_some_iff.1 hpx.1).1⟩
  have hlx := hpx.2
  have hpy := hπ 5 (by simp)
  have Ty : CAt z2 (π 5) [.int .i64 0, .int .i64 0] := fun j v hj => cell_blk hpy.1 (by simpa using hj)
  have Fy : Fz z2 (π 5) := ⟨fun j => frz_blk hpy.1, (Array.getElem?_eq_some_iff.1 hpy.1).1⟩
  have hly := hpy.2
  have neyx : ¬ π 5 = π 4 := fun h => by have := hπd 5 (by simp) 4 (by simp) h; omega
  have nexy : ¬ π 4 = π 5 := fun h => neyx h.symm
  clear hπ hπd hpx hpy
  obtain ⟨px, ex⟩ : ∃ q, π 4 = q := ⟨_, rfl⟩
  rw [ex] at Tx Fx hlx nexy neyx ⊢
  clear ex
  obtain ⟨py, ey⟩ : ∃ q, π 5 = q := ⟨_, rfl⟩
  rw [ey] at Ty Fy hly nexy neyx ⊢
  clear ey
  have x0 := Tx 0 _ rfl
  have fx0 := Fx.1 0
  have x1 := Tx 1 _ rfl
  have fx1 := Fx.1 1
  have y0 := Ty 0 _ rfl
  have fy0 := Fy.1 0
  have y1 := Ty 1 _ rfl
  have fy1 := Fy.1 1
  have a0 := Ta 0 _ rfl
  have a1 := Ta 1 _ rfl
  have a2 := Ta 2 _ rfl
  have a3 := Ta 3 _ rfl
  have b0 := Tb 0 _ rfl
  have b1 := Tb 1 _ rfl
  have b2 := Tb 2 _ rfl
  have b3 := Tb 3 _ rfl
  unfold thr
  go_upto_region 2 with (fail)
  clear x0 fx0 x1 fx1 y0 fy0 y1 fy1 a0 a1 a2 a3 b0 b1 b2 b3
  replace Tx := Tx.set 0 (.int .i64 a.t.s) (by simp)
  replace Ta := Ta.other (k' := px) (by omega) 0 (.int .i64 a.t.s)
  replace Tb := Tb.other (k' := px) (by omega) 0 (.int .i64 a.t.s)
  replace Ty := Ty.other (k' := px) (by omega) 0 (.int .i64 a.t.s)
  replace Fx := Fx.set ⟨px, 0, none⟩ (.int .i64 a.t.s)
  replace Fy := Fy.set ⟨px, 0, none⟩ (.int .i64 a.t.s)
  replace BB := BB.setCell (p := ⟨px, 0, none⟩) (by first | exact Nat.le_refl _ | (simp only; omega)) (.int .i64 a.t.s)
  replace Tx := Tx.set 1 (.int .i64 (a.t.r + a.c)) (by simp)
  replace Ta := Ta.other (k' := px) (by omega) 1 (.int .i64 (a.t.r + a.c))
  replace Tb := Tb.other (k' := px) (by omega) 1 (.int .i64 (a.t.r + a.c))
  replace Ty := Ty.other (k' := px) (by omega) 1 (.int .i64 (a.t.r + a.c))
  replace Fx := Fx.set ⟨px, 1, none⟩ (.int .i64 (a.t.r + a.c))
  replace Fy := Fy.set ⟨px, 1, none⟩ (.int .i64 (a.t.r + a.c))
  replace BB := BB.setCell (p := ⟨px, 1, none⟩) (by first | exact Nat.le_refl _ | (simp only; omega)) (.int .i64 (a.t.r + a.c))
  obtain ⟨V3, hV3⟩ : ∃ V3, (z2.setCell ⟨px, 0, none⟩ (.int .i64 a.t.s)).setCell ⟨px, 1, none⟩ (.int .i64 (a.t.r + a.c)) = V3 := ⟨_, rfl⟩
  rw [hV3] at BB Ta Tb Tx Ty Fx Fy ⊢
  clear hV3
  replace Ty := Ty.set 0 (.int .i64 b.t.s) (by simp)
  replace Ta := Ta.other (k' := py) (by omega) 0 (.int .i64 b.t.s)
  replace Tb := Tb.other (k' := py) (by omega) 0 (.int .i64 b.t.s)
  replace Tx := Tx.other (k' := py) (by omega) 0 (.int .i64 b.t.s)
  replace Fx := Fx.set ⟨py, 0, none⟩ (.int .i64 b.t.s)
  replace Fy := Fy.set ⟨py, 0, none⟩ (.int .i64 b.t.s)
  replace BB := BB.setCell (p := ⟨py, 0, none⟩) (by first | exact Nat.le_refl _ | (simp only; omega)) (.int .i64 b.t.s)
  replace Ty := Ty.set 1 (.int .i64 (b.t.r + b.c)) (by simp)
  replace Ta := Ta.other (k' := py) (by omega) 1 (.int .i64 (b.t.r + b.c))
  replace Tb := Tb.other (k' := py) (by omega) 1 (.int .i64 (b.t.r + b.c))
  replace Tx := Tx.other (k' := py) (by omega) 1 (.int .i64 (b.t.r + b.c))
  replace Fx := Fx.set ⟨py, 1, none⟩ (.int .i64 (b.t.r + b.c))
  replace Fy := Fy.set ⟨py, 1, none⟩ (.int .i64 (b.t.r + b.c))
  replace BB := BB.setCell (p := ⟨py, 1, none⟩) (by first | exact Nat.le_refl _ | (simp only; omega)) (.int .i64 (b.t.r + b.c))
  obtain ⟨V4, hV4⟩ : ∃ V4, (V3.setCell ⟨py, 0, none⟩ (.int .i64 b.t.s)).setCell ⟨py, 1, none⟩ (.int .i64 (b.t.r + b.c)) = V4 := ⟨_, rfl⟩
  rw [hV4] at BB Ta Tb Tx Ty Fx Fy ⊢
  clear hV4
  have a0 := Ta 0 _ rfl
  have a1 := Ta 1 _ rfl
  have a2 := Ta 2 _ rfl
  have a3 := Ta 3 _ rfl
  have b0 := Tb 0 _ rfl
  have b1 := Tb 1 _ rfl
  have b2 := Tb 2 _ rfl
  have b3 := Tb 3 _ rfl
  have x0 := Tx 0 _ rfl
  have fx0 := Fx.1 0
  have x1 := Tx 1 _ rfl
  have fx1 := Fx.1 1
  have y0 := Ty 0 _ rfl
  have fy0 := Fy.1 0
  have y1 := Ty 1 _ rfl
  have fy1 := Fy.1 1
  go_wp2_with fail
  refine (better_at ⟨a.t.s, a.t.r + a.c⟩ ⟨b.t.s, b.t.r + b.c⟩ _ _ h1.out).mono ?_
  clear a0 a1 a2 a3 b0 b1 b2 b3 x0 fx0 x1 fx1 y0 fy0 y1 fy1
  rintro e w5 ⟨rfl, b5⟩
  replace Ta := Ta.keep b5
  replace Tb := Tb.keep b5
  replace Tx := Tx.keep b5
  replace Ty := Ty.keep b5
  replace Fx := Fx.keep b5
  replace Fy := Fy.keep b5
  replace BB := bstep BB b5
  clear b5
  have a0 := Ta 0 _ rfl
  have a1 := Ta 1 _ rfl
  have a2 := Ta 2 _ rfl
  have a3 := Ta 3 _ rfl
  have b0 := Tb 0 _ rfl
  have b1 := Tb 1 _ rfl
  have b2 := Tb 2 _ rfl
  have b3 := Tb 3 _ rfl
  have x0 := Tx 0 _ rfl
  have fx0 := Fx.1 0
  have x1 := Tx 1 _ rfl
  have fx1 := Fx.1 1
  have y0 := Ty 0 _ rfl
  have fy0 := Fy.1 0
  have y1 := Ty 1 _ rfl
  have fy1 := Fy.1 1
  go_wp2_with fail
  all_goals
    go_ret
    refine ⟨?_, BB⟩
    first | rfl | (have h2q := h2.out; exfalso; omega) | (have h2q := h2.out; simp [*]; done)
theorem cl2_at (a b : Ofr) (y : Bool) (w : World) (a0 : 0 ≤ a.t.r) (a1 : a.t.r ≤ 1000000) (a2 : 1 ≤ a.c) (a3 : a.c ≤ 4096) (b0 : 0 ≤ b.t.r) (b1 : b.t.r ≤ 1000000) (b2 : 1 ≤ b.c) (b3 : b.c ≤ 4096) (hy : beforeB a b = y) : Calls Try.prog 38 #[a.v, b.v] w (Yes y w) := by
  have e : decide (thr a = thr b) = (a.t.s == b.t.s && a.t.r + a.c == b.t.r + b.c) := by
    rw [Bool.eq_iff_iff]; simp [thr]
  unfold beforeB at hy
  rw [e] at hy
  cases h1 : betterB (thr a) (thr b)
  · rw [h1] at hy
    cases h2 : (a.t.s == b.t.s && a.t.r + a.c == b.t.r + b.c)
    · rw [h2] at hy; simp only [Bool.false_and, Bool.or_false] at hy; rw [← hy]
      exact cl2_1 a b w a0 a1 a2 a3 b0 b1 b2 b3 (Lib.hid h1) (Lib.hid (by simpa using h2))
    · rw [h2] at hy; simp only [Bool.true_and, Bool.false_or] at hy; rw [← hy]
      exact cl2_2 a b w a0 a1 a2 a3 b0 b1 b2 b3 (Lib.hid h1) (Lib.hid (by simpa using h2))
  · rw [h1] at hy; simp only [Bool.true_or] at hy; rw [← hy]
    exact cl2_0 a b w a0 a1 a2 a3 b0 b1 b2 b3 (Lib.hid h1)
end Go.Proofs.Ytbonchnhngaicaa
