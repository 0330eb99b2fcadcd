/- Proved: that the law KeyringOrder returns true for every input. Conditions: the numbers fit their types. -/
import Derived.Test.YtckcijoadbbdaaaK6
import Derived.Test.YtckcijoadbbdaaaMix
namespace Go.Proofs.Ytckcijoadbbdaaa
open Go.RowKit Go.Sort Go.BigFrame
set_option linter.unusedVariables false
set_option linter.unusedSimpArgs false
attribute [local go_sem] cell_alloc_old

/-- Rings that know the present epoch, and of those after it at most the next one. -/
def Near (q f n : Int) : Prop := 0 ≤ f ∧ f ≤ q ∧ q < n ∧ n ≤ q + 2
theorem near_near {a b : Int} {x : Bool} (a0 : 0 ≤ a) (b0 : 0 ≤ b) : Near (a / 2000) (nearF a b) (nearN a x) := by
  unfold Near nearF nearN
  cases x
  · rw [show (if (false : Bool) = true then a / 2000 + 2 else a / 2000 + 1) = a / 2000 + 1 from rfl]; omega
  · rw [show (if (true : Bool) = true then a / 2000 + 2 else a / 2000 + 1) = a / 2000 + 2 from rfl]; omega
theorem near_knows {q f n : Int} (h : Near q f n) (hq : q ≤ 499998) : knowsR f n q = true := by
  obtain ⟨h1, h2, h3, h4⟩ := h
  have h5 : 0 ≤ f ∧ f ≤ 500000 ∧ f + 1 ≤ n ∧ n ≤ 500002 := by omega
  have h6 : f ≤ q ∧ q < n := by omega
  simp [knowsR, validR, h5, h6]
theorem near_learn {a q f n g m : Int} (a0 : 0 ≤ a) (a1 : a ≤ 999999999) (hq : q = a / 2000) (hq1 : q ≤ 499998) (h : Near q f n) (h' : Near q g m) :
    learnF f n g m a = min f g ∧ learnN f n g m a = max n m := by
  have hs : slotN a = true := by simp [slotN]; omega
  have he : epV a = q := by simp [epV, hs, hq]
  have h5 : m ≤ q + 2 := h'.2.2.2
  have hc : learnC f n g m a = true := by simp [learnC, hs, he, near_knows h hq1, near_knows h' hq1, h5]
  exact ⟨by simp [learnF, hc], by simp [learnN, hc]⟩
theorem near_min {q f n g m : Int} (h : Near q f n) (h' : Near q g m) : Near q (min f g) (max n m) := by
  unfold Near at *; omega

theorem learnc_at (f n g m a x y : Int) (b : Nat) (w : World) (hp : w.cell? ⟨b, 0, none⟩ = some (.int .i64 a)) (h : learnF f n g m a = x ∧ learnN f n g m a = y) :
    Calls Try.prog 23 #[.agg #[.int .i64 f, .int .i64 n], .agg #[.int .i64 g, .int .i64 m], .pointer (some ⟨b, 0, none⟩)] w fun e w' =>
    e = .returned (.agg #[.int .i64 x, .int .i64 y]) ∧ Below w.heap.size w w' := by
  rw [← h.1, ← h.2]; exact learnc_any f n g m a b w hp

theorem near_at (a b : Int) (x : Bool) (f n : Int) (w : World) (a0 : 0 ≤ a) (a1 : a ≤ 999999999) (b0 : 0 ≤ b) (b1 : b ≤ 255) (hf : nearF a b = f) (hn : nearN a x = n) :
    Calls Try.prog 22 #[.int .i64 a, .int .u8 b, .bool x] w fun e w' => e = .returned (.agg #[.int .i64 f, .int .i64 n]) ∧ Below w.heap.size w w' := by
  rw [← hf, ← hn]; exact near_any a b x w a0 a1 b0 b1

set_option maxRecDepth 100000 in
set_option maxHeartbeats 4000000 in
theorem lawOrder (s b0 b1 b2 : Int) (x0 x1 x2 : Bool) (w : World) (h0 : 0 ≤ s) (h1 : s ≤ 4294967295) (p0 : 0 ≤ b0 ∧ b0 ≤ 255) (p1 : 0 ≤ b1 ∧ b1 ≤ 255) (p2 : 0 ≤ b2 ∧ b2 ≤ 255) :
    Calls Try.prog 7 #[.int .u32 s, .agg #[.int .u8 b0, .int .u8 b1, .int .u8 b2], .agg #[.bool x0, .bool x1, .bool x2]] w fun e w' => e = .returned (.bool true) ∧ Below w.heap.size w w' := by
  obtain ⟨a, ha⟩ : ∃ a, s % 999996000 = a := ⟨_, rfl⟩
  have a0 : 0 ≤ a := by omega
  have a1 : a ≤ 999999999 := by omega
  obtain ⟨q, hq⟩ : ∃ q, q = a / 2000 := ⟨_, rfl⟩
  have q1 : q ≤ 499998 := by omega
  have NA := near_near (x := x0) a0 p0.1; have NB := near_near (x := x1) a0 p1.1; have NC := near_near (x := x2) a0 p2.1
  rw [← hq] at NA NB NC
  obtain ⟨fa, hfa⟩ : ∃ v, nearF a b0 = v := ⟨_, rfl⟩
  obtain ⟨fb, hfb⟩ : ∃ v, nearF a b1 = v := ⟨_, rfl⟩
  obtain ⟨fc, hfc⟩ : ∃ v, nearF a b2 = v := ⟨_, rfl⟩
  obtain ⟨na, hna⟩ : ∃ v, nearN a x0 = v := ⟨_, rfl⟩
  obtain ⟨nb, hnb⟩ : ∃ v, nearN a x1 = v := ⟨_, rfl⟩
  obtain ⟨nc, hnc⟩ : ∃ v, nearN a x2 = v := ⟨_, rfl⟩
  rw [hfa, hna] at NA; rw [hfb, hnb] at NB; rw [hfc, hnc] at NC
  have L := fun {f n g m : Int} (h : Near q f n) (h' : Near q g m) => near_learn a0 a1 hq q1 h h'
  have r1 := L NA NB
  have r2 := L NB NA
  rw [Int.min_comm fb fa, Int.max_comm nb na] at r2
  have r3 := L (near_min NA NB) NB
  rw [show min (min fa fb) fb = min fa fb from by omega, show max (max na nb) nb = max na nb from by omega] at r3
  have r4 := L (near_min NA NB) NA
  rw [show min (min fa fb) fa = min fa fb from by omega, show max (max na nb) na = max na nb from by omega] at r4
  have r5 := L (near_min NA NB) NC
  have r6 := L NA NC
  have r7 := L (near_min NA NC) NB
  rw [show min (min fa fc) fb = min (min fa fb) fc from by omega, show max (max na nc) nb = max (max na nb) nc from by omega] at r7
  have r8 := L NA NA
  rw [show min fa fa = fa from by omega, show max na na = na from by omega] at r8
  obtain ⟨fp, hfp⟩ : ∃ v, min fa fb = v := ⟨_, rfl⟩
  obtain ⟨np, hnp⟩ : ∃ v, max na nb = v := ⟨_, rfl⟩
  obtain ⟨fr, hfr⟩ : ∃ v, min fa fc = v := ⟨_, rfl⟩
  obtain ⟨nr, hnr⟩ : ∃ v, max na nc = v := ⟨_, rfl⟩
  rw [hfp, hnp] at r1 r2 r3 r4 r5 r7
  rw [hfr, hnr] at r6 r7
  obtain ⟨ft, hft⟩ : ∃ v, min fp fc = v := ⟨_, rfl⟩
  obtain ⟨nt, hnt⟩ : ∃ v, max np nc = v := ⟨_, rfl⟩
  rw [hft, hnt] at r5 r7
  have HA := Lib.hid ha
  have R1 := Lib.hid r1; have R2 := Lib.hid r2; have R3 := Lib.hid r3; have R4 := Lib.hid r4; have R5 := Lib.hid r5; have R6 := Lib.hid r6; have R7 := Lib.hid r7; have R8 := Lib.hid r8
  have FA := Lib.hid hfa; have FB := Lib.hid hfb; have FC := Lib.hid hfc; have MA := Lib.hid hna; have MB := Lib.hid hnb; have MC := Lib.hid hnc
  clear ha r1 r2 r3 r4 r5 r6 r7 r8 hfa hfb hfc hna hnb hnc hfp hnp hfr hnr hft hnt L NA NB NC hq
  obtain ⟨p0a, p0b⟩ := p0
  obtain ⟨p1a, p1b⟩ := p1
  obtain ⟨p2a, p2b⟩ := p2
  go_enter Try.func7, Try.ntmps7
  go_wp2_with fail
  refine (head_any _).mono ?_
  rintro e w1 ⟨rfl, hb1⟩
  have u0 : w1.cell? ⟨w.heap.size, 0, none⟩ = some (.int .u8 b0) := keep1 hb1 (old1 (by simp) _)
  have u1 : w1.cell? ⟨w.heap.size, 1, none⟩ = some (.int .u8 b1) := keep1 hb1 (old1 (by simp) _)
  have u2 : w1.cell? ⟨w.heap.size, 2, none⟩ = some (.int .u8 b2) := keep1 hb1 (old1 (by simp) _)
  have v0 : w1.cell? ⟨w.heap.size + 1, 0, none⟩ = some (.bool x0) := keep1 hb1 (by simp)
  have v1 : w1.cell? ⟨w.heap.size + 1, 1, none⟩ = some (.bool x1) := keep1 hb1 (by simp)
  have v2 : w1.cell? ⟨w.heap.size + 1, 2, none⟩ = some (.bool x2) := keep1 hb1 (by simp)
  have BB := bstep (ball (ball (Below.refl w.heap.size w) _) _) hb1
  go_wp2_with fail
  refine (slot_at s a _ h0 h1 HA.out).mono ?_
  rintro e w2 ⟨rfl, hb2⟩
  have u0 := keep1 hb2 (u0)
  have u1 := keep1 hb2 (u1)
  have u2 := keep1 hb2 (u2)
  have v0 := keep1 hb2 (v0)
  have v1 := keep1 hb2 (v1)
  have v2 := keep1 hb2 (v2)
  have BB := bstep BB hb2
  go_wp2_with fail
  obtain ⟨W, hW⟩ : ∃ W, W = (w2.alloc (.cells #[.int .i64 a] 3)) := ⟨_, rfl⟩
  replace u0 := (old1 u0 (.cells #[.int .i64 a] 3))
  rw [← hW] at u0
  replace u1 := (old1 u1 (.cells #[.int .i64 a] 3))
  rw [← hW] at u1
  replace u2 := (old1 u2 (.cells #[.int .i64 a] 3))
  rw [← hW] at u2
  replace v0 := (old1 v0 (.cells #[.int .i64 a] 3))
  rw [← hW] at v0
  replace v1 := (old1 v1 (.cells #[.int .i64 a] 3))
  rw [← hW] at v1
  replace v2 := (old1 v2 (.cells #[.int .i64 a] 3))
  rw [← hW] at v2
  have s0 : W.cell? ⟨w2.heap.size, 0, none⟩ = some (.int .i64 a) := by rw [hW]; exact by simp
  have BB := (ball BB (.cells #[.int .i64 a] 3))
  rw [← hW] at BB ⊢
  clear hW
  have zs : w2.heap.size < W.heap.size := World.block_lt_of_cell? _ _ s0
  have hW0 := BB.size
  have ku0 := cell_regrown u0
  have ku1 := cell_regrown u1
  have ku2 := cell_regrown u2
  have kv0 := cell_regrown v0
  have kv1 := cell_regrown v1
  have kv2 := cell_regrown v2
  have ks0 := cell_regrown s0
  refine' wp_region_mixed [0, 1, 2, 3, 4, 5, 6, 7, 8, 9, 10, 11, 12, 13, 14, 15, 16, 17] [18, 19, 20] [21, 22, 23] (by kernel_rfl) (by kernel_rfl) _ (fun Z hZ hN => quiet_hole ?hq1) (fun _ => .cells #[.int .i64 0, .int .i64 0] 23) (fun _ p => .pointer (some ⟨p, 0, none⟩)) ?hal1 ?ht1
  case hq1 =>
    intro Q9 hQ9
    show wpQuiet _ _ _ _ [_, _, _, _, _, _, _, _, _, _, _, _, _, _, _, _, _, _] _
    repeat (go_big_quiet_step (first
      | (go_at_call 22; exact rgX hZ fun w' h => near_at a _ _ _ _ _ a0 a1 (by assumption) (by assumption) (by first | exact FA.out | exact FB.out | exact FC.out) (by first | exact MA.out | exact MB.out | exact MC.out))))
    exact wpQuiet_nil hQ9
  case hal1 =>
    intro i hi o ho w' hw'
    simp only [List.mem_cons, List.not_mem_nil, or_false] at hi
    rcases hi with rfl | rfl | rfl <;> (simp only [List.getElem?_cons_succ, List.getElem?_cons_zero, Option.some.injEq] at ho; subst ho; go_simp)
  rintro π z3 hz3 hπ hπd
  simp only [List.filterMap_cons, List.filterMap_nil, List.getElem?_cons_zero, List.getElem?_cons_succ, putsA, Option.bind_some, Act.put, List.setIfInBounds_toArray, List.set_cons_zero, List.set_cons_succ]
  show wpList _ _ _ [_, _, _] _ _
  have u0 := keep1 hz3 u0
  have u1 := keep1 hz3 u1
  have u2 := keep1 hz3 u2
  have v0 := keep1 hz3 v0
  have v1 := keep1 hz3 v1
  have v2 := keep1 hz3 v2
  have s0 := keep1 hz3 s0
  clear ku0 ku1 ku2 kv0 kv1 kv2 ks0
  have BB := bstep BB hz3
  have hp1 := hπ 18 (by simp); have hp2 := hπ 19 (by simp); have hp3 := hπ 20 (by simp)
  have n12 : ¬ π 18 = π 19 := fun h => by have := hπd 18 (by simp) 19 (by simp) h; omega
  have n13 : ¬ π 18 = π 20 := fun h => by have := hπd 18 (by simp) 20 (by simp) h; omega
  have n23 : ¬ π 19 = π 20 := fun h => by have := hπd 19 (by simp) 20 (by simp) h; omega
  clear hπ hπd
  generalize π 18 = e1 at *
  generalize π 19 = e2 at *
  generalize π 20 = e3 at *
  have n21 : ¬ e2 = e1 := fun h => n12 h.symm
  have n31 : ¬ e3 = e1 := fun h => n13 h.symm
  have n32 : ¬ e3 = e2 := fun h => n23 h.symm
  have c10 : z3.cell? ⟨e1, 0, none⟩ = some (.int .i64 0) := cell_blk hp1.1 rfl
  have d10 : z3.frozen? ⟨e1, 0, none⟩ = false := frz_blk hp1.1
  have c11 : z3.cell? ⟨e1, 1, none⟩ = some (.int .i64 0) := cell_blk hp1.1 rfl
  have d11 : z3.frozen? ⟨e1, 1, none⟩ = false := frz_blk hp1.1
  have c20 : z3.cell? ⟨e2, 0, none⟩ = some (.int .i64 0) := cell_blk hp2.1 rfl
  have d20 : z3.frozen? ⟨e2, 0, none⟩ = false := frz_blk hp2.1
  have c21 : z3.cell? ⟨e2, 1, none⟩ = some (.int .i64 0) := cell_blk hp2.1 rfl
  have d21 : z3.frozen? ⟨e2, 1, none⟩ = false := frz_blk hp2.1
  have c30 : z3.cell? ⟨e3, 0, none⟩ = some (.int .i64 0) := cell_blk hp3.1 rfl
  have d30 : z3.frozen? ⟨e3, 0, none⟩ = false := frz_blk hp3.1
  have c31 : z3.cell? ⟨e3, 1, none⟩ = some (.int .i64 0) := cell_blk hp3.1 rfl
  have d31 : z3.frozen? ⟨e3, 1, none⟩ = false := frz_blk hp3.1
  have wsz := BB.size
  have q1 := hp1.2
  have q2 := hp2.2
  have q3 := hp3.2
  have m1 : ¬ e1 = w2.heap.size := by omega
  have o1 : ¬ w2.heap.size = e1 := by omega
  have m2 : ¬ e2 = w2.heap.size := by omega
  have o2 : ¬ w2.heap.size = e2 := by omega
  have m3 : ¬ e3 = w2.heap.size := by omega
  have o3 : ¬ w2.heap.size = e3 := by omega
  have hw0 : w.heap.size ≤ W.heap.size := hW0
  go_wp2_with fail
  obtain ⟨V, hV⟩ : ∃ V, V = ((((((z3).setCell ⟨e1, 0, none⟩ (.int .i64 fa)).setCell ⟨e1, 1, none⟩ (.int .i64 na)).setCell ⟨e2, 0, none⟩ (.int .i64 fb)).setCell ⟨e2, 1, none⟩ (.int .i64 nb)).setCell ⟨e3, 0, none⟩ (.int .i64 fc)).setCell ⟨e3, 1, none⟩ (.int .i64 nc) := ⟨_, rfl⟩
  have BV : Below w.heap.size w V := by
    rw [hV]
    exact (((((BB.setCell (by simp; omega) _).setCell (by simp; omega) _).setCell (by simp; omega) _).setCell (by simp; omega) _).setCell (by simp; omega) _).setCell (by simp; omega) _
  have S0 : V.cell? ⟨w2.heap.size, 0, none⟩ = some (.int .i64 a) := by rw [hV]; go_simp
  have C10 : V.cell? ⟨e1, 0, none⟩ = some (.int .i64 fa) := by rw [hV]; go_simp
  have C11 : V.cell? ⟨e1, 1, none⟩ = some (.int .i64 na) := by rw [hV]; go_simp
  have C20 : V.cell? ⟨e2, 0, none⟩ = some (.int .i64 fb) := by rw [hV]; go_simp
  have C21 : V.cell? ⟨e2, 1, none⟩ = some (.int .i64 nb) := by rw [hV]; go_simp
  have C30 : V.cell? ⟨e3, 0, none⟩ = some (.int .i64 fc) := by rw [hV]; go_simp
  have C31 : V.cell? ⟨e3, 1, none⟩ = some (.int .i64 nc) := by rw [hV]; go_simp
  rw [← hV]; clear hV BB c10 c11 c20 c21 c30 c31 d10 d11 d20 d21 d30 d31 s0
  have BB := BV; clear BV
  refine (learnc_at fa na fb nb a fp np w2.heap.size _ S0 R1.out).mono ?_
  rintro e w4 ⟨rfl, hb4⟩
  have S0 := keep1 hb4 (S0)
  have C10 := keep1 hb4 (C10)
  have C11 := keep1 hb4 (C11)
  have C20 := keep1 hb4 (C20)
  have C21 := keep1 hb4 (C21)
  have C30 := keep1 hb4 (C30)
  have C31 := keep1 hb4 (C31)
  have BB := bstep BB hb4
  go_wp2_with fail
  obtain ⟨U, hU⟩ : ∃ U, U = (w4.alloc (.cells #[.int .i64 fp, .int .i64 np] 23)) := ⟨_, rfl⟩
  replace S0 := (old1 S0 (.cells #[.int .i64 fp, .int .i64 np] 23))
  rw [← hU] at S0
  replace C10 := (old1 C10 (.cells #[.int .i64 fp, .int .i64 np] 23))
  rw [← hU] at C10
  replace C11 := (old1 C11 (.cells #[.int .i64 fp, .int .i64 np] 23))
  rw [← hU] at C11
  replace C20 := (old1 C20 (.cells #[.int .i64 fp, .int .i64 np] 23))
  rw [← hU] at C20
  replace C21 := (old1 C21 (.cells #[.int .i64 fp, .int .i64 np] 23))
  rw [← hU] at C21
  replace C30 := (old1 C30 (.cells #[.int .i64 fp, .int .i64 np] 23))
  rw [← hU] at C30
  replace C31 := (old1 C31 (.cells #[.int .i64 fp, .int .i64 np] 23))
  rw [← hU] at C31
  have p0 : U.cell? ⟨w4.heap.size, 0, none⟩ = some (.int .i64 fp) := by rw [hU]; exact by simp
  have p1 : U.cell? ⟨w4.heap.size, 1, none⟩ = some (.int .i64 np) := by rw [hU]; exact by simp
  have BB := (ball BB (.cells #[.int .i64 fp, .int .i64 np] 23))
  rw [← hU] at BB ⊢
  clear hU
  have kS0 := cell_regrown S0
  have kC10 := cell_regrown C10
  have kC11 := cell_regrown C11
  have kC20 := cell_regrown C20
  have kC21 := cell_regrown C21
  have kC30 := cell_regrown C30
  have kC31 := cell_regrown C31
  have kp0 := cell_regrown p0
  have kp1 := cell_regrown p1
  refine wp_region_quiet_below (by kernel_rfl) (by kernel_rfl) ?_
  repeat (go_big_quiet_step (first
    | (go_at_call 23; exact rg_of fun w' h => learnc_at _ _ _ _ a _ _ w2.heap.size _ (keep1 h S0) (by first | exact R2.out | exact R3.out | exact R4.out | exact R5.out | exact R6.out | exact R7.out | exact R8.out))))
  refine wpQuiet_nil ?_
  intro _ hw'
  obtain ⟨⟨dq, osq⟩, hw''⟩ := hw'
  subst hw''
  have B9 := bstep BB (below_regrown U dq osq)
  go_wp2
  go_ret
  exact ⟨rfl, B9⟩
end Go.Proofs.Ytckcijoadbbdaaa
