/- Proved: a stranger that asks a sponsor. Conditions: those that each theorem names. -/
import Derived.Test.YtgmabjlehjpboaaDoorT24
namespace Go.Proofs.YtgmabjlehjpboaaDoor
open Go.RowKit Go.Sort Go.BigFrame Go.Proofs.YtgmabjlehjpboaaDoor.K
set_option linter.unusedVariables false
set_option linter.unusedSimpArgs false
attribute [local go_sem] cell_alloc_old

open Go.Maps Go.Shelf
set_option maxRecDepth 100000 in
set_option maxHeartbeats 4000000 in
theorem ask8_no (k o : Nat) (id t boot me fr : Int) (a : Option Addr) (n cap : Nat) (w : World) (SG : Sg w k o id ⟨0, -1, 0, 0, t⟩) (h : askB t id boot me fr = false) :
    Calls Tryd.prog 8 #[.pointer (some ⟨k, o, none⟩), .slice a n cap, .int .i64 boot, .int .i64 me, .int .i64 fr] w (Ans (.tuple #[.slice a n cap, .bool false]) w) := by
  obtain ⟨err, he, hc⟩ := ask_no t id boot me fr h
  have HC := Lib.hid hc; clear hc h
  have heb : (err != 0) = true := by simpa using he
  go_enter Tryd.func8, Tryd.ntmps8
  go_upto_region 1 with (fail)
  have BB : Below w.heap.size w w := Below.refl _ _
  obtain ⟨g0, g1, g2, g3, g4, g5⟩ := SG
  simp only at g0 g1 g2 g3 g4 g5
  have bs1 : w.heap.size ≤ w.heap.size := BB.size
  have kg0 := cell_regrown g0
  have kg1 := cell_regrown g1
  have kg2 := cell_regrown g2
  have kg3 := cell_regrown g3
  have kg4 := cell_regrown g4
  have kg5 := cell_regrown g5
  refine' wp_region_late' [0, 1, 2, 3, 4, 5, 6, 7, 8, 9, 10, 11, 12, 13, 14, 15] [16, 17] [18, 19, 20] [14, 15] (by kernel_rfl) (by kernel_rfl) _
    (fun w' => True) (fun lx => if lx = 14 then zWd.v else if lx = 15 then .int .i64 err else undef)
    (fun Z hZ hN => quiet_hole ?hq1) (fun i => if i = 16 then (.cells #[.int .i64 0, .int .i64 0, .int .i64 0, .int .i64 0, .int .i64 0] 28) else (.cells #[.int .i64 0, .int .i64 0, .int .i64 0, .int .i64 0, .int .i64 0, .int .i64 0, .int .i64 0, .int .i64 0] 43)) (fun _ p => .pointer (some ⟨p, 0, none⟩)) ?ha1 ?hl1 ?ht1
  case hq1 =>
    intro Q9 hQ9
    show wpQuiet _ _ _ _ [_, _, _, _, _, _, _, _, _, _, _, _, _, _, _, _] _
    repeat (go_big_quiet_step (first
      | (go_at_call 22; exact rgX hZ fun w' h => HC.out w')))
    exact wpQuiet_nil hQ9
  case ha1 =>
    intro i hi o ho w' hw'
    simp only [List.mem_cons, List.not_mem_nil, or_false] at hi
    rcases hi with rfl | rfl <;> (simp only [List.getElem?_cons_succ, List.getElem?_cons_zero, Option.some.injEq] at ho; subst ho; go_simp)
  case hl1 =>
    intro j hj o ho
    simp only [List.mem_cons, List.not_mem_nil, or_false] at hj
    rcases hj with rfl | rfl
    all_goals (
      simp only [List.getElem?_cons_succ, List.getElem?_cons_zero, Option.some.injEq] at ho
      subst ho
      refine ⟨fun w' hw' => by go_simp, fun t ht => ?_⟩
      simp only [Option.some.injEq] at ht
      subst ht
      rfl)
  intro π z1 hz1 hπ hπd
  simp only [List.filterMap_cons, List.filterMap_nil, List.getElem?_cons_zero, List.getElem?_cons_succ, putsA, Option.bind_some, Act.put, List.setIfInBounds_toArray, List.set_cons_zero, List.set_cons_succ]
  refine ⟨trivial, ?_⟩
  show wpListS _ _ _ _ [_, _, _] _ _
  clear g0 kg0 g1 kg1 g2 kg2 g3 kg3 g4 kg4 g5 kg5
  replace BB := bstep BB hz1
  have hpn := hπ 16 (by simp)
  have Tn : CAt z1 (π 16) [.int .i64 0, .int .i64 0, .int .i64 0, .int .i64 0, .int .i64 0] := fun j v hj => cell_blk hpn.1 (by simpa using hj)
  have Fn : Fz z1 (π 16) := ⟨fun j => frz_blk hpn.1, (Array.getElem?_eq_some_iff.1 hpn.1).1⟩
  have hln := hpn.2
  have hpm := hπ 17 (by simp)
  have Tm : CAt z1 (π 17) [.int .i64 0, .int .i64 0, .int .i64 0, .int .i64 0, .int .i64 0, .int .i64 0, .int .i64 0, .int .i64 0] := fun j v hj => cell_blk hpm.1 (by simpa using hj)
  have Fm : Fz z1 (π 17) := ⟨fun j => frz_blk hpm.1, (Array.getElem?_eq_some_iff.1 hpm.1).1⟩
  have hlm := hpm.2
  have nenm : ¬ π 16 = π 17 := fun h => by have := hπd 16 (by simp) 17 (by simp) h; omega
  have nemn : ¬ π 17 = π 16 := fun h => nenm h.symm
  clear hπ hπd hpn hpm hz1
  obtain ⟨pn, en⟩ : ∃ q, π 16 = q := ⟨_, rfl⟩
  rw [en] at Tn Fn hln nenm nemn ⊢
  clear en
  obtain ⟨pm, em⟩ : ∃ q, π 17 = q := ⟨_, rfl⟩
  rw [em] at Tm Fm hlm nenm nemn ⊢
  clear em
  have n0 := Tn 0 _ rfl
  have fn0 := Fn.1 0
  have n1 := Tn 1 _ rfl
  have fn1 := Fn.1 1
  have n2 := Tn 2 _ rfl
  have fn2 := Fn.1 2
  have n3 := Tn 3 _ rfl
  have fn3 := Fn.1 3
  have n4 := Tn 4 _ rfl
  have fn4 := Fn.1 4
  refine listS_step rfl fun K9 hK9 => ?_
  go_simp
  refine hK9 _ _ trivial ?_
  clear hK9 K9
  clear n0 fn0 n1 fn1 n2 fn2 n3 fn3 n4 fn4
  replace Tn := Tn.set 0 (.int .i64 0) (by simp)
  replace Tm := Tm.other (k' := pn) (by omega) 0 (.int .i64 0)
  replace Fn := Fn.set ⟨pn, 0, none⟩ (.int .i64 0)
  replace Fm := Fm.set ⟨pn, 0, none⟩ (.int .i64 0)
  replace BB := BB.setCell (p := ⟨pn, 0, none⟩) (by first | exact Nat.le_refl _ | (simp only; omega)) (.int .i64 0)
  replace Tn := Tn.set 1 (.int .i64 0) (by simp)
  replace Tm := Tm.other (k' := pn) (by omega) 1 (.int .i64 0)
  replace Fn := Fn.set ⟨pn, 1, none⟩ (.int .i64 0)
  replace Fm := Fm.set ⟨pn, 1, none⟩ (.int .i64 0)
  replace BB := BB.setCell (p := ⟨pn, 1, none⟩) (by first | exact Nat.le_refl _ | (simp only; omega)) (.int .i64 0)
  replace Tn := Tn.set 2 (.int .i64 0) (by simp)
  replace Tm := Tm.other (k' := pn) (by omega) 2 (.int .i64 0)
  replace Fn := Fn.set ⟨pn, 2, none⟩ (.int .i64 0)
  replace Fm := Fm.set ⟨pn, 2, none⟩ (.int .i64 0)
  replace BB := BB.setCell (p := ⟨pn, 2, none⟩) (by first | exact Nat.le_refl _ | (simp only; omega)) (.int .i64 0)
  replace Tn := Tn.set 3 (.int .i64 0) (by simp)
  replace Tm := Tm.other (k' := pn) (by omega) 3 (.int .i64 0)
  replace Fn := Fn.set ⟨pn, 3, none⟩ (.int .i64 0)
  replace Fm := Fm.set ⟨pn, 3, none⟩ (.int .i64 0)
  replace BB := BB.setCell (p := ⟨pn, 3, none⟩) (by first | exact Nat.le_refl _ | (simp only; omega)) (.int .i64 0)
  replace Tn := Tn.set 4 (.int .i64 0) (by simp)
  replace Tm := Tm.other (k' := pn) (by omega) 4 (.int .i64 0)
  replace Fn := Fn.set ⟨pn, 4, none⟩ (.int .i64 0)
  replace Fm := Fm.set ⟨pn, 4, none⟩ (.int .i64 0)
  replace BB := BB.setCell (p := ⟨pn, 4, none⟩) (by first | exact Nat.le_refl _ | (simp only; omega)) (.int .i64 0)
  obtain ⟨V2, hV2⟩ : ∃ V2, ((((z1.setCell ⟨pn, 0, none⟩ (.int .i64 0)).setCell ⟨pn, 1, none⟩ (.int .i64 0)).setCell ⟨pn, 2, none⟩ (.int .i64 0)).setCell ⟨pn, 3, none⟩ (.int .i64 0)).setCell ⟨pn, 4, none⟩ (.int .i64 0) = V2 := ⟨_, rfl⟩
  rw [hV2] at BB Tn Tm Fn Fm ⊢
  clear hV2
  have m0 := Tm 0 _ rfl
  have fm0 := Fm.1 0
  have m1 := Tm 1 _ rfl
  have fm1 := Fm.1 1
  have m2 := Tm 2 _ rfl
  have fm2 := Fm.1 2
  have m3 := Tm 3 _ rfl
  have fm3 := Fm.1 3
  have m4 := Tm 4 _ rfl
  have fm4 := Fm.1 4
  have m5 := Tm 5 _ rfl
  have fm5 := Fm.1 5
  have m6 := Tm 6 _ rfl
  have fm6 := Fm.1 6
  have m7 := Tm 7 _ rfl
  have fm7 := Fm.1 7
  refine listS_step rfl fun K9 hK9 => ?_
  go_simp
  refine hK9 _ _ trivial ?_
  clear hK9 K9
  clear m0 fm0 m1 fm1 m2 fm2 m3 fm3 m4 fm4 m5 fm5 m6 fm6 m7 fm7
  replace Tm := Tm.set 0 (.int .i64 0) (by simp)
  replace Tn := Tn.other (k' := pm) (by omega) 0 (.int .i64 0)
  replace Fn := Fn.set ⟨pm, 0, none⟩ (.int .i64 0)
  replace Fm := Fm.set ⟨pm, 0, none⟩ (.int .i64 0)
  replace BB := BB.setCell (p := ⟨pm, 0, none⟩) (by first | exact Nat.le_refl _ | (simp only; omega)) (.int .i64 0)
  replace Tm := Tm.set 1 (.int .i64 0) (by simp)
  replace Tn := Tn.other (k' := pm) (by omega) 1 (.int .i64 0)
  replace Fn := Fn.set ⟨pm, 1, none⟩ (.int .i64 0)
  replace Fm := Fm.set ⟨pm, 1, none⟩ (.int .i64 0)
  replace BB := BB.setCell (p := ⟨pm, 1, none⟩) (by first | exact Nat.le_refl _ | (simp only; omega)) (.int .i64 0)
  replace Tm := Tm.set 2 (.int .i64 0) (by simp)
  replace Tn := Tn.other (k' := pm) (by omega) 2 (.int .i64 0)
  replace Fn := Fn.set ⟨pm, 2, none⟩ (.int .i64 0)
  replace Fm := Fm.set ⟨pm, 2, none⟩ (.int .i64 0)
  replace BB := BB.setCell (p := ⟨pm, 2, none⟩) (by first | exact Nat.le_refl _ | (simp only; omega)) (.int .i64 0)
  replace Tm := Tm.set 3 (.int .i64 0) (by simp)
  replace Tn := Tn.other (k' := pm) (by omega) 3 (.int .i64 0)
  replace Fn := Fn.set ⟨pm, 3, none⟩ (.int .i64 0)
  replace Fm := Fm.set ⟨pm, 3, none⟩ (.int .i64 0)
  replace BB := BB.setCell (p := ⟨pm, 3, none⟩) (by first | exact Nat.le_refl _ | (simp only; omega)) (.int .i64 0)
  replace Tm := Tm.set 4 (.int .i64 0) (by simp)
  replace Tn := Tn.other (k' := pm) (by omega) 4 (.int .i64 0)
  replace Fn := Fn.set ⟨pm, 4, none⟩ (.int .i64 0)
  replace Fm := Fm.set ⟨pm, 4, none⟩ (.int .i64 0)
  replace BB := BB.setCell (p := ⟨pm, 4, none⟩) (by first | exact Nat.le_refl _ | (simp only; omega)) (.int .i64 0)
  replace Tm := Tm.set 5 (.int .i64 0) (by simp)
  replace Tn := Tn.other (k' := pm) (by omega) 5 (.int .i64 0)
  replace Fn := Fn.set ⟨pm, 5, none⟩ (.int .i64 0)
  replace Fm := Fm.set ⟨pm, 5, none⟩ (.int .i64 0)
  replace BB := BB.setCell (p := ⟨pm, 5, none⟩) (by first | exact Nat.le_refl _ | (simp only; omega)) (.int .i64 0)
  replace Tm := Tm.set 6 (.int .i64 0) (by simp)
  replace Tn := Tn.other (k' := pm) (by omega) 6 (.int .i64 0)
  replace Fn := Fn.set ⟨pm, 6, none⟩ (.int .i64 0)
  replace Fm := Fm.set ⟨pm, 6, none⟩ (.int .i64 0)
  replace BB := BB.setCell (p := ⟨pm, 6, none⟩) (by first | exact Nat.le_refl _ | (simp only; omega)) (.int .i64 0)
  replace Tm := Tm.set 7 (.int .i64 0) (by simp)
  replace Tn := Tn.other (k' := pm) (by omega) 7 (.int .i64 0)
  replace Fn := Fn.set ⟨pm, 7, none⟩ (.int .i64 0)
  replace Fm := Fm.set ⟨pm, 7, none⟩ (.int .i64 0)
  replace BB := BB.setCell (p := ⟨pm, 7, none⟩) (by first | exact Nat.le_refl _ | (simp only; omega)) (.int .i64 0)
  obtain ⟨V3, hV3⟩ : ∃ V3, (((((((V2.setCell ⟨pm, 0, none⟩ (.int .i64 0)).setCell ⟨pm, 1, none⟩ (.int .i64 0)).setCell ⟨pm, 2, none⟩ (.int .i64 0)).setCell ⟨pm, 3, none⟩ (.int .i64 0)).setCell ⟨pm, 4, none⟩ (.int .i64 0)).setCell ⟨pm, 5, none⟩ (.int .i64 0)).setCell ⟨pm, 6, none⟩ (.int .i64 0)).setCell ⟨pm, 7, none⟩ (.int .i64 0) = V3 := ⟨_, rfl⟩
  rw [hV3] at BB Tn Tm Fn Fm ⊢
  clear hV3
  refine listS_step rfl fun K9 hK9 => ?_
  go_simp
  refine hK9 _ _ trivial ?_
  clear hK9 K9
  unfold wpListS noPanic
  go_wp2_with fail
  go_ret2
  exact ⟨rfl, BB⟩
set_option maxRecDepth 100000 in
set_option maxHeartbeats 4000000 in
theorem ask8_yes (k o : Nat) (id t boot me fr : Int) (l : List Hf) (a : Option Addr) (n cap : Nat) (w : World) (SG : Sg w k o id ⟨0, -1, 0, 0, t⟩) (FG : Fz w k) (h : askB t id boot me fr = true)
    (ok : OkL l) (hq : Hid (n = l.length)) (hl : HsAt w a l) (hfr : inB fr 999999988 = true) (hTab : Tab w) (hn : findL l id = none) (h4 : l.length < 4) :
    Calls Tryd.prog 8 #[.pointer (some ⟨k, o, none⟩), .slice a n cap, .int .i64 boot, .int .i64 me, .int .i64 fr] w fun e w' => ∃ L ch a' m' c', e = .returned (.tuple #[.slice a' m' c', .bool true]) ∧ L = putL l ⟨id, 256 * boot + (t + 1), ch, fr + 12, false, 0⟩ ∧ OkL L ∧ Hid (m' = L.length) ∧ HsAt w' a' L ∧ Fresh w.heap.size a' ∧
      Sg w' k o id ⟨1, me, 256 * boot + (t + 1), fr, t + 1⟩ ∧ Tch k o w w' := by
  have hkw : k < w.heap.size := SG.lt
  have HC := Lib.hid h
  have HF := Lib.hid (ask_formed h); clear h
  have OK := Lib.hid ok; clear ok
  have HFR := Lib.hid hfr; clear hfr
  have HN := Lib.hid hn; clear hn
  have H4 := Lib.hid h4; clear h4
  go_enter Tryd.func8, Tryd.ntmps8
  go_upto_region 1 with (fail)
  have BB : Below w.heap.size w w := Below.refl _ _
  have SG2 := SG
  obtain ⟨g0, g1, g2, g3, g4, g5⟩ := SG
  simp only at g0 g1 g2 g3 g4 g5
  have bs1 : w.heap.size ≤ w.heap.size := BB.size
  have kg0 := cell_regrown g0
  have kg1 := cell_regrown g1
  have kg2 := cell_regrown g2
  have kg3 := cell_regrown g3
  have kg4 := cell_regrown g4
  have kg5 := cell_regrown g5
  refine' wp_region_late' [0, 1, 2, 3, 4, 5, 6, 7, 8, 9, 10, 11, 12, 13, 14, 15] [16, 17] [18, 19, 20] [14, 15] (by kernel_rfl) (by kernel_rfl) _
    (fun w' => True) (fun lx => if lx = 14 then (⟨1, id, me, 256 * boot + (t + 1), 0, 0, 0, 0⟩ : Wd).v else if lx = 15 then .int .i64 0 else undef)
    (fun Z hZ hN => quiet_hole ?hq1) (fun i => if i = 16 then (.cells #[.int .i64 0, .int .i64 0, .int .i64 0, .int .i64 0, .int .i64 0] 28) else (.cells #[.int .i64 0, .int .i64 0, .int .i64 0, .int .i64 0, .int .i64 0, .int .i64 0, .int .i64 0, .int .i64 0] 43)) (fun _ p => .pointer (some ⟨p, 0, none⟩)) ?ha1 ?hl1 ?ht1
  case hq1 =>
    intro Q9 hQ9
    show wpQuiet _ _ _ _ [_, _, _, _, _, _, _, _, _, _, _, _, _, _, _, _] _
    repeat (go_big_quiet_step (first
      | (go_at_call 22; exact rgX hZ fun w' h => ask_yes t id boot me fr w' HC.out)))
    exact wpQuiet_nil hQ9
  case ha1 =>
    intro i hi o ho w' hw'
    simp only [List.mem_cons, List.not_mem_nil, or_false] at hi
    rcases hi with rfl | rfl <;> (simp only [List.getElem?_cons_succ, List.getElem?_cons_zero, Option.some.injEq] at ho; subst ho; go_simp)
  case hl1 =>
    intro j hj o ho
    simp only [List.mem_cons, List.not_mem_nil, or_false] at hj
    rcases hj with rfl | rfl
    all_goals (
      simp only [List.getElem?_cons_succ, List.getElem?_cons_zero, Option.some.injEq] at ho
      subst ho
      refine ⟨fun w' hw' => by go_simp, fun t ht => ?_⟩
      simp only [Option.some.injEq] at ht
      subst ht
      rfl)
  intro π z1 hz1 hπ hπd
  simp only [List.filterMap_cons, List.filterMap_nil, List.getElem?_cons_zero, List.getElem?_cons_succ, putsA, Option.bind_some, Act.put, List.setIfInBounds_toArray, List.set_cons_zero, List.set_cons_succ]
  refine ⟨trivial, ?_⟩
  show wpListS _ _ _ _ [_, _, _] _ _
  clear g0 kg0 g1 kg1 g2 kg2 g3 kg3 g4 kg4 g5 kg5
  replace BB := bstep BB hz1
  have hpn := hπ 16 (by simp)
  have Tn : CAt z1 (π 16) [.int .i64 0, .int .i64 0, .int .i64 0, .int .i64 0, .int .i64 0] := fun j v hj => cell_blk hpn.1 (by simpa using hj)
  have Fn : Fz z1 (π 16) := ⟨fun j => frz_blk hpn.1, (Array.getElem?_eq_some_iff.1 hpn.1).1⟩
  have hln := hpn.2
  have hpm := hπ 17 (by simp)
  have Tm : CAt z1 (π 17) [.int .i64 0, .int .i64 0, .int .i64 0, .int .i64 0, .int .i64 0, .int .i64 0, .int .i64 0, .int .i64 0] := fun j v hj => cell_blk hpm.1 (by simpa using hj)
  have Fm : Fz z1 (π 17) := ⟨fun j => frz_blk hpm.1, (Array.getElem?_eq_some_iff.1 hpm.1).1⟩
  have hlm := hpm.2
  have nenm : ¬ π 16 = π 17 := fun h => by have := hπd 16 (by simp) 17 (by simp) h; omega
  have nemn : ¬ π 17 = π 16 := fun h => nenm h.symm
  clear hπ hπd hpn hpm hz1
  obtain ⟨pn, en⟩ : ∃ q, π 16 = q := ⟨_, rfl⟩
  rw [en] at Tn Fn hln nenm nemn ⊢
  clear en
  obtain ⟨pm, em⟩ : ∃ q, π 17 = q := ⟨_, rfl⟩
  rw [em] at Tm Fm hlm nenm nemn ⊢
  clear em
  have n0 := Tn 0 _ rfl
  have fn0 := Fn.1 0
  have n1 := Tn 1 _ rfl
  have fn1 := Fn.1 1
  have n2 := Tn 2 _ rfl
  have fn2 := Fn.1 2
  have n3 := Tn 3 _ rfl
  have fn3 := Fn.1 3
  have n4 := Tn 4 _ rfl
  have fn4 := Fn.1 4
  refine listS_step rfl fun K9 hK9 => ?_
  go_simp
  refine hK9 _ _ trivial ?_
  clear hK9 K9
  clear n0 fn0 n1 fn1 n2 fn2 n3 fn3 n4 fn4
  replace Tn := Tn.set 0 (.int .i64 1) (by simp)
  replace Tm := Tm.other (k' := pn) (by omega) 0 (.int .i64 1)
  replace Fn := Fn.set ⟨pn, 0, none⟩ (.int .i64 1)
  replace Fm := Fm.set ⟨pn, 0, none⟩ (.int .i64 1)
  replace BB := BB.setCell (p := ⟨pn, 0, none⟩) (by first | exact Nat.le_refl _ | (simp only; omega)) (.int .i64 1)
  replace Tn := Tn.set 1 (.int .i64 me) (by simp)
  replace Tm := Tm.other (k' := pn) (by omega) 1 (.int .i64 me)
  replace Fn := Fn.set ⟨pn, 1, none⟩ (.int .i64 me)
  replace Fm := Fm.set ⟨pn, 1, none⟩ (.int .i64 me)
  replace BB := BB.setCell (p := ⟨pn, 1, none⟩) (by first | exact Nat.le_refl _ | (simp only; omega)) (.int .i64 me)
  replace Tn := Tn.set 2 (.int .i64 (256 * boot + (t + 1))) (by simp)
  replace Tm := Tm.other (k' := pn) (by omega) 2 (.int .i64 (256 * boot + (t + 1)))
  replace Fn := Fn.set ⟨pn, 2, none⟩ (.int .i64 (256 * boot + (t + 1)))
  replace Fm := Fm.set ⟨pn, 2, none⟩ (.int .i64 (256 * boot + (t + 1)))
  replace BB := BB.setCell (p := ⟨pn, 2, none⟩) (by first | exact Nat.le_refl _ | (simp only; omega)) (.int .i64 (256 * boot + (t + 1)))
  replace Tn := Tn.set 3 (.int .i64 fr) (by simp)
  replace Tm := Tm.other (k' := pn) (by omega) 3 (.int .i64 fr)
  replace Fn := Fn.set ⟨pn, 3, none⟩ (.int .i64 fr)
  replace Fm := Fm.set ⟨pn, 3, none⟩ (.int .i64 fr)
  replace BB := BB.setCell (p := ⟨pn, 3, none⟩) (by first | exact Nat.le_refl _ | (simp only; omega)) (.int .i64 fr)
  replace Tn := Tn.set 4 (.int .i64 (t + 1)) (by simp)
  replace Tm := Tm.other (k' := pn) (by omega) 4 (.int .i64 (t + 1))
  replace Fn := Fn.set ⟨pn, 4, none⟩ (.int .i64 (t + 1))
  replace Fm := Fm.set ⟨pn, 4, none⟩ (.int .i64 (t + 1))
  replace BB := BB.setCell (p := ⟨pn, 4, none⟩) (by first | exact Nat.le_refl _ | (simp only; omega)) (.int .i64 (t + 1))
  obtain ⟨V2, hV2⟩ : ∃ V2, ((((z1.setCell ⟨pn, 0, none⟩ (.int .i64 1)).setCell ⟨pn, 1, none⟩ (.int .i64 me)).setCell ⟨pn, 2, none⟩ (.int .i64 (256 * boot + (t + 1)))).setCell ⟨pn, 3, none⟩ (.int .i64 fr)).setCell ⟨pn, 4, none⟩ (.int .i64 (t + 1)) = V2 := ⟨_, rfl⟩
  rw [hV2] at BB Tn Tm Fn Fm ⊢
  clear hV2
  have m0 := Tm 0 _ rfl
  have fm0 := Fm.1 0
  have m1 := Tm 1 _ rfl
  have fm1 := Fm.1 1
  have m2 := Tm 2 _ rfl
  have fm2 := Fm.1 2
  have m3 := Tm 3 _ rfl
  have fm3 := Fm.1 3
  have m4 := Tm 4 _ rfl
  have fm4 := Fm.1 4
  have m5 := Tm 5 _ rfl
  have fm5 := Fm.1 5
  have m6 := Tm 6 _ rfl
  have fm6 := Fm.1 6
  have m7 := Tm 7 _ rfl
  have fm7 := Fm.1 7
  refine listS_step rfl fun K9 hK9 => ?_
  go_simp
  refine hK9 _ _ trivial ?_
  clear hK9 K9
  clear m0 fm0 m1 fm1 m2 fm2 m3 fm3 m4 fm4 m5 fm5 m6 fm6 m7 fm7
  replace Tm := Tm.set 0 (.int .i64 1) (by simp)
  replace Tn := Tn.other (k' := pm) (by omega) 0 (.int .i64 1)
  replace Fn := Fn.set ⟨pm, 0, none⟩ (.int .i64 1)
  replace Fm := Fm.set ⟨pm, 0, none⟩ (.int .i64 1)
  replace BB := BB.setCell (p := ⟨pm, 0, none⟩) (by first | exact Nat.le_refl _ | (simp only; omega)) (.int .i64 1)
  replace Tm := Tm.set 1 (.int .i64 id) (by simp)
  replace Tn := Tn.other (k' := pm) (by omega) 1 (.int .i64 id)
  replace Fn := Fn.set ⟨pm, 1, none⟩ (.int .i64 id)
  replace Fm := Fm.set ⟨pm, 1, none⟩ (.int .i64 id)
  replace BB := BB.setCell (p := ⟨pm, 1, none⟩) (by first | exact Nat.le_refl _ | (simp only; omega)) (.int .i64 id)
  replace Tm := Tm.set 2 (.int .i64 me) (by simp)
  replace Tn := Tn.other (k' := pm) (by omega) 2 (.int .i64 me)
  replace Fn := Fn.set ⟨pm, 2, none⟩ (.int .i64 me)
  replace Fm := Fm.set ⟨pm, 2, none⟩ (.int .i64 me)
  replace BB := BB.setCell (p := ⟨pm, 2, none⟩) (by first | exact Nat.le_refl _ | (simp only; omega)) (.int .i64 me)
  replace Tm := Tm.set 3 (.int .i64 (256 * boot + (t + 1))) (by simp)
  replace Tn := Tn.other (k' := pm) (by omega) 3 (.int .i64 (256 * boot + (t + 1)))
  replace Fn := Fn.set ⟨pm, 3, none⟩ (.int .i64 (256 * boot + (t + 1)))
  replace Fm := Fm.set ⟨pm, 3, none⟩ (.int .i64 (256 * boot + (t + 1)))
  replace BB := BB.setCell (p := ⟨pm, 3, none⟩) (by first | exact Nat.le_refl _ | (simp only; omega)) (.int .i64 (256 * boot + (t + 1)))
  replace Tm := Tm.set 4 (.int .i64 0) (by simp)
  replace Tn := Tn.other (k' := pm) (by omega) 4 (.int .i64 0)
  replace Fn := Fn.set ⟨pm, 4, none⟩ (.int .i64 0)
  replace Fm := Fm.set ⟨pm, 4, none⟩ (.int .i64 0)
  replace BB := BB.setCell (p := ⟨pm, 4, none⟩) (by first | exact Nat.le_refl _ | (simp only; omega)) (.int .i64 0)
  replace Tm := Tm.set 5 (.int .i64 0) (by simp)
  replace Tn := Tn.other (k' := pm) (by omega) 5 (.int .i64 0)
  replace Fn := Fn.set ⟨pm, 5, none⟩ (.int .i64 0)
  replace Fm := Fm.set ⟨pm, 5, none⟩ (.int .i64 0)
  replace BB := BB.setCell (p := ⟨pm, 5, none⟩) (by first | exact Nat.le_refl _ | (simp only; omega)) (.int .i64 0)
  replace Tm := Tm.set 6 (.int .i64 0) (by simp)
  replace Tn := Tn.other (k' := pm) (by omega) 6 (.int .i64 0)
  replace Fn := Fn.set ⟨pm, 6, none⟩ (.int .i64 0)
  replace Fm := Fm.set ⟨pm, 6, none⟩ (.int .i64 0)
  replace BB := BB.setCell (p := ⟨pm, 6, none⟩) (by first | exact Nat.le_refl _ | (simp only; omega)) (.int .i64 0)
  replace Tm := Tm.set 7 (.int .i64 0) (by simp)
  replace Tn := Tn.other (k' := pm) (by omega) 7 (.int .i64 0)
  replace Fn := Fn.set ⟨pm, 7, none⟩ (.int .i64 0)
  replace Fm := Fm.set ⟨pm, 7, none⟩ (.int .i64 0)
  replace BB := BB.setCell (p := ⟨pm, 7, none⟩) (by first | exact Nat.le_refl _ | (simp only; omega)) (.int .i64 0)
  obtain ⟨V3, hV3⟩ : ∃ V3, (((((((V2.setCell ⟨pm, 0, none⟩ (.int .i64 1)).setCell ⟨pm, 1, none⟩ (.int .i64 id)).setCell ⟨pm, 2, none⟩ (.int .i64 me)).setCell ⟨pm, 3, none⟩ (.int .i64 (256 * boot + (t + 1)))).setCell ⟨pm, 4, none⟩ (.int .i64 0)).setCell ⟨pm, 5, none⟩ (.int .i64 0)).setCell ⟨pm, 6, none⟩ (.int .i64 0)).setCell ⟨pm, 7, none⟩ (.int .i64 0) = V3 := ⟨_, rfl⟩
  rw [hV3] at BB Tn Tm Fn Fm ⊢
  clear hV3
  refine listS_step rfl fun K9 hK9 => ?_
  go_simp
  refine hK9 _ _ trivial ?_
  clear hK9 K9
  unfold wpListS noPanic
  have m0 := Tm 0 _ rfl
  have fm0 := Fm.1 0
  have m1 := Tm 1 _ rfl
  have fm1 := Fm.1 1
  have m2 := Tm 2 _ rfl
  have fm2 := Fm.1 2
  have m3 := Tm 3 _ rfl
  have fm3 := Fm.1 3
  have m4 := Tm 4 _ rfl
  have fm4 := Fm.1 4
  have m5 := Tm 5 _ rfl
  have fm5 := Fm.1 5
  have m6 := Tm 6 _ rfl
  have fm6 := Fm.1 6
  have m7 := Tm 7 _ rfl
  have fm7 := Fm.1 7
  go_wp2_with fail
  clear m0 fm0 m1 fm1 m2 fm2 m3 fm3 m4 fm4 m5 fm5 m6 fm6 m7 fm7
  refine (hear_ask l n a cap me fr V3 id (256 * boot + (t + 1)) 0 0 0 0 OK.out hq (hl.keep BB) HFR.out (hTab.keep BB) HF.out rfl HN.out H4.out).mono ?_
  rintro e w8 ⟨L, a8, m8, c8, ⟨hok8, ch, hL⟩, rfl, hm8, hl8, b8, f8⟩
  have f9 := f8.le BB.size
  replace Tn := Tn.keep b8
  replace BB := bstep BB b8
  clear b8 f8 Tm Fm Fn
  obtain ⟨g0, g1, g2, g3, g4, g5⟩ := SG2.keep BB
  simp only at g0 g1 g2 g3 g4 g5
  have FK := FG.keep BB
  have e1 := FK.1 (o + 1); have e2 := FK.1 (o + 2); have e3 := FK.1 (o + 3); have e4 := FK.1 (o + 4); have e5 := FK.1 (o + 5)
  have n0 := Tn 0 _ rfl
  have n1 := Tn 1 _ rfl
  have n2 := Tn 2 _ rfl
  have n3 := Tn 3 _ rfl
  have n4 := Tn 4 _ rfl
  go_upto_region 8 with (fail)
  clear n0 n1 n2 n3 n4
  have hl9 := hl8.tch (Tch.put w8 k o ⟨1, me, 256 * boot + (t + 1), fr, t + 1⟩) (f9.apart hkw)
  clear g0 g1 g2 g3 g4 g5 e1 e2 e3 e4 e5
  have SG9 := Sg.put (SG2.keep BB) ⟨1, me, 256 * boot + (t + 1), fr, t + 1⟩
  have TT9 := Tch.trans (Tch.of BB hkw) (Tch.put w8 k o ⟨1, me, 256 * boot + (t + 1), fr, t + 1⟩)
  obtain ⟨V9, hV9⟩ : ∃ V9, ((((w8.setCell ⟨k, o + 1, none⟩ (.int .i64 (1))).setCell ⟨k, o + 1 + 1, none⟩ (.int .i64 (me))).setCell ⟨k, o + 1 + 2, none⟩ (.int .i64 (256 * boot + (t + 1)))).setCell ⟨k, o + 1 + 3, none⟩ (.int .i64 (fr))).setCell ⟨k, o + 1 + 4, none⟩ (.int .i64 (t + 1)) = V9 := ⟨_, rfl⟩
  rw [show putJ w8 k o ⟨1, me, 256 * boot + (t + 1), fr, t + 1⟩ = V9 from hV9] at SG9 TT9 hl9
  rw [hV9]
  clear hV9
  go_wp2_with fail
  go_ret2
  exact ⟨L, ch, a8, m8, c8, rfl, hL, hok8, hm8, hl9, f9, SG9, TT9⟩
end Go.Proofs.YtgmabjlehjpboaaDoor
