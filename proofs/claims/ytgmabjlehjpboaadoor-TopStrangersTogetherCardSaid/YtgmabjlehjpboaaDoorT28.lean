/- Proved: a stranger that hears the welcomes. Conditions: those that each theorem names. -/
import Derived.Test.YtgmabjlehjpboaaDoorT27
namespace Go.Proofs.YtgmabjlehjpboaaDoor
open Go.RowKit Go.Sort Go.BigFrame Go.Proofs.YtgmabjlehjpboaaDoor.K
set_option linter.unusedVariables false
set_option linter.unusedSimpArgs false
attribute [local go_sem] cell_alloc_old

open Go.Maps Go.Shelf
theorem Tch.new {k o b j : Nat} {w V : World} (h : Tch k o w V) (hk : k < w.heap.size) (hb : w.heap.size ≤ b) (v : Value) : Tch k o w (V.setCell ⟨b, j, none⟩ v) :=
  ⟨⟨h.g.os, h.g.tape, h.g.output, by simpa using h.g.size, fun i hi hne => (Below.heap_setCell _ _ _ _ (fun e => by simp at e; omega)).trans (h.g.block i hi hne)⟩,
   fun x hx => (World.cell?_setCell_other _ _ _ _ (fun e => by have := congrArg Addr.block e; simp at this; omega)).trans (h.c x hx), fun x => (World.frozen?_setCell _ _ _ _).trans (h.f x)⟩
theorem Tch.drew {k o : Nat} {w V : World} (h : Tch k o w V) : Tch k o w V.drew := ⟨⟨h.g.os, h.g.tape, h.g.output, h.g.size, h.g.block⟩, h.c, h.f⟩
theorem Sg.other {w : World} {k o b : Nat} {id : Int} {j : Jn} (h : Sg w k o id j) (hb : b ≠ k) (x : Nat) (v : Value) : Sg (w.setCell ⟨b, x, none⟩ v) k o id j := by
  have e : ∀ y : Nat, (w.setCell ⟨b, x, none⟩ v).cell? ⟨k, y, none⟩ = w.cell? ⟨k, y, none⟩ := fun y => World.cell?_setCell_other _ _ _ _ (fun e => hb (congrArg Addr.block e))
  obtain ⟨h0, h1, h2, h3, h4, h5⟩ := h
  exact ⟨(e _).trans h0, (e _).trans h1, (e _).trans h2, (e _).trans h3, (e _).trans h4, (e _).trans h5⟩
theorem Sg.drew {w : World} {k o : Nat} {id : Int} {j : Jn} (h : Sg w k o id j) : Sg w.drew k o id j := h
/-- What hearing leaves. -/
def HearRPost (k o : Nat) (id : Int) (j3 : Jn) (ra rb : Int) (w : World) (e : Ending) (w' : World) : Prop := e = .returned (.agg #[.int .i64 ra, .int .i64 rb]) ∧ Sg w' k o id j3 ∧ Tch k o w w' 
set_option maxRecDepth 100000 in
set_option maxHeartbeats 4000000 in
theorem hear10_at (k o : Nat) (id me nn si tr fr ra rb : Int) (W : List Wd) (m1 c1 p : Nat) (a1 : Option Addr) (w : World) (SG : Sg w k o id ⟨2, me, nn, si, tr⟩) (FG : Fz w k) (hap1 : Apart a1 k)
    (j2 : Jn.ok ⟨2, me, nn, si, tr⟩) (j3 : Jn.ok ⟨3, me, nn, si, tr⟩) (ht : triesB tr = true) (hid : nodeB id = true) (q0 : ¬ fr < 0) (q1 : ¬ 1000000000 < fr)
    (hm1 : Hid (m1 = W.length)) (hm4 : m1 ≤ 60) (hw1 : WsAt w a1 W) (hp : p < m1) (hpx : W.getD p default = ⟨4, id, me, nn, 0, 1000000 + id, ra, rb⟩) (hpo : ∀ i, i < W.length → i ≠ p → (W.getD i default).s ≠ id) (hfm : ∀ i, i < W.length → formedB (W.getD i default) = true) :
    Calls Tryd.prog 10 #[.pointer (some ⟨k, o, none⟩), .slice a1 m1 c1, .int .i64 fr] w (HearRPost k o id ⟨3, me, nn, si, tr⟩ ra rb w) := by
  have hkw : k < w.heap.size := SG.lt
  have HPX := Lib.hid hpx; clear hpx
  have HPO := Lib.hid hpo; clear hpo
  have HFM := Lib.hid hfm; clear hfm
  have J2 := Lib.hid j2; have J3 := Lib.hid j3; have HT := Lib.hid ht; have HID := Lib.hid hid; have Q0 := Lib.hid q0; have Q1 := Lib.hid q1
  have FG0 : Hid (∀ x, w.frozen? ⟨k, x, none⟩ = false) := Lib.hid FG.1
  clear j2 j3 ht hid q0 q1
  go_enter Tryd.func10, Tryd.ntmps10
  go_upto_region 2 with (fail)
  have Tr := CAt.new (w) [.int .i64 0, .int .i64 0] 35
  have Fr := Fz.new (w) #[.int .i64 0, .int .i64 0] 35
  have BB : Below w.heap.size w ((w).alloc (.cells #[.int .i64 0, .int .i64 0] 35)) := ball (Below.refl _ _) _
  have Tg := CAt.new (w.alloc (.cells #[.int .i64 0, .int .i64 0] 35)) [.int .i64 0, .int .i64 0] 35
  have Fg := Fz.new (w.alloc (.cells #[.int .i64 0, .int .i64 0] 35)) #[.int .i64 0, .int .i64 0] 35
  replace Tr := Tr.alloc (.cells #[.int .i64 0, .int .i64 0] 35)
  replace Fr := Fr.alloc (.cells #[.int .i64 0, .int .i64 0] 35)
  replace BB := ball BB (.cells #[.int .i64 0, .int .i64 0] 35)
  simp only [World.size_alloc, Nat.add_assoc, Nat.reduceAdd] at Tg Fg
  obtain ⟨V1, hV1⟩ : ∃ V1, (w.alloc (.cells #[.int .i64 0, .int .i64 0] 35)).alloc (.cells #[.int .i64 0, .int .i64 0] 35) = V1 := ⟨_, rfl⟩
  rw [hV1] at BB Tr Tg Fr Fg ⊢
  clear hV1
  have hw0 := hw1
  replace hw1 := hw1.keep BB; replace SG := SG.keep BB; replace FG := FG.keep BB
  have T0 : Tch k o w V1 := Tch.of BB hkw
  go_upto_region 3 with (fail)
  have HK0 := Lib.hid hkw
  have hb1 : w.heap.size ≤ w.heap.size := by omega
  have hb2 : w.heap.size ≤ (w.heap.size + 1) := by omega
  have hbn : (w.heap.size + 1) ≠ w.heap.size := by omega
  go_loopw [15] (fun iv wr => ∃ i : Nat, i ≤ m1 ∧ iv = .int .i64 i ∧ Tch k o w wr ∧ WsAt wr a1 W ∧ CAt wr w.heap.size [.int .i64 0, .int .i64 0] ∧ Fz wr w.heap.size ∧ Fz wr (w.heap.size + 1) ∧ ((i ≤ p ∧ Sg wr k o id ⟨2, me, nn, si, tr⟩ ∧ CAt wr (w.heap.size + 1) [.int .i64 0, .int .i64 0]) ∨ (p < i ∧ Sg wr k o id ⟨3, me, nn, si, tr⟩ ∧ CAt wr (w.heap.size + 1) [.int .i64 ra, .int .i64 rb]))) (fun iv _ => m1 - (intOf iv).toNat)
  case atStart => exact ⟨0, Nat.zero_le _, rfl, T0, hw1, Tr, Fr, Fg, .inl ⟨Nat.zero_le _, SG, Tg⟩⟩
  case round =>
    clear SG Tr Fr Fg Tg hw1 BB T0
    obtain ⟨i, hi, rfl, TT, hw1, Tr, Fr, Fg, hrel⟩ := hrel
    have FK : Fz wr k := ⟨fun x => (TT.f x).trans (FG0.out x), Nat.lt_of_lt_of_le hkw TT.size⟩
    by_cases hlt : i < m1
    · have hlt' : (i : Int) < (m1 : Int) := by omega
      have hk0 : (0 : Int) ≤ (i : Int) := by omega
      have hwk : IntKind.i64.wrap ((i : Int) + 1) = (i : Int) + 1 := IntWalk.i64_in _ (by omega)
      obtain ⟨b, off, e1, c0, c1', c2, c3, c4, c5, c6, c7⟩ := At.wd hw1 (Below.refl _ wr) (i := i) (by rw [← hm1.out]; exact hlt)
      have hfo := HFM.out i (by rw [← hm1.out]; exact hlt)
      have hot := fun h => HPO.out i (by rw [← hm1.out]; exact hlt) h
      have hpx := fun (h : i = p) => (show W.getD i default = ⟨4, id, me, nn, 0, 1000000 + id, ra, rb⟩ from by rw [h]; exact HPX.out)
      obtain ⟨x, hx⟩ : ∃ x, W.getD i default = x := ⟨_, rfl⟩
      rw [hx] at c0 c1' c2 c3 c4 c5 c6 c7 hfo hot hpx
      have HFO := Lib.hid hfo; clear hfo
      clear hx
      subst e1
      rcases hrel with ⟨hip, SGr, Tg⟩ | ⟨hpi, SGr, Tg⟩
      · by_cases hie : i = p
        rotate_left
        · have hxs := hot hie
          have HNO : Hid (¬ (x.s = id ∧ x.p = me ∧ x.n = nn)) := Lib.hid (fun h => hxs h.1)
          clear hxs hot hpx
          have BB : Below wr.heap.size wr wr := Below.refl _ _
          go_upto_region 5 with (fail)
          clear c0 c1' c2 c3 c4 c5 c6 c7
          have S2 := SGr
          have lt1r : w.heap.size < wr.heap.size := World.block_lt_of_cell? wr ⟨w.heap.size, 0, none⟩ (Tr 0 _ rfl)
          have lt1g : (w.heap.size + 1) < wr.heap.size := World.block_lt_of_cell? wr ⟨(w.heap.size + 1), 0, none⟩ (Tg 0 _ rfl)
          have Tx := CAt.new (wr) [.int .i64 x.k, .int .i64 x.s, .int .i64 x.p, .int .i64 x.n, .int .i64 x.c, .int .i64 x.key, .int .i64 x.f, .int .i64 x.x] 43
          replace Tr := Tr.alloc (.cells #[.int .i64 x.k, .int .i64 x.s, .int .i64 x.p, .int .i64 x.n, .int .i64 x.c, .int .i64 x.key, .int .i64 x.f, .int .i64 x.x] 43)
          replace Tg := Tg.alloc (.cells #[.int .i64 x.k, .int .i64 x.s, .int .i64 x.p, .int .i64 x.n, .int .i64 x.c, .int .i64 x.key, .int .i64 x.f, .int .i64 x.x] 43)
          replace Fr := Fr.alloc (.cells #[.int .i64 x.k, .int .i64 x.s, .int .i64 x.p, .int .i64 x.n, .int .i64 x.c, .int .i64 x.key, .int .i64 x.f, .int .i64 x.x] 43)
          replace Fg := Fg.alloc (.cells #[.int .i64 x.k, .int .i64 x.s, .int .i64 x.p, .int .i64 x.n, .int .i64 x.c, .int .i64 x.key, .int .i64 x.f, .int .i64 x.x] 43)
          replace S2 := S2.keep (Below.alloc (Below.refl _ (wr)) (Nat.le_refl _) (.cells #[.int .i64 x.k, .int .i64 x.s, .int .i64 x.p, .int .i64 x.n, .int .i64 x.c, .int .i64 x.key, .int .i64 x.f, .int .i64 x.x] 43))
          replace BB := ball BB (.cells #[.int .i64 x.k, .int .i64 x.s, .int .i64 x.p, .int .i64 x.n, .int .i64 x.c, .int .i64 x.key, .int .i64 x.f, .int .i64 x.x] 43)
          obtain ⟨V1, hV1⟩ : ∃ V1, wr.alloc (.cells #[.int .i64 x.k, .int .i64 x.s, .int .i64 x.p, .int .i64 x.n, .int .i64 x.c, .int .i64 x.key, .int .i64 x.f, .int .i64 x.x] 43) = V1 := ⟨_, rfl⟩
          rw [hV1] at BB Tr Tg Tx Fr Fg S2 ⊢
          clear hV1
          obtain ⟨q0, q1, q2, q3, q4, q5⟩ := S2
          simp only at q0 q1 q2 q3 q4 q5
          have bs2 : wr.heap.size ≤ V1.heap.size := BB.size
          have lt2r : w.heap.size < V1.heap.size := World.block_lt_of_cell? V1 ⟨w.heap.size, 0, none⟩ (Tr 0 _ rfl)
          have lt2g : (w.heap.size + 1) < V1.heap.size := World.block_lt_of_cell? V1 ⟨(w.heap.size + 1), 0, none⟩ (Tg 0 _ rfl)
          have lt2x : wr.heap.size < V1.heap.size := World.block_lt_of_cell? V1 ⟨wr.heap.size, 0, none⟩ (Tx 0 _ rfl)
          have r0 := Tr 0 _ rfl
          have kr0 := cell_regrown r0
          have r1 := Tr 1 _ rfl
          have kr1 := cell_regrown r1
          have g0 := Tg 0 _ rfl
          have kg0 := cell_regrown g0
          have g1 := Tg 1 _ rfl
          have kg1 := cell_regrown g1
          have x0 := Tx 0 _ rfl
          have kx0 := cell_regrown x0
          have x1 := Tx 1 _ rfl
          have kx1 := cell_regrown x1
          have x2 := Tx 2 _ rfl
          have kx2 := cell_regrown x2
          have x3 := Tx 3 _ rfl
          have kx3 := cell_regrown x3
          have x4 := Tx 4 _ rfl
          have kx4 := cell_regrown x4
          have x5 := Tx 5 _ rfl
          have kx5 := cell_regrown x5
          have x6 := Tx 6 _ rfl
          have kx6 := cell_regrown x6
          have x7 := Tx 7 _ rfl
          have kx7 := cell_regrown x7
          have kq0 := cell_regrown q0
          have kq1 := cell_regrown q1
          have kq2 := cell_regrown q2
          have kq3 := cell_regrown q3
          have kq4 := cell_regrown q4
          have kq5 := cell_regrown q5
          refine' wp_region_late' [0, 1, 2, 3, 4, 5, 6, 7, 8, 9, 10, 11, 12, 13, 14] [15, 16] [17, 18, 19] [13, 14] (by kernel_rfl) (by kernel_rfl) _
            (fun w' => True) (fun lx => if lx = 13 then zWd.v else if lx = 14 then .bool false else undef)
            (fun Z hZ hN => quiet_hole ?hq1) (fun i => if i = 15 then (.cells #[.int .i64 0, .int .i64 0, .int .i64 0, .int .i64 0, .int .i64 0] 28) else (.cells #[.int .i64 0, .int .i64 0, .int .i64 0, .int .i64 0, .int .i64 0, .int .i64 0, .int .i64 0, .int .i64 0] 43)) (fun _ p => .pointer (some ⟨p, 0, none⟩)) ?ha1 ?hl1 ?ht1
          case hq1 =>
            intro Q9 hQ9
            show wpQuiet _ _ _ _ [_, _, _, _, _, _, _, _, _, _, _, _, _, _, _] _
            repeat (go_big_quiet_step (first
              | (go_at_call 23; exact rgX hZ fun w' h => jhear_no 2 me nn si tr id x.k x.s x.p x.n x.c x.key x.f x.x fr w' J2.out HT.out HID.out HFO.out (by have := Q0.out; omega) (by have := Q1.out; omega) HNO.out)))
            exact wpQuiet_nil hQ9
          case ha1 =>
            intro i hi o ho w' hw'
            simp only [List.mem_cons, List.not_mem_nil, or_false] at hi
            rcases hi with rfl | rfl <;> (simp only [List.getElem?_cons_succ, List.getElem?_cons_zero, Option.some.injEq] at ho; subst ho; go_simp)
          case hl1 =>
            intro j hj o ho
            simp only [List.mem_cons, List.not_mem_nil, or_false] at hj
            rcases hj with rfl | rfl
            all_goals (
              simp only [List.getElem?_cons_succ, List.getElem?_cons_zero, Option.some.injEq] at ho
              subst ho
              refine ⟨fun w' hw' => by go_simp, fun t ht => ?_⟩
              simp only [Option.some.injEq] at ht
              subst ht
              rfl)
          intro π z2 hz2 hπ hπd
          simp only [List.filterMap_cons, List.filterMap_nil, List.getElem?_cons_zero, List.getElem?_cons_succ, putsA, Option.bind_some, Act.put, List.setIfInBounds_toArray, List.set_cons_zero, List.set_cons_succ]
          refine ⟨trivial, ?_⟩
          show wpListS _ _ _ _ [_, _, _] _ _
          clear r0 kr0 r1 kr1 g0 kg0 g1 kg1 x0 kx0 x1 kx1 x2 kx2 x3 kx3 x4 kx4 x5 kx5 x6 kx6 x7 kx7 q0 kq0 q1 kq1 q2 kq2 q3 kq3 q4 kq4 q5 kq5
          replace Tr := Tr.keep hz2
          replace Tg := Tg.keep hz2
          replace Tx := Tx.keep hz2
          replace Fr := Fr.keep hz2
          replace Fg := Fg.keep hz2
          replace BB := bstep BB hz2
          have hpn := hπ 15 (by simp)
          have Tn : CAt z2 (π 15) [.int .i64 0, .int .i64 0, .int .i64 0, .int .i64 0, .int .i64 0] := fun j v hj => cell_blk hpn.1 (by simpa using hj)
          have Fn : Fz z2 (π 15) := ⟨fun j => frz_blk hpn.1, (Array.getElem?_eq_some_iff.1 hpn.1).1⟩
          have hln := hpn.2
          have hpm := hπ 16 (by simp)
          have Tm : CAt z2 (π 16) [.int .i64 0, .int .i64 0, .int .i64 0, .int .i64 0, .int .i64 0, .int .i64 0, .int .i64 0, .int .i64 0] := fun j v hj => cell_blk hpm.1 (by simpa using hj)
          have Fm : Fz z2 (π 16) := ⟨fun j => frz_blk hpm.1, (Array.getElem?_eq_some_iff.1 hpm.1).1⟩
          have hlm := hpm.2
          have nenm : ¬ π 15 = π 16 := fun h => by have := hπd 15 (by simp) 16 (by simp) h; omega
          have nemn : ¬ π 16 = π 15 := fun h => nenm h.symm
          clear hπ hπd hpn hpm hz2
          obtain ⟨pn, en⟩ : ∃ q, π 15 = q := ⟨_, rfl⟩
          rw [en] at Tn Fn hln nenm nemn ⊢
          clear en
          obtain ⟨pm, em⟩ : ∃ q, π 16 = q := ⟨_, rfl⟩
          rw [em] at Tm Fm hlm nenm nemn ⊢
          clear em
          have n0 := Tn 0 _ rfl
          have fn0 := Fn.1 0
          have n1 := Tn 1 _ rfl
          have fn1 := Fn.1 1
          have n2 := Tn 2 _ rfl
          have fn2 := Fn.1 2
          have n3 := Tn 3 _ rfl
          have fn3 := Fn.1 3
          have n4 := Tn 4 _ rfl
          have fn4 := Fn.1 4
          refine listS_step rfl fun K9 hK9 => ?_
          go_simp
          refine hK9 _ _ trivial ?_
          clear hK9 K9
          clear n0 fn0 n1 fn1 n2 fn2 n3 fn3 n4 fn4
          replace Tn := Tn.set 0 (.int .i64 2) (by simp)
          replace Tr := Tr.other (k' := pn) (by omega) 0 (.int .i64 2)
          replace Tg := Tg.other (k' := pn) (by omega) 0 (.int .i64 2)
          replace Tx := Tx.other (k' := pn) (by omega) 0 (.int .i64 2)
          replace Tm := Tm.other (k' := pn) (by omega) 0 (.int .i64 2)
          replace Fr := Fr.set ⟨pn, 0, none⟩ (.int .i64 2)
          replace Fg := Fg.set ⟨pn, 0, none⟩ (.int .i64 2)
          replace Fn := Fn.set ⟨pn, 0, none⟩ (.int .i64 2)
          replace Fm := Fm.set ⟨pn, 0, none⟩ (.int .i64 2)
          replace BB := BB.setCell (p := ⟨pn, 0, none⟩) (by first | exact Nat.le_refl _ | (simp only; omega)) (.int .i64 2)
          replace Tn := Tn.set 1 (.int .i64 me) (by simp)
          replace Tr := Tr.other (k' := pn) (by omega) 1 (.int .i64 me)
          replace Tg := Tg.other (k' := pn) (by omega) 1 (.int .i64 me)
          replace Tx := Tx.other (k' := pn) (by omega) 1 (.int .i64 me)
          replace Tm := Tm.other (k' := pn) (by omega) 1 (.int .i64 me)
          replace Fr := Fr.set ⟨pn, 1, none⟩ (.int .i64 me)
          replace Fg := Fg.set ⟨pn, 1, none⟩ (.int .i64 me)
          replace Fn := Fn.set ⟨pn, 1, none⟩ (.int .i64 me)
          replace Fm := Fm.set ⟨pn, 1, none⟩ (.int .i64 me)
          replace BB := BB.setCell (p := ⟨pn, 1, none⟩) (by first | exact Nat.le_refl _ | (simp only; omega)) (.int .i64 me)
          replace Tn := Tn.set 2 (.int .i64 nn) (by simp)
          replace Tr := Tr.other (k' := pn) (by omega) 2 (.int .i64 nn)
          replace Tg := Tg.other (k' := pn) (by omega) 2 (.int .i64 nn)
          replace Tx := Tx.other (k' := pn) (by omega) 2 (.int .i64 nn)
          replace Tm := Tm.other (k' := pn) (by omega) 2 (.int .i64 nn)
          replace Fr := Fr.set ⟨pn, 2, none⟩ (.int .i64 nn)
          replace Fg := Fg.set ⟨pn, 2, none⟩ (.int .i64 nn)
          replace Fn := Fn.set ⟨pn, 2, none⟩ (.int .i64 nn)
          replace Fm := Fm.set ⟨pn, 2, none⟩ (.int .i64 nn)
          replace BB := BB.setCell (p := ⟨pn, 2, none⟩) (by first | exact Nat.le_refl _ | (simp only; omega)) (.int .i64 nn)
          replace Tn := Tn.set 3 (.int .i64 si) (by simp)
          replace Tr := Tr.other (k' := pn) (by omega) 3 (.int .i64 si)
          replace Tg := Tg.other (k' := pn) (by omega) 3 (.int .i64 si)
          replace Tx := Tx.other (k' := pn) (by omega) 3 (.int .i64 si)
          replace Tm := Tm.other (k' := pn) (by omega) 3 (.int .i64 si)
          replace Fr := Fr.set ⟨pn, 3, none⟩ (.int .i64 si)
          replace Fg := Fg.set ⟨pn, 3, none⟩ (.int .i64 si)
          replace Fn := Fn.set ⟨pn, 3, none⟩ (.int .i64 si)
          replace Fm := Fm.set ⟨pn, 3, none⟩ (.int .i64 si)
          replace BB := BB.setCell (p := ⟨pn, 3, none⟩) (by first | exact Nat.le_refl _ | (simp only; omega)) (.int .i64 si)
          replace Tn := Tn.set 4 (.int .i64 tr) (by simp)
          replace Tr := Tr.other (k' := pn) (by omega) 4 (.int .i64 tr)
          replace Tg := Tg.other (k' := pn) (by omega) 4 (.int .i64 tr)
          replace Tx := Tx.other (k' := pn) (by omega) 4 (.int .i64 tr)
          replace Tm := Tm.other (k' := pn) (by omega) 4 (.int .i64 tr)
          replace Fr := Fr.set ⟨pn, 4, none⟩ (.int .i64 tr)
          replace Fg := Fg.set ⟨pn, 4, none⟩ (.int .i64 tr)
          replace Fn := Fn.set ⟨pn, 4, none⟩ (.int .i64 tr)
          replace Fm := Fm.set ⟨pn, 4, none⟩ (.int .i64 tr)
          replace BB := BB.setCell (p := ⟨pn, 4, none⟩) (by first | exact Nat.le_refl _ | (simp only; omega)) (.int .i64 tr)
          obtain ⟨V3, hV3⟩ : ∃ V3, ((((z2.setCell ⟨pn, 0, none⟩ (.int .i64 2)).setCell ⟨pn, 1, none⟩ (.int .i64 me)).setCell ⟨pn, 2, none⟩ (.int .i64 nn)).setCell ⟨pn, 3, none⟩ (.int .i64 si)).setCell ⟨pn, 4, none⟩ (.int .i64 tr) = V3 := ⟨_, rfl⟩
          rw [hV3] at BB Tr Tg Tx Tn Tm Fr Fg Fn Fm ⊢
          clear hV3
          have m0 := Tm 0 _ rfl
          have fm0 := Fm.1 0
          have m1 := Tm 1 _ rfl
          have fm1 := Fm.1 1
          have m2 := Tm 2 _ rfl
          have fm2 := Fm.1 2
          have m3 := Tm 3 _ rfl
          have fm3 := Fm.1 3
          have m4 := Tm 4 _ rfl
          have fm4 := Fm.1 4
          have m5 := Tm 5 _ rfl
          have fm5 := Fm.1 5
          have m6 := Tm 6 _ rfl
          have fm6 := Fm.1 6
          have m7 := Tm 7 _ rfl
          have fm7 := Fm.1 7
          refine listS_step rfl fun K9 hK9 => ?_
          go_simp
          refine hK9 _ _ trivial ?_
          clear hK9 K9
          clear m0 fm0 m1 fm1 m2 fm2 m3 fm3 m4 fm4 m5 fm5 m6 fm6 m7 fm7
          replace Tm := Tm.set 0 (.int .i64 0) (by simp)
          replace Tr := Tr.other (k' := pm) (by omega) 0 (.int .i64 0)
          replace Tg := Tg.other (k' := pm) (by omega) 0 (.int .i64 0)
          replace Tx := Tx.other (k' := pm) (by omega) 0 (.int .i64 0)
          replace Tn := Tn.other (k' := pm) (by omega) 0 (.int .i64 0)
          replace Fr := Fr.set ⟨pm, 0, none⟩ (.int .i64 0)
          replace Fg := Fg.set ⟨pm, 0, none⟩ (.int .i64 0)
          replace Fn := Fn.set ⟨pm, 0, none⟩ (.int .i64 0)
          replace Fm := Fm.set ⟨pm, 0, none⟩ (.int .i64 0)
          replace BB := BB.setCell (p := ⟨pm, 0, none⟩) (by first | exact Nat.le_refl _ | (simp only; omega)) (.int .i64 0)
          replace Tm := Tm.set 1 (.int .i64 0) (by simp)
          replace Tr := Tr.other (k' := pm) (by omega) 1 (.int .i64 0)
          replace Tg := Tg.other (k' := pm) (by omega) 1 (.int .i64 0)
          replace Tx := Tx.other (k' := pm) (by omega) 1 (.int .i64 0)
          replace Tn := Tn.other (k' := pm) (by omega) 1 (.int .i64 0)
          replace Fr := Fr.set ⟨pm, 1, none⟩ (.int .i64 0)
          replace Fg := Fg.set ⟨pm, 1, none⟩ (.int .i64 0)
          replace Fn := Fn.set ⟨pm, 1, none⟩ (.int .i64 0)
          replace Fm := Fm.set ⟨pm, 1, none⟩ (.int .i64 0)
          replace BB := BB.setCell (p := ⟨pm, 1, none⟩) (by first | exact Nat.le_refl _ | (simp only; omega)) (.int .i64 0)
          replace Tm := Tm.set 2 (.int .i64 0) (by simp)
          replace Tr := Tr.other (k' := pm) (by omega) 2 (.int .i64 0)
          replace Tg := Tg.other (k' := pm) (by omega) 2 (.int .i64 0)
          replace Tx := Tx.other (k' := pm) (by omega) 2 (.int .i64 0)
          replace Tn := Tn.other (k' := pm) (by omega) 2 (.int .i64 0)
          replace Fr := Fr.set ⟨pm, 2, none⟩ (.int .i64 0)
          replace Fg := Fg.set ⟨pm, 2, none⟩ (.int .i64 0)
          replace Fn := Fn.set ⟨pm, 2, none⟩ (.int .i64 0)
          replace Fm := Fm.set ⟨pm, 2, none⟩ (.int .i64 0)
          replace BB := BB.setCell (p := ⟨pm, 2, none⟩) (by first | exact Nat.le_refl _ | (simp only; omega)) (.int .i64 0)
          replace Tm := Tm.set 3 (.int .i64 0) (by simp)
          replace Tr := Tr.other (k' := pm) (by omega) 3 (.int .i64 0)
          replace Tg := Tg.other (k' := pm) (by omega) 3 (.int .i64 0)
          replace Tx := Tx.other (k' := pm) (by omega) 3 (.int .i64 0)
          replace Tn := Tn.other (k' := pm) (by omega) 3 (.int .i64 0)
          replace Fr := Fr.set ⟨pm, 3, none⟩ (.int .i64 0)
          replace Fg := Fg.set ⟨pm, 3, none⟩ (.int .i64 0)
          replace Fn := Fn.set ⟨pm, 3, none⟩ (.int .i64 0)
          replace Fm := Fm.set ⟨pm, 3, none⟩ (.int .i64 0)
          replace BB := BB.setCell (p := ⟨pm, 3, none⟩) (by first | exact Nat.le_refl _ | (simp only; omega)) (.int .i64 0)
          replace Tm := Tm.set 4 (.int .i64 0) (by simp)
          replace Tr := Tr.other (k' := pm) (by omega) 4 (.int .i64 0)
          replace Tg := Tg.other (k' := pm) (by omega) 4 (.int .i64 0)
          replace Tx := Tx.other (k' := pm) (by omega) 4 (.int .i64 0)
          replace Tn := Tn.other (k' := pm) (by omega) 4 (.int .i64 0)
          replace Fr := Fr.set ⟨pm, 4, none⟩ (.int .i64 0)
          replace Fg := Fg.set ⟨pm, 4, none⟩ (.int .i64 0)
          replace Fn := Fn.set ⟨pm, 4, none⟩ (.int .i64 0)
          replace Fm := Fm.set ⟨pm, 4, none⟩ (.int .i64 0)
          replace BB := BB.setCell (p := ⟨pm, 4, none⟩) (by first | exact Nat.le_refl _ | (simp only; omega)) (.int .i64 0)
          replace Tm := Tm.set 5 (.int .i64 0) (by simp)
          replace Tr := Tr.other (k' := pm) (by omega) 5 (.int .i64 0)
          replace Tg := Tg.other (k' := pm) (by omega) 5 (.int .i64 0)
          replace Tx := Tx.other (k' := pm) (by omega) 5 (.int .i64 0)
          replace Tn := Tn.other (k' := pm) (by omega) 5 (.int .i64 0)
          replace Fr := Fr.set ⟨pm, 5, none⟩ (.int .i64 0)
          replace Fg := Fg.set ⟨pm, 5, none⟩ (.int .i64 0)
          replace Fn := Fn.set ⟨pm, 5, none⟩ (.int .i64 0)
          replace Fm := Fm.set ⟨pm, 5, none⟩ (.int .i64 0)
          replace BB := BB.setCell (p := ⟨pm, 5, none⟩) (by first | exact Nat.le_refl _ | (simp only; omega)) (.int .i64 0)
          replace Tm := Tm.set 6 (.int .i64 0) (by simp)
          replace Tr := Tr.other (k' := pm) (by omega) 6 (.int .i64 0)
          replace Tg := Tg.other (k' := pm) (by omega) 6 (.int .i64 0)
          replace Tx := Tx.other (k' := pm) (by omega) 6 (.int .i64 0)
          replace Tn := Tn.other (k' := pm) (by omega) 6 (.int .i64 0)
          replace Fr := Fr.set ⟨pm, 6, none⟩ (.int .i64 0)
          replace Fg := Fg.set ⟨pm, 6, none⟩ (.int .i64 0)
          replace Fn := Fn.set ⟨pm, 6, none⟩ (.int .i64 0)
          replace Fm := Fm.set ⟨pm, 6, none⟩ (.int .i64 0)
          replace BB := BB.setCell (p := ⟨pm, 6, none⟩) (by first | exact Nat.le_refl _ | (simp only; omega)) (.int .i64 0)
          replace Tm := Tm.set 7 (.int .i64 0) (by simp)
          replace Tr := Tr.other (k' := pm) (by omega) 7 (.int .i64 0)
          replace Tg := Tg.other (k' := pm) (by omega) 7 (.int .i64 0)
          replace Tx := Tx.other (k' := pm) (by omega) 7 (.int .i64 0)
          replace Tn := Tn.other (k' := pm) (by omega) 7 (.int .i64 0)
          replace Fr := Fr.set ⟨pm, 7, none⟩ (.int .i64 0)
          replace Fg := Fg.set ⟨pm, 7, none⟩ (.int .i64 0)
          replace Fn := Fn.set ⟨pm, 7, none⟩ (.int .i64 0)
          replace Fm := Fm.set ⟨pm, 7, none⟩ (.int .i64 0)
          replace BB := BB.setCell (p := ⟨pm, 7, none⟩) (by first | exact Nat.le_refl _ | (simp only; omega)) (.int .i64 0)
          obtain ⟨V4, hV4⟩ : ∃ V4, (((((((V3.setCell ⟨pm, 0, none⟩ (.int .i64 0)).setCell ⟨pm, 1, none⟩ (.int .i64 0)).setCell ⟨pm, 2, none⟩ (.int .i64 0)).setCell ⟨pm, 3, none⟩ (.int .i64 0)).setCell ⟨pm, 4, none⟩ (.int .i64 0)).setCell ⟨pm, 5, none⟩ (.int .i64 0)).setCell ⟨pm, 6, none⟩ (.int .i64 0)).setCell ⟨pm, 7, none⟩ (.int .i64 0) = V4 := ⟨_, rfl⟩
          rw [hV4] at BB Tr Tg Tx Tn Tm Fr Fg Fn Fm ⊢
          clear hV4
          refine listS_step rfl fun K9 hK9 => ?_
          go_simp
          refine hK9 _ _ trivial ?_
          clear hK9 K9
          unfold wpListS noPanic
          go_wp2_with fail
          have TT2 := TT.step FK.2 BB
          have S3 := SGr.keep BB
          have hw2 := hw1.keep BB
          clear Tn Fn Tm Fm Tx hlm hln BB SGr TT hw1
          go_roundw
          case rel => exact ⟨i + 1, by omega, by go_num, TT2, hw2, Tr, Fr, Fg, .inl ⟨by omega, S3, Tg⟩⟩
          case measure => simp [intOf]; omega
        · have hxe := hpx hie
          subst hie
          clear hot hpx
          subst hxe
          simp only at c0 c1' c2 c3 c4 c5 c6 c7 HFO
          have BB : Below wr.heap.size wr wr := Below.refl _ _
          go_upto_region 5 with (fail)
          clear c0 c1' c2 c3 c4 c5 c6 c7
          have S2 := SGr
          have lt1r : w.heap.size < wr.heap.size := World.block_lt_of_cell? wr ⟨w.heap.size, 0, none⟩ (Tr 0 _ rfl)
          have lt1g : (w.heap.size + 1) < wr.heap.size := World.block_lt_of_cell? wr ⟨(w.heap.size + 1), 0, none⟩ (Tg 0 _ rfl)
          have Tx := CAt.new (wr) [.int .i64 4, .int .i64 id, .int .i64 me, .int .i64 nn, .int .i64 0, .int .i64 (1000000 + id), .int .i64 ra, .int .i64 rb] 43
          replace Tr := Tr.alloc (.cells #[.int .i64 4, .int .i64 id, .int .i64 me, .int .i64 nn, .int .i64 0, .int .i64 (1000000 + id), .int .i64 ra, .int .i64 rb] 43)
          replace Tg := Tg.alloc (.cells #[.int .i64 4, .int .i64 id, .int .i64 me, .int .i64 nn, .int .i64 0, .int .i64 (1000000 + id), .int .i64 ra, .int .i64 rb] 43)
          replace Fr := Fr.alloc (.cells #[.int .i64 4, .int .i64 id, .int .i64 me, .int .i64 nn, .int .i64 0, .int .i64 (1000000 + id), .int .i64 ra, .int .i64 rb] 43)
          replace Fg := Fg.alloc (.cells #[.int .i64 4, .int .i64 id, .int .i64 me, .int .i64 nn, .int .i64 0, .int .i64 (1000000 + id), .int .i64 ra, .int .i64 rb] 43)
          replace S2 := S2.keep (Below.alloc (Below.refl _ (wr)) (Nat.le_refl _) (.cells #[.int .i64 4, .int .i64 id, .int .i64 me, .int .i64 nn, .int .i64 0, .int .i64 (1000000 + id), .int .i64 ra, .int .i64 rb] 43))
          replace BB := ball BB (.cells #[.int .i64 4, .int .i64 id, .int .i64 me, .int .i64 nn, .int .i64 0, .int .i64 (1000000 + id), .int .i64 ra, .int .i64 rb] 43)
          obtain ⟨V1, hV1⟩ : ∃ V1, wr.alloc (.cells #[.int .i64 4, .int .i64 id, .int .i64 me, .int .i64 nn, .int .i64 0, .int .i64 (1000000 + id), .int .i64 ra, .int .i64 rb] 43) = V1 := ⟨_, rfl⟩
          rw [hV1] at BB Tr Tg Tx Fr Fg S2 ⊢
          clear hV1
          obtain ⟨q0, q1, q2, q3, q4, q5⟩ := S2
          simp only at q0 q1 q2 q3 q4 q5
          have bs2 : wr.heap.size ≤ V1.heap.size := BB.size
          have lt2r : w.heap.size < V1.heap.size := World.block_lt_of_cell? V1 ⟨w.heap.size, 0, none⟩ (Tr 0 _ rfl)
          have lt2g : (w.heap.size + 1) < V1.heap.size := World.block_lt_of_cell? V1 ⟨(w.heap.size + 1), 0, none⟩ (Tg 0 _ rfl)
          have lt2x : wr.heap.size < V1.heap.size := World.block_lt_of_cell? V1 ⟨wr.heap.size, 0, none⟩ (Tx 0 _ rfl)
          have r0 := Tr 0 _ rfl
          have kr0 := cell_regrown r0
          have r1 := Tr 1 _ rfl
          have kr1 := cell_regrown r1
          have g0 := Tg 0 _ rfl
          have kg0 := cell_regrown g0
          have g1 := Tg 1 _ rfl
          have kg1 := cell_regrown g1
          have x0 := Tx 0 _ rfl
          have kx0 := cell_regrown x0
          have x1 := Tx 1 _ rfl
          have kx1 := cell_regrown x1
          have x2 := Tx 2 _ rfl
          have kx2 := cell_regrown x2
          have x3 := Tx 3 _ rfl
          have kx3 := cell_regrown x3
          have x4 := Tx 4 _ rfl
          have kx4 := cell_regrown x4
          have x5 := Tx 5 _ rfl
          have kx5 := cell_regrown x5
          have x6 := Tx 6 _ rfl
          have kx6 := cell_regrown x6
          have x7 := Tx 7 _ rfl
          have kx7 := cell_regrown x7
          have kq0 := cell_regrown q0
          have kq1 := cell_regrown q1
          have kq2 := cell_regrown q2
          have kq3 := cell_regrown q3
          have kq4 := cell_regrown q4
          have kq5 := cell_regrown q5
          refine' wp_region_late' [0, 1, 2, 3, 4, 5, 6, 7, 8, 9, 10, 11, 12, 13, 14] [15, 16] [17, 18, 19] [13, 14] (by kernel_rfl) (by kernel_rfl) _
            (fun w' => True) (fun lx => if lx = 13 then zWd.v else if lx = 14 then .bool true else undef)
            (fun Z hZ hN => quiet_hole ?hq2) (fun i => if i = 15 then (.cells #[.int .i64 0, .int .i64 0, .int .i64 0, .int .i64 0, .int .i64 0] 28) else (.cells #[.int .i64 0, .int .i64 0, .int .i64 0, .int .i64 0, .int .i64 0, .int .i64 0, .int .i64 0, .int .i64 0] 43)) (fun _ p => .pointer (some ⟨p, 0, none⟩)) ?ha2 ?hl2 ?ht2
          case hq2 =>
            intro Q9 hQ9
            show wpQuiet _ _ _ _ [_, _, _, _, _, _, _, _, _, _, _, _, _, _, _] _
            repeat (go_big_quiet_step (first
              | (go_at_call 23; exact rgX hZ fun w' h => jhear_we me nn si tr id 0 ra rb fr w' J2.out HT.out HID.out HFO.out (by have := Q0.out; omega) (by have := Q1.out; omega))))
            exact wpQuiet_nil hQ9
          case ha2 =>
            intro i hi o ho w' hw'
            simp only [List.mem_cons, List.not_mem_nil, or_false] at hi
            rcases hi with rfl | rfl <;> (simp only [List.getElem?_cons_succ, List.getElem?_cons_zero, Option.some.injEq] at ho; subst ho; go_simp)
          case hl2 =>
            intro j hj o ho
            simp only [List.mem_cons, List.not_mem_nil, or_false] at hj
            rcases hj with rfl | rfl
            all_goals (
              simp only [List.getElem?_cons_succ, List.getElem?_cons_zero, Option.some.injEq] at ho
              subst ho
              refine ⟨fun w' hw' => by go_simp, fun t ht => ?_⟩
              simp only [Option.some.injEq] at ht
              subst ht
              rfl)
          intro π z2 hz2 hπ hπd
          simp only [List.filterMap_cons, List.filterMap_nil, List.getElem?_cons_zero, List.getElem?_cons_succ, putsA, Option.bind_some, Act.put, List.setIfInBounds_toArray, List.set_cons_zero, List.set_cons_succ]
          refine ⟨trivial, ?_⟩
          show wpListS _ _ _ _ [_, _, _] _ _
          clear r0 kr0 r1 kr1 g0 kg0 g1 kg1 x0 kx0 x1 kx1 x2 kx2 x3 kx3 x4 kx4 x5 kx5 x6 kx6 x7 kx7 q0 kq0 q1 kq1 q2 kq2 q3 kq3 q4 kq4 q5 kq5
          replace Tr := Tr.keep hz2
          replace Tg := Tg.keep hz2
          replace Tx := Tx.keep hz2
          replace Fr := Fr.keep hz2
          replace Fg := Fg.keep hz2
          replace BB := bstep BB hz2
          have hpn := hπ 15 (by simp)
          have Tn : CAt z2 (π 15) [.int .i64 0, .int .i64 0, .int .i64 0, .int .i64 0, .int .i64 0] := fun j v hj => cell_blk hpn.1 (by simpa using hj)
          have Fn : Fz z2 (π 15) := ⟨fun j => frz_blk hpn.1, (Array.getElem?_eq_some_iff.1 hpn.1).1⟩
          have hln := hpn.2
          have hpm := hπ 16 (by simp)
          have Tm : CAt z2 (π 16) [.int .i64 0, .int .i64 0, .int .i64 0, .int .i64 0, .int .i64 0, .int .i64 0, .int .i64 0, .int .i64 0] := fun j v hj => cell_blk hpm.1 (by simpa using hj)
          have Fm : Fz z2 (π 16) := ⟨fun j => frz_blk hpm.1, (Array.getElem?_eq_some_iff.1 hpm.1).1⟩
          have hlm := hpm.2
          have nenm : ¬ π 15 = π 16 := fun h => by have := hπd 15 (by simp) 16 (by simp) h; omega
          have nemn : ¬ π 16 = π 15 := fun h => nenm h.symm
          clear hπ hπd hpn hpm hz2
          obtain ⟨pn, en⟩ : ∃ q, π 15 = q := ⟨_, rfl⟩
          rw [en] at Tn Fn hln nenm nemn ⊢
          clear en
          obtain ⟨pm, em⟩ : ∃ q, π 16 = q := ⟨_, rfl⟩
          rw [em] at Tm Fm hlm nenm nemn ⊢
          clear em
          have n0 := Tn 0 _ rfl
          have fn0 := Fn.1 0
          have n1 := Tn 1 _ rfl
          have fn1 := Fn.1 1
          have n2 := Tn 2 _ rfl
          have fn2 := Fn.1 2
          have n3 := Tn 3 _ rfl
          have fn3 := Fn.1 3
          have n4 := Tn 4 _ rfl
          have fn4 := Fn.1 4
          refine listS_step rfl fun K9 hK9 => ?_
          go_simp
          refine hK9 _ _ trivial ?_
          clear hK9 K9
          clear n0 fn0 n1 fn1 n2 fn2 n3 fn3 n4 fn4
          replace Tn := Tn.set 0 (.int .i64 3) (by simp)
          replace Tr := Tr.other (k' := pn) (by omega) 0 (.int .i64 3)
          replace Tg := Tg.other (k' := pn) (by omega) 0 (.int .i64 3)
          replace Tx := Tx.other (k' := pn) (by omega) 0 (.int .i64 3)
          replace Tm := Tm.other (k' := pn) (by omega) 0 (.int .i64 3)
          replace Fr := Fr.set ⟨pn, 0, none⟩ (.int .i64 3)
          replace Fg := Fg.set ⟨pn, 0, none⟩ (.int .i64 3)
          replace Fn := Fn.set ⟨pn, 0, none⟩ (.int .i64 3)
          replace Fm := Fm.set ⟨pn, 0, none⟩ (.int .i64 3)
          replace BB := BB.setCell (p := ⟨pn, 0, none⟩) (by first | exact Nat.le_refl _ | (simp only; omega)) (.int .i64 3)
          replace Tn := Tn.set 1 (.int .i64 me) (by simp)
          replace Tr := Tr.other (k' := pn) (by omega) 1 (.int .i64 me)
          replace Tg := Tg.other (k' := pn) (by omega) 1 (.int .i64 me)
          replace Tx := Tx.other (k' := pn) (by omega) 1 (.int .i64 me)
          replace Tm := Tm.other (k' := pn) (by omega) 1 (.int .i64 me)
          replace Fr := Fr.set ⟨pn, 1, none⟩ (.int .i64 me)
          replace Fg := Fg.set ⟨pn, 1, none⟩ (.int .i64 me)
          replace Fn := Fn.set ⟨pn, 1, none⟩ (.int .i64 me)
          replace Fm := Fm.set ⟨pn, 1, none⟩ (.int .i64 me)
          replace BB := BB.setCell (p := ⟨pn, 1, none⟩) (by first | exact Nat.le_refl _ | (simp only; omega)) (.int .i64 me)
          replace Tn := Tn.set 2 (.int .i64 nn) (by simp)
          replace Tr := Tr.other (k' := pn) (by omega) 2 (.int .i64 nn)
          replace Tg := Tg.other (k' := pn) (by omega) 2 (.int .i64 nn)
          replace Tx := Tx.other (k' := pn) (by omega) 2 (.int .i64 nn)
          replace Tm := Tm.other (k' := pn) (by omega) 2 (.int .i64 nn)
          replace Fr := Fr.set ⟨pn, 2, none⟩ (.int .i64 nn)
          replace Fg := Fg.set ⟨pn, 2, none⟩ (.int .i64 nn)
          replace Fn := Fn.set ⟨pn, 2, none⟩ (.int .i64 nn)
          replace Fm := Fm.set ⟨pn, 2, none⟩ (.int .i64 nn)
          replace BB := BB.setCell (p := ⟨pn, 2, none⟩) (by first | exact Nat.le_refl _ | (simp only; omega)) (.int .i64 nn)
          replace Tn := Tn.set 3 (.int .i64 si) (by simp)
          replace Tr := Tr.other (k' := pn) (by omega) 3 (.int .i64 si)
          replace Tg := Tg.other (k' := pn) (by omega) 3 (.int .i64 si)
          replace Tx := Tx.other (k' := pn) (by omega) 3 (.int .i64 si)
          replace Tm := Tm.other (k' := pn) (by omega) 3 (.int .i64 si)
          replace Fr := Fr.set ⟨pn, 3, none⟩ (.int .i64 si)
          replace Fg := Fg.set ⟨pn, 3, none⟩ (.int .i64 si)
          replace Fn := Fn.set ⟨pn, 3, none⟩ (.int .i64 si)
          replace Fm := Fm.set ⟨pn, 3, none⟩ (.int .i64 si)
          replace BB := BB.setCell (p := ⟨pn, 3, none⟩) (by first | exact Nat.le_refl _ | (simp only; omega)) (.int .i64 si)
          replace Tn := Tn.set 4 (.int .i64 tr) (by simp)
          replace Tr := Tr.other (k' := pn) (by omega) 4 (.int .i64 tr)
          replace Tg := Tg.other (k' := pn) (by omega) 4 (.int .i64 tr)
          replace Tx := Tx.other (k' := pn) (by omega) 4 (.int .i64 tr)
          replace Tm := Tm.other (k' := pn) (by omega) 4 (.int .i64 tr)
          replace Fr := Fr.set ⟨pn, 4, none⟩ (.int .i64 tr)
          replace Fg := Fg.set ⟨pn, 4, none⟩ (.int .i64 tr)
          replace Fn := Fn.set ⟨pn, 4, none⟩ (.int .i64 tr)
          replace Fm := Fm.set ⟨pn, 4, none⟩ (.int .i64 tr)
          replace BB := BB.setCell (p := ⟨pn, 4, none⟩) (by first | exact Nat.le_refl _ | (simp only; omega)) (.int .i64 tr)
          obtain ⟨V3, hV3⟩ : ∃ V3, ((((z2.setCell ⟨pn, 0, none⟩ (.int .i64 3)).setCell ⟨pn, 1, none⟩ (.int .i64 me)).setCell ⟨pn, 2, none⟩ (.int .i64 nn)).setCell ⟨pn, 3, none⟩ (.int .i64 si)).setCell ⟨pn, 4, none⟩ (.int .i64 tr) = V3 := ⟨_, rfl⟩
          rw [hV3] at BB Tr Tg Tx Tn Tm Fr Fg Fn Fm ⊢
          clear hV3
          have m0 := Tm 0 _ rfl
          have fm0 := Fm.1 0
          have m1 := Tm 1 _ rfl
          have fm1 := Fm.1 1
          have m2 := Tm 2 _ rfl
          have fm2 := Fm.1 2
          have m3 := Tm 3 _ rfl
          have fm3 := Fm.1 3
          have m4 := Tm 4 _ rfl
          have fm4 := Fm.1 4
          have m5 := Tm 5 _ rfl
          have fm5 := Fm.1 5
          have m6 := Tm 6 _ rfl
          have fm6 := Fm.1 6
          have m7 := Tm 7 _ rfl
          have fm7 := Fm.1 7
          refine listS_step rfl fun K9 hK9 => ?_
          go_simp
          refine hK9 _ _ trivial ?_
          clear hK9 K9
          clear m0 fm0 m1 fm1 m2 fm2 m3 fm3 m4 fm4 m5 fm5 m6 fm6 m7 fm7
          replace Tm := Tm.set 0 (.int .i64 0) (by simp)
          replace Tr := Tr.other (k' := pm) (by omega) 0 (.int .i64 0)
          replace Tg := Tg.other (k' := pm) (by omega) 0 (.int .i64 0)
          replace Tx := Tx.other (k' := pm) (by omega) 0 (.int .i64 0)
          replace Tn := Tn.other (k' := pm) (by omega) 0 (.int .i64 0)
          replace Fr := Fr.set ⟨pm, 0, none⟩ (.int .i64 0)
          replace Fg := Fg.set ⟨pm, 0, none⟩ (.int .i64 0)
          replace Fn := Fn.set ⟨pm, 0, none⟩ (.int .i64 0)
          replace Fm := Fm.set ⟨pm, 0, none⟩ (.int .i64 0)
          replace BB := BB.setCell (p := ⟨pm, 0, none⟩) (by first | exact Nat.le_refl _ | (simp only; omega)) (.int .i64 0)
          replace Tm := Tm.set 1 (.int .i64 0) (by simp)
          replace Tr := Tr.other (k' := pm) (by omega) 1 (.int .i64 0)
          replace Tg := Tg.other (k' := pm) (by omega) 1 (.int .i64 0)
          replace Tx := Tx.other (k' := pm) (by omega) 1 (.int .i64 0)
          replace Tn := Tn.other (k' := pm) (by omega) 1 (.int .i64 0)
          replace Fr := Fr.set ⟨pm, 1, none⟩ (.int .i64 0)
          replace Fg := Fg.set ⟨pm, 1, none⟩ (.int .i64 0)
          replace Fn := Fn.set ⟨pm, 1, none⟩ (.int .i64 0)
          replace Fm := Fm.set ⟨pm, 1, none⟩ (.int .i64 0)
          replace BB := BB.setCell (p := ⟨pm, 1, none⟩) (by first | exact Nat.le_refl _ | (simp only; omega)) (.int .i64 0)
          replace Tm := Tm.set 2 (.int .i64 0) (by simp)
          replace Tr := Tr.other (k' := pm) (by omega) 2 (.int .i64 0)
          replace Tg := Tg.other (k' := pm) (by omega) 2 (.int .i64 0)
          replace Tx := Tx.other (k' := pm) (by omega) 2 (.int .i64 0)
          replace Tn := Tn.other (k' := pm) (by omega) 2 (.int .i64 0)
          replace Fr := Fr.set ⟨pm, 2, none⟩ (.int .i64 0)
          replace Fg := Fg.set ⟨pm, 2, none⟩ (.int .i64 0)
          replace Fn := Fn.set ⟨pm, 2, none⟩ (.int .i64 0)
          replace Fm := Fm.set ⟨pm, 2, none⟩ (.int .i64 0)
          replace BB := BB.setCell (p := ⟨pm, 2, none⟩) (by first | exact Nat.le_refl _ | (simp only; omega)) (.int .i64 0)
          replace Tm := Tm.set 3 (.int .i64 0) (by simp)
          replace Tr := Tr.other (k' := pm) (by omega) 3 (.int .i64 0)
          replace Tg := Tg.other (k' := pm) (by omega) 3 (.int .i64 0)
          replace Tx := Tx.other (k' := pm) (by omega) 3 (.int .i64 0)
          replace Tn := Tn.other (k' := pm) (by omega) 3 (.int .i64 0)
          replace Fr := Fr.set ⟨pm, 3, none⟩ (.int .i64 0)
          replace Fg := Fg.set ⟨pm, 3, none⟩ (.int .i64 0)
          replace Fn := Fn.set ⟨pm, 3, none⟩ (.int .i64 0)
          replace Fm := Fm.set ⟨pm, 3, none⟩ (.int .i64 0)
          replace BB := BB.setCell (p := ⟨pm, 3, none⟩) (by first | exact Nat.le_refl _ | (simp only; omega)) (.int .i64 0)
          replace Tm := Tm.set 4 (.int .i64 0) (by simp)
          replace Tr := Tr.other (k' := pm) (by omega) 4 (.int .i64 0)
          replace Tg := Tg.other (k' := pm) (by omega) 4 (.int .i64 0)
          replace Tx := Tx.other (k' := pm) (by omega) 4 (.int .i64 0)
          replace Tn := Tn.other (k' := pm) (by omega) 4 (.int .i64 0)
          replace Fr := Fr.set ⟨pm, 4, none⟩ (.int .i64 0)
          replace Fg := Fg.set ⟨pm, 4, none⟩ (.int .i64 0)
          replace Fn := Fn.set ⟨pm, 4, none⟩ (.int .i64 0)
          replace Fm := Fm.set ⟨pm, 4, none⟩ (.int .i64 0)
          replace BB := BB.setCell (p := ⟨pm, 4, none⟩) (by first | exact Nat.le_refl _ | (simp only; omega)) (.int .i64 0)
          replace Tm := Tm.set 5 (.int .i64 0) (by simp)
          replace Tr := Tr.other (k' := pm) (by omega) 5 (.int .i64 0)
          replace Tg := Tg.other (k' := pm) (by omega) 5 (.int .i64 0)
          replace Tx := Tx.other (k' := pm) (by omega) 5 (.int .i64 0)
          replace Tn := Tn.other (k' := pm) (by omega) 5 (.int .i64 0)
          replace Fr := Fr.set ⟨pm, 5, none⟩ (.int .i64 0)
          replace Fg := Fg.set ⟨pm, 5, none⟩ (.int .i64 0)
          replace Fn := Fn.set ⟨pm, 5, none⟩ (.int .i64 0)
          replace Fm := Fm.set ⟨pm, 5, none⟩ (.int .i64 0)
          replace BB := BB.setCell (p := ⟨pm, 5, none⟩) (by first | exact Nat.le_refl _ | (simp only; omega)) (.int .i64 0)
          replace Tm := Tm.set 6 (.int .i64 0) (by simp)
          replace Tr := Tr.other (k' := pm) (by omega) 6 (.int .i64 0)
          replace Tg := Tg.other (k' := pm) (by omega) 6 (.int .i64 0)
          replace Tx := Tx.other (k' := pm) (by omega) 6 (.int .i64 0)
          replace Tn := Tn.other (k' := pm) (by omega) 6 (.int .i64 0)
          replace Fr := Fr.set ⟨pm, 6, none⟩ (.int .i64 0)
          replace Fg := Fg.set ⟨pm, 6, none⟩ (.int .i64 0)
          replace Fn := Fn.set ⟨pm, 6, none⟩ (.int .i64 0)
          replace Fm := Fm.set ⟨pm, 6, none⟩ (.int .i64 0)
          replace BB := BB.setCell (p := ⟨pm, 6, none⟩) (by first | exact Nat.le_refl _ | (simp only; omega)) (.int .i64 0)
          replace Tm := Tm.set 7 (.int .i64 0) (by simp)
          replace Tr := Tr.other (k' := pm) (by omega) 7 (.int .i64 0)
          replace Tg := Tg.other (k' := pm) (by omega) 7 (.int .i64 0)
          replace Tx := Tx.other (k' := pm) (by omega) 7 (.int .i64 0)
          replace Tn := Tn.other (k' := pm) (by omega) 7 (.int .i64 0)
          replace Fr := Fr.set ⟨pm, 7, none⟩ (.int .i64 0)
          replace Fg := Fg.set ⟨pm, 7, none⟩ (.int .i64 0)
          replace Fn := Fn.set ⟨pm, 7, none⟩ (.int .i64 0)
          replace Fm := Fm.set ⟨pm, 7, none⟩ (.int .i64 0)
          replace BB := BB.setCell (p := ⟨pm, 7, none⟩) (by first | exact Nat.le_refl _ | (simp only; omega)) (.int .i64 0)
          obtain ⟨V4, hV4⟩ : ∃ V4, (((((((V3.setCell ⟨pm, 0, none⟩ (.int .i64 0)).setCell ⟨pm, 1, none⟩ (.int .i64 0)).setCell ⟨pm, 2, none⟩ (.int .i64 0)).setCell ⟨pm, 3, none⟩ (.int .i64 0)).setCell ⟨pm, 4, none⟩ (.int .i64 0)).setCell ⟨pm, 5, none⟩ (.int .i64 0)).setCell ⟨pm, 6, none⟩ (.int .i64 0)).setCell ⟨pm, 7, none⟩ (.int .i64 0) = V4 := ⟨_, rfl⟩
          rw [hV4] at BB Tr Tg Tx Tn Tm Fr Fg Fn Fm ⊢
          clear hV4
          refine listS_step rfl fun K9 hK9 => ?_
          go_simp
          refine hK9 _ _ trivial ?_
          clear hK9 K9
          unfold wpListS noPanic
          have n0 := Tn 0 _ rfl
          have fn0 := Fn.1 0
          have n1 := Tn 1 _ rfl
          have fn1 := Fn.1 1
          have n2 := Tn 2 _ rfl
          have fn2 := Fn.1 2
          have n3 := Tn 3 _ rfl
          have fn3 := Fn.1 3
          have n4 := Tn 4 _ rfl
          have fn4 := Fn.1 4
          have g0 := Tg 0 _ rfl
          have fg0 := Fg.1 0
          have g1 := Tg 1 _ rfl
          have fg1 := Fg.1 1
          have x0 := Tx 0 _ rfl
          have x1 := Tx 1 _ rfl
          have x2 := Tx 2 _ rfl
          have x3 := Tx 3 _ rfl
          have x4 := Tx 4 _ rfl
          have x5 := Tx 5 _ rfl
          have x6 := Tx 6 _ rfl
          have x7 := Tx 7 _ rfl
          have FK2 := FK.keep BB
          have e1 := FK2.1 (o + 1); have e2 := FK2.1 (o + 2); have e3 := FK2.1 (o + 3); have e4 := FK2.1 (o + 4); have e5 := FK2.1 (o + 5)
          obtain ⟨q0, q1, q2, q3, q4, q5⟩ := SGr.keep BB
          simp only at q0 q1 q2 q3 q4 q5
          have hgk : ¬ (w.heap.size + 1) = k := by omega
          have hkg : ¬ k = (w.heap.size + 1) := by omega
          go_upto_region 7 with (fail)
          go_region
          clear n0 fn0 n1 fn1 n2 fn2 n3 fn3 n4 fn4 g0 fg0 g1 fg1 x0 x1 x2 x3 x4 x5 x6 x7
          clear q0 q1 q2 q3 q4 q5 e1 e2 e3 e4 e5 FK2
          have TP := Tch.put V4 k o ⟨3, me, nn, si, tr⟩
          have S3 := (((Sg.put (SGr.keep BB) ⟨3, me, nn, si, tr⟩).other hgk 0 (.int .i64 ra)).other hgk 1 (.int .i64 rb)).drew
          have TT3 := ((((TT.step FK.2 BB).trans TP).new (j := 0) hkw hb2 (.int .i64 ra)).new (j := 1) hkw hb2 (.int .i64 rb)).drew
          have hgk' : ∀ b', w.heap.size ≤ b' → some b' ≠ some k := fun b' h e => by have := Option.some.inj e; omega
          have Tg3 := (((Tg.grown TP.g (hgk' _ hb2)).set 0 (.int .i64 ra) (by simp)).set 1 (.int .i64 rb) (by simp)).drew
          have Fg3 := (((Fg.grown TP.g (hgk' _ hb2)).set ⟨(w.heap.size + 1), 0, none⟩ (.int .i64 ra)).set ⟨(w.heap.size + 1), 1, none⟩ (.int .i64 rb)).drew
          have Tr3 := (((Tr.grown TP.g (hgk' _ hb1)).other (k' := (w.heap.size + 1)) hbn 0 (.int .i64 ra)).other (k' := (w.heap.size + 1)) hbn 1 (.int .i64 rb)).drew
          have Fr3 := (((Fr.grown TP.g (hgk' _ hb1)).set ⟨(w.heap.size + 1), 0, none⟩ (.int .i64 ra)).set ⟨(w.heap.size + 1), 1, none⟩ (.int .i64 rb)).drew
          have hw3 := At.tch hw0 TT3 hap1
          obtain ⟨V9, hV9⟩ : ∃ V9, (((((((V4.setCell ⟨k, o + 1, none⟩ (.int .i64 3)).setCell ⟨k, o + 1 + 1, none⟩ (.int .i64 me)).setCell ⟨k, o + 1 + 2, none⟩ (.int .i64 nn)).setCell ⟨k, o + 1 + 3, none⟩ (.int .i64 si)).setCell ⟨k, o + 1 + 4, none⟩ (.int .i64 tr)).setCell ⟨(w.heap.size + 1), 0, none⟩ (.int .i64 ra)).setCell ⟨(w.heap.size + 1), 1, none⟩ (.int .i64 rb)).drew = V9 := ⟨_, rfl⟩
          rw [show ((((putJ V4 k o ⟨3, me, nn, si, tr⟩)).setCell ⟨(w.heap.size + 1), 0, none⟩ (.int .i64 ra)).setCell ⟨(w.heap.size + 1), 1, none⟩ (.int .i64 rb)).drew = V9 from hV9] at S3 TT3 Tg3 Fg3 Tr3 Fr3 hw3
          rw [hV9]
          clear hV9 TP Tn Fn Tm Fm Tx hlm hln BB SGr TT hw1 Tg Fg Tr Fr
          go_wp2_with fail
          go_roundw
          case rel => exact ⟨i + 1, by omega, by go_num, TT3, hw3, Tr3, Fr3, Fg3, .inr ⟨by omega, S3, Tg3⟩⟩
          case measure => simp [intOf]; omega
      · have hxs := hot (by omega)
        have HNO : Hid (¬ (x.s = id ∧ x.p = me ∧ x.n = nn)) := Lib.hid (fun h => hxs h.1)
        clear hxs hot hpx
        have BB : Below wr.heap.size wr wr := Below.refl _ _
        go_upto_region 5 with (fail)
        clear c0 c1' c2 c3 c4 c5 c6 c7
        have S2 := SGr
        have lt1r : w.heap.size < wr.heap.size := World.block_lt_of_cell? wr ⟨w.heap.size, 0, none⟩ (Tr 0 _ rfl)
        have lt1g : (w.heap.size + 1) < wr.heap.size := World.block_lt_of_cell? wr ⟨(w.heap.size + 1), 0, none⟩ (Tg 0 _ rfl)
        have Tx := CAt.new (wr) [.int .i64 x.k, .int .i64 x.s, .int .i64 x.p, .int .i64 x.n, .int .i64 x.c, .int .i64 x.key, .int .i64 x.f, .int .i64 x.x] 43
        replace Tr := Tr.alloc (.cells #[.int .i64 x.k, .int .i64 x.s, .int .i64 x.p, .int .i64 x.n, .int .i64 x.c, .int .i64 x.key, .int .i64 x.f, .int .i64 x.x] 43)
        replace Tg := Tg.alloc (.cells #[.int .i64 x.k, .int .i64 x.s, .int .i64 x.p, .int .i64 x.n, .int .i64 x.c, .int .i64 x.key, .int .i64 x.f, .int .i64 x.x] 43)
        replace Fr := Fr.alloc (.cells #[.int .i64 x.k, .int .i64 x.s, .int .i64 x.p, .int .i64 x.n, .int .i64 x.c, .int .i64 x.key, .int .i64 x.f, .int .i64 x.x] 43)
        replace Fg := Fg.alloc (.cells #[.int .i64 x.k, .int .i64 x.s, .int .i64 x.p, .int .i64 x.n, .int .i64 x.c, .int .i64 x.key, .int .i64 x.f, .int .i64 x.x] 43)
        replace S2 := S2.keep (Below.alloc (Below.refl _ (wr)) (Nat.le_refl _) (.cells #[.int .i64 x.k, .int .i64 x.s, .int .i64 x.p, .int .i64 x.n, .int .i64 x.c, .int .i64 x.key, .int .i64 x.f, .int .i64 x.x] 43))
        replace BB := ball BB (.cells #[.int .i64 x.k, .int .i64 x.s, .int .i64 x.p, .int .i64 x.n, .int .i64 x.c, .int .i64 x.key, .int .i64 x.f, .int .i64 x.x] 43)
        obtain ⟨V1, hV1⟩ : ∃ V1, wr.alloc (.cells #[.int .i64 x.k, .int .i64 x.s, .int .i64 x.p, .int .i64 x.n, .int .i64 x.c, .int .i64 x.key, .int .i64 x.f, .int .i64 x.x] 43) = V1 := ⟨_, rfl⟩
        rw [hV1] at BB Tr Tg Tx Fr Fg S2 ⊢
        clear hV1
        obtain ⟨q0, q1, q2, q3, q4, q5⟩ := S2
        simp only at q0 q1 q2 q3 q4 q5
        have bs2 : wr.heap.size ≤ V1.heap.size := BB.size
        have lt2r : w.heap.size < V1.heap.size := World.block_lt_of_cell? V1 ⟨w.heap.size, 0, none⟩ (Tr 0 _ rfl)
        have lt2g : (w.heap.size + 1) < V1.heap.size := World.block_lt_of_cell? V1 ⟨(w.heap.size + 1), 0, none⟩ (Tg 0 _ rfl)
        have lt2x : wr.heap.size < V1.heap.size := World.block_lt_of_cell? V1 ⟨wr.heap.size, 0, none⟩ (Tx 0 _ rfl)
        have r0 := Tr 0 _ rfl
        have kr0 := cell_regrown r0
        have r1 := Tr 1 _ rfl
        have kr1 := cell_regrown r1
        have g0 := Tg 0 _ rfl
        have kg0 := cell_regrown g0
        have g1 := Tg 1 _ rfl
        have kg1 := cell_regrown g1
        have x0 := Tx 0 _ rfl
        have kx0 := cell_regrown x0
        have x1 := Tx 1 _ rfl
        have kx1 := cell_regrown x1
        have x2 := Tx 2 _ rfl
        have kx2 := cell_regrown x2
        have x3 := Tx 3 _ rfl
        have kx3 := cell_regrown x3
        have x4 := Tx 4 _ rfl
        have kx4 := cell_regrown x4
        have x5 := Tx 5 _ rfl
        have kx5 := cell_regrown x5
        have x6 := Tx 6 _ rfl
        have kx6 := cell_regrown x6
        have x7 := Tx 7 _ rfl
        have kx7 := cell_regrown x7
        have kq0 := cell_regrown q0
        have kq1 := cell_regrown q1
        have kq2 := cell_regrown q2
        have kq3 := cell_regrown q3
        have kq4 := cell_regrown q4
        have kq5 := cell_regrown q5
        refine' wp_region_late' [0, 1, 2, 3, 4, 5, 6, 7, 8, 9, 10, 11, 12, 13, 14] [15, 16] [17, 18, 19] [13, 14] (by kernel_rfl) (by kernel_rfl) _
          (fun w' => True) (fun lx => if lx = 13 then zWd.v else if lx = 14 then .bool false else undef)
          (fun Z hZ hN => quiet_hole ?hq3) (fun i => if i = 15 then (.cells #[.int .i64 0, .int .i64 0, .int .i64 0, .int .i64 0, .int .i64 0] 28) else (.cells #[.int .i64 0, .int .i64 0, .int .i64 0, .int .i64 0, .int .i64 0, .int .i64 0, .int .i64 0, .int .i64 0] 43)) (fun _ p => .pointer (some ⟨p, 0, none⟩)) ?ha3 ?hl3 ?ht3
        case hq3 =>
          intro Q9 hQ9
          show wpQuiet _ _ _ _ [_, _, _, _, _, _, _, _, _, _, _, _, _, _, _] _
          repeat (go_big_quiet_step (first
            | (go_at_call 23; exact rgX hZ fun w' h => jhear_no 3 me nn si tr id x.k x.s x.p x.n x.c x.key x.f x.x fr w' J3.out HT.out HID.out HFO.out (by have := Q0.out; omega) (by have := Q1.out; omega) HNO.out)))
          exact wpQuiet_nil hQ9
        case ha3 =>
          intro i hi o ho w' hw'
          simp only [List.mem_cons, List.not_mem_nil, or_false] at hi
          rcases hi with rfl | rfl <;> (simp only [List.getElem?_cons_succ, List.getElem?_cons_zero, Option.some.injEq] at ho; subst ho; go_simp)
        case hl3 =>
          intro j hj o ho
          simp only [List.mem_cons, List.not_mem_nil, or_false] at hj
          rcases hj with rfl | rfl
          all_goals (
            simp only [List.getElem?_cons_succ, List.getElem?_cons_zero, Option.some.injEq] at ho
            subst ho
            refine ⟨fun w' hw' => by go_simp, fun t ht => ?_⟩
            simp only [Option.some.injEq] at ht
            subst ht
            rfl)
        intro π z2 hz2 hπ hπd
        simp only [List.filterMap_cons, List.filterMap_nil, List.getElem?_cons_zero, List.getElem?_cons_succ, putsA, Option.bind_some, Act.put, List.setIfInBounds_toArray, List.set_cons_zero, List.set_cons_succ]
        refine ⟨trivial, ?_⟩
        show wpListS _ _ _ _ [_, _, _] _ _
        clear r0 kr0 r1 kr1 g0 kg0 g1 kg1 x0 kx0 x1 kx1 x2 kx2 x3 kx3 x4 kx4 x5 kx5 x6 kx6 x7 kx7 q0 kq0 q1 kq1 q2 kq2 q3 kq3 q4 kq4 q5 kq5
        replace Tr := Tr.keep hz2
        replace Tg := Tg.keep hz2
        replace Tx := Tx.keep hz2
        replace Fr := Fr.keep hz2
        replace Fg := Fg.keep hz2
        replace BB := bstep BB hz2
        have hpn := hπ 15 (by simp)
        have Tn : CAt z2 (π 15) [.int .i64 0, .int .i64 0, .int .i64 0, .int .i64 0, .int .i64 0] := fun j v hj => cell_blk hpn.1 (by simpa using hj)
        have Fn : Fz z2 (π 15) := ⟨fun j => frz_blk hpn.1, (Array.getElem?_eq_some_iff.1 hpn.1).1⟩
        have hln := hpn.2
        have hpm := hπ 16 (by simp)
        have Tm : CAt z2 (π 16) [.int .i64 0, .int .i64 0, .int .i64 0, .int .i64 0, .int .i64 0, .int .i64 0, .int .i64 0, .int .i64 0] := fun j v hj => cell_blk hpm.1 (by simpa using hj)
        have Fm : Fz z2 (π 16) := ⟨fun j => frz_blk hpm.1, (Array.getElem?_eq_some_iff.1 hpm.1).1⟩
        have hlm := hpm.2
        have nenm : ¬ π 15 = π 16 := fun h => by have := hπd 15 (by simp) 16 (by simp) h; omega
        have nemn : ¬ π 16 = π 15 := fun h => nenm h.symm
        clear hπ hπd hpn hpm hz2
        obtain ⟨pn, en⟩ : ∃ q, π 15 = q := ⟨_, rfl⟩
        rw [en] at Tn Fn hln nenm nemn ⊢
        clear en
        obtain ⟨pm, em⟩ : ∃ q, π 16 = q := ⟨_, rfl⟩
        rw [em] at Tm Fm hlm nenm nemn ⊢
        clear em
        have n0 := Tn 0 _ rfl
        have fn0 := Fn.1 0
        have n1 := Tn 1 _ rfl
        have fn1 := Fn.1 1
        have n2 := Tn 2 _ rfl
        have fn2 := Fn.1 2
        have n3 := Tn 3 _ rfl
        have fn3 := Fn.1 3
        have n4 := Tn 4 _ rfl
        have fn4 := Fn.1 4
        refine listS_step rfl fun K9 hK9 => ?_
        go_simp
        refine hK9 _ _ trivial ?_
        clear hK9 K9
        clear n0 fn0 n1 fn1 n2 fn2 n3 fn3 n4 fn4
        replace Tn := Tn.set 0 (.int .i64 3) (by simp)
        replace Tr := Tr.other (k' := pn) (by omega) 0 (.int .i64 3)
        replace Tg := Tg.other (k' := pn) (by omega) 0 (.int .i64 3)
        replace Tx := Tx.other (k' := pn) (by omega) 0 (.int .i64 3)
        replace Tm := Tm.other (k' := pn) (by omega) 0 (.int .i64 3)
        replace Fr := Fr.set ⟨pn, 0, none⟩ (.int .i64 3)
        replace Fg := Fg.set ⟨pn, 0, none⟩ (.int .i64 3)
        replace Fn := Fn.set ⟨pn, 0, none⟩ (.int .i64 3)
        replace Fm := Fm.set ⟨pn, 0, none⟩ (.int .i64 3)
        replace BB := BB.setCell (p := ⟨pn, 0, none⟩) (by first | exact Nat.le_refl _ | (simp only; omega)) (.int .i64 3)
        replace Tn := Tn.set 1 (.int .i64 me) (by simp)
        replace Tr := Tr.other (k' := pn) (by omega) 1 (.int .i64 me)
        replace Tg := Tg.other (k' := pn) (by omega) 1 (.int .i64 me)
        replace Tx := Tx.other (k' := pn) (by omega) 1 (.int .i64 me)
        replace Tm := Tm.other (k' := pn) (by omega) 1 (.int .i64 me)
        replace Fr := Fr.set ⟨pn, 1, none⟩ (.int .i64 me)
        replace Fg := Fg.set ⟨pn, 1, none⟩ (.int .i64 me)
        replace Fn := Fn.set ⟨pn, 1, none⟩ (.int .i64 me)
        replace Fm := Fm.set ⟨pn, 1, none⟩ (.int .i64 me)
        replace BB := BB.setCell (p := ⟨pn, 1, none⟩) (by first | exact Nat.le_refl _ | (simp only; omega)) (.int .i64 me)
        replace Tn := Tn.set 2 (.int .i64 nn) (by simp)
        replace Tr := Tr.other (k' := pn) (by omega) 2 (.int .i64 nn)
        replace Tg := Tg.other (k' := pn) (by omega) 2 (.int .i64 nn)
        replace Tx := Tx.other (k' := pn) (by omega) 2 (.int .i64 nn)
        replace Tm := Tm.other (k' := pn) (by omega) 2 (.int .i64 nn)
        replace Fr := Fr.set ⟨pn, 2, none⟩ (.int .i64 nn)
        replace Fg := Fg.set ⟨pn, 2, none⟩ (.int .i64 nn)
        replace Fn := Fn.set ⟨pn, 2, none⟩ (.int .i64 nn)
        replace Fm := Fm.set ⟨pn, 2, none⟩ (.int .i64 nn)
        replace BB := BB.setCell (p := ⟨pn, 2, none⟩) (by first | exact Nat.le_refl _ | (simp only; omega)) (.int .i64 nn)
        replace Tn := Tn.set 3 (.int .i64 si) (by simp)
        replace Tr := Tr.other (k' := pn) (by omega) 3 (.int .i64 si)
        replace Tg := Tg.other (k' := pn) (by omega) 3 (.int .i64 si)
        replace Tx := Tx.other (k' := pn) (by omega) 3 (.int .i64 si)
        replace Tm := Tm.other (k' := pn) (by omega) 3 (.int .i64 si)
        replace Fr := Fr.set ⟨pn, 3, none⟩ (.int .i64 si)
        replace Fg := Fg.set ⟨pn, 3, none⟩ (.int .i64 si)
        replace Fn := Fn.set ⟨pn, 3, none⟩ (.int .i64 si)
        replace Fm := Fm.set ⟨pn, 3, none⟩ (.int .i64 si)
        replace BB := BB.setCell (p := ⟨pn, 3, none⟩) (by first | exact Nat.le_refl _ | (simp only; omega)) (.int .i64 si)
        replace Tn := Tn.set 4 (.int .i64 tr) (by simp)
        replace Tr := Tr.other (k' := pn) (by omega) 4 (.int .i64 tr)
        replace Tg := Tg.other (k' := pn) (by omega) 4 (.int .i64 tr)
        replace Tx := Tx.other (k' := pn) (by omega) 4 (.int .i64 tr)
        replace Tm := Tm.other (k' := pn) (by omega) 4 (.int .i64 tr)
        replace Fr := Fr.set ⟨pn, 4, none⟩ (.int .i64 tr)
        replace Fg := Fg.set ⟨pn, 4, none⟩ (.int .i64 tr)
        replace Fn := Fn.set ⟨pn, 4, none⟩ (.int .i64 tr)
        replace Fm := Fm.set ⟨pn, 4, none⟩ (.int .i64 tr)
        replace BB := BB.setCell (p := ⟨pn, 4, none⟩) (by first | exact Nat.le_refl _ | (simp only; omega)) (.int .i64 tr)
        obtain ⟨V3, hV3⟩ : ∃ V3, ((((z2.setCell ⟨pn, 0, none⟩ (.int .i64 3)).setCell ⟨pn, 1, none⟩ (.int .i64 me)).setCell ⟨pn, 2, none⟩ (.int .i64 nn)).setCell ⟨pn, 3, none⟩ (.int .i64 si)).setCell ⟨pn, 4, none⟩ (.int .i64 tr) = V3 := ⟨_, rfl⟩
        rw [hV3] at BB Tr Tg Tx Tn Tm Fr Fg Fn Fm ⊢
        clear hV3
        have m0 := Tm 0 _ rfl
        have fm0 := Fm.1 0
        have m1 := Tm 1 _ rfl
        have fm1 := Fm.1 1
        have m2 := Tm 2 _ rfl
        have fm2 := Fm.1 2
        have m3 := Tm 3 _ rfl
        have fm3 := Fm.1 3
        have m4 := Tm 4 _ rfl
        have fm4 := Fm.1 4
        have m5 := Tm 5 _ rfl
        have fm5 := Fm.1 5
        have m6 := Tm 6 _ rfl
        have fm6 := Fm.1 6
        have m7 := Tm 7 _ rfl
        have fm7 := Fm.1 7
        refine listS_step rfl fun K9 hK9 => ?_
        go_simp
        refine hK9 _ _ trivial ?_
        clear hK9 K9
        clear m0 fm0 m1 fm1 m2 fm2 m3 fm3 m4 fm4 m5 fm5 m6 fm6 m7 fm7
        replace Tm := Tm.set 0 (.int .i64 0) (by simp)
        replace Tr := Tr.other (k' := pm) (by omega) 0 (.int .i64 0)
        replace Tg := Tg.other (k' := pm) (by omega) 0 (.int .i64 0)
        replace Tx := Tx.other (k' := pm) (by omega) 0 (.int .i64 0)
        replace Tn := Tn.other (k' := pm) (by omega) 0 (.int .i64 0)
        replace Fr := Fr.set ⟨pm, 0, none⟩ (.int .i64 0)
        replace Fg := Fg.set ⟨pm, 0, none⟩ (.int .i64 0)
        replace Fn := Fn.set ⟨pm, 0, none⟩ (.int .i64 0)
        replace Fm := Fm.set ⟨pm, 0, none⟩ (.int .i64 0)
        replace BB := BB.setCell (p := ⟨pm, 0, none⟩) (by first | exact Nat.le_refl _ | (simp only; omega)) (.int .i64 0)
        replace Tm := Tm.set 1 (.int .i64 0) (by simp)
        replace Tr := Tr.other (k' := pm) (by omega) 1 (.int .i64 0)
        replace Tg := Tg.other (k' := pm) (by omega) 1 (.int .i64 0)
        replace Tx := Tx.other (k' := pm) (by omega) 1 (.int .i64 0)
        replace Tn := Tn.other (k' := pm) (by omega) 1 (.int .i64 0)
        replace Fr := Fr.set ⟨pm, 1, none⟩ (.int .i64 0)
        replace Fg := Fg.set ⟨pm, 1, none⟩ (.int .i64 0)
        replace Fn := Fn.set ⟨pm, 1, none⟩ (.int .i64 0)
        replace Fm := Fm.set ⟨pm, 1, none⟩ (.int .i64 0)
        replace BB := BB.setCell (p := ⟨pm, 1, none⟩) (by first | exact Nat.le_refl _ | (simp only; omega)) (.int .i64 0)
        replace Tm := Tm.set 2 (.int .i64 0) (by simp)
        replace Tr := Tr.other (k' := pm) (by omega) 2 (.int .i64 0)
        replace Tg := Tg.other (k' := pm) (by omega) 2 (.int .i64 0)
        replace Tx := Tx.other (k' := pm) (by omega) 2 (.int .i64 0)
        replace Tn := Tn.other (k' := pm) (by omega) 2 (.int .i64 0)
        replace Fr := Fr.set ⟨pm, 2, none⟩ (.int .i64 0)
        replace Fg := Fg.set ⟨pm, 2, none⟩ (.int .i64 0)
        replace Fn := Fn.set ⟨pm, 2, none⟩ (.int .i64 0)
        replace Fm := Fm.set ⟨pm, 2, none⟩ (.int .i64 0)
        replace BB := BB.setCell (p := ⟨pm, 2, none⟩) (by first | exact Nat.le_refl _ | (simp only; omega)) (.int .i64 0)
        replace Tm := Tm.set 3 (.int .i64 0) (by simp)
        replace Tr := Tr.other (k' := pm) (by omega) 3 (.int .i64 0)
        replace Tg := Tg.other (k' := pm) (by omega) 3 (.int .i64 0)
        replace Tx := Tx.other (k' := pm) (by omega) 3 (.int .i64 0)
        replace Tn := Tn.other (k' := pm) (by omega) 3 (.int .i64 0)
        replace Fr := Fr.set ⟨pm, 3, none⟩ (.int .i64 0)
        replace Fg := Fg.set ⟨pm, 3, none⟩ (.int .i64 0)
        replace Fn := Fn.set ⟨pm, 3, none⟩ (.int .i64 0)
        replace Fm := Fm.set ⟨pm, 3, none⟩ (.int .i64 0)
        replace BB := BB.setCell (p := ⟨pm, 3, none⟩) (by first | exact Nat.le_refl _ | (simp only; omega)) (.int .i64 0)
        replace Tm := Tm.set 4 (.int .i64 0) (by simp)
        replace Tr := Tr.other (k' := pm) (by omega) 4 (.int .i64 0)
        replace Tg := Tg.other (k' := pm) (by omega) 4 (.int .i64 0)
        replace Tx := Tx.other (k' := pm) (by omega) 4 (.int .i64 0)
        replace Tn := Tn.other (k' := pm) (by omega) 4 (.int .i64 0)
        replace Fr := Fr.set ⟨pm, 4, none⟩ (.int .i64 0)
        replace Fg := Fg.set ⟨pm, 4, none⟩ (.int .i64 0)
        replace Fn := Fn.set ⟨pm, 4, none⟩ (.int .i64 0)
        replace Fm := Fm.set ⟨pm, 4, none⟩ (.int .i64 0)
        replace BB := BB.setCell (p := ⟨pm, 4, none⟩) (by first | exact Nat.le_refl _ | (simp only; omega)) (.int .i64 0)
        replace Tm := Tm.set 5 (.int .i64 0) (by simp)
        replace Tr := Tr.other (k' := pm) (by omega) 5 (.int .i64 0)
        replace Tg := Tg.other (k' := pm) (by omega) 5 (.int .i64 0)
        replace Tx := Tx.other (k' := pm) (by omega) 5 (.int .i64 0)
        replace Tn := Tn.other (k' := pm) (by omega) 5 (.int .i64 0)
        replace Fr := Fr.set ⟨pm, 5, none⟩ (.int .i64 0)
        replace Fg := Fg.set ⟨pm, 5, none⟩ (.int .i64 0)
        replace Fn := Fn.set ⟨pm, 5, none⟩ (.int .i64 0)
        replace Fm := Fm.set ⟨pm, 5, none⟩ (.int .i64 0)
        replace BB := BB.setCell (p := ⟨pm, 5, none⟩) (by first | exact Nat.le_refl _ | (simp only; omega)) (.int .i64 0)
        replace Tm := Tm.set 6 (.int .i64 0) (by simp)
        replace Tr := Tr.other (k' := pm) (by omega) 6 (.int .i64 0)
        replace Tg := Tg.other (k' := pm) (by omega) 6 (.int .i64 0)
        replace Tx := Tx.other (k' := pm) (by omega) 6 (.int .i64 0)
        replace Tn := Tn.other (k' := pm) (by omega) 6 (.int .i64 0)
        replace Fr := Fr.set ⟨pm, 6, none⟩ (.int .i64 0)
        replace Fg := Fg.set ⟨pm, 6, none⟩ (.int .i64 0)
        replace Fn := Fn.set ⟨pm, 6, none⟩ (.int .i64 0)
        replace Fm := Fm.set ⟨pm, 6, none⟩ (.int .i64 0)
        replace BB := BB.setCell (p := ⟨pm, 6, none⟩) (by first | exact Nat.le_refl _ | (simp only; omega)) (.int .i64 0)
        replace Tm := Tm.set 7 (.int .i64 0) (by simp)
        replace Tr := Tr.other (k' := pm) (by omega) 7 (.int .i64 0)
        replace Tg := Tg.other (k' := pm) (by omega) 7 (.int .i64 0)
        replace Tx := Tx.other (k' := pm) (by omega) 7 (.int .i64 0)
        replace Tn := Tn.other (k' := pm) (by omega) 7 (.int .i64 0)
        replace Fr := Fr.set ⟨pm, 7, none⟩ (.int .i64 0)
        replace Fg := Fg.set ⟨pm, 7, none⟩ (.int .i64 0)
        replace Fn := Fn.set ⟨pm, 7, none⟩ (.int .i64 0)
        replace Fm := Fm.set ⟨pm, 7, none⟩ (.int .i64 0)
        replace BB := BB.setCell (p := ⟨pm, 7, none⟩) (by first | exact Nat.le_refl _ | (simp only; omega)) (.int .i64 0)
        obtain ⟨V4, hV4⟩ : ∃ V4, (((((((V3.setCell ⟨pm, 0, none⟩ (.int .i64 0)).setCell ⟨pm, 1, none⟩ (.int .i64 0)).setCell ⟨pm, 2, none⟩ (.int .i64 0)).setCell ⟨pm, 3, none⟩ (.int .i64 0)).setCell ⟨pm, 4, none⟩ (.int .i64 0)).setCell ⟨pm, 5, none⟩ (.int .i64 0)).setCell ⟨pm, 6, none⟩ (.int .i64 0)).setCell ⟨pm, 7, none⟩ (.int .i64 0) = V4 := ⟨_, rfl⟩
        rw [hV4] at BB Tr Tg Tx Tn Tm Fr Fg Fn Fm ⊢
        clear hV4
        refine listS_step rfl fun K9 hK9 => ?_
        go_simp
        refine hK9 _ _ trivial ?_
        clear hK9 K9
        unfold wpListS noPanic
        go_wp2_with fail
        have TT2 := TT.step FK.2 BB
        have S3 := SGr.keep BB
        have hw2 := hw1.keep BB
        clear Tn Fn Tm Fm Tx hlm hln BB SGr TT hw1
        go_roundw
        case rel => exact ⟨i + 1, by omega, by go_num, TT2, hw2, Tr, Fr, Fg, .inr ⟨by omega, S3, Tg⟩⟩
        case measure => simp [intOf]; omega
    · have hin : i = m1 := by omega
      subst hin
      have hlt' : ¬ (i : Int) < (i : Int) := by omega
      rcases hrel with ⟨hip, SGr, Tg⟩ | ⟨hpi, SGr, Tg⟩
      · omega
      · have g0 := Tg 0 _ rfl; have g1 := Tg 1 _ rfl; have r0 := Tr 0 _ rfl; have r1 := Tr 1 _ rfl; have f0 := Fr.1 0; have f1 := Fr.1 1
        go_wp2_with fail
        have TT2 := (TT.new (j := 0) hkw hb1 (.int .i64 ra)).new (j := 1) hkw hb1 (.int .i64 rb)
        have S2 := (SGr.other (show w.heap.size ≠ k by omega) 0 (.int .i64 ra)).other (show w.heap.size ≠ k by omega) 1 (.int .i64 rb)
        have Tr2 := (Tr.set 0 (.int .i64 ra) (by simp)).set 1 (.int .i64 rb) (by simp)
        obtain ⟨V9, hV9⟩ : ∃ V9, (wr.setCell ⟨w.heap.size, 0, none⟩ (.int .i64 ra)).setCell ⟨w.heap.size, 1, none⟩ (.int .i64 rb) = V9 := ⟨_, rfl⟩
        rw [hV9] at TT2 S2 Tr2 ⊢
        have r0 := Tr2 0 _ rfl; have r1 := Tr2 1 _ rfl
        refine bodyPost_ret (v := .agg #[.int .i64 ra, .int .i64 rb]) (by simp [results, Tryd.results10, go_sem, r0, r1]) rfl ⟨rfl, S2, TT2⟩
end Go.Proofs.YtgmabjlehjpboaaDoor
