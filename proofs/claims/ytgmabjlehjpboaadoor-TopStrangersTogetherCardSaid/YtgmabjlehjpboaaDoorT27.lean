/- Proved: a stranger that answers the challenge of its sponsor. Conditions: those that each theorem names. -/
import Derived.Test.YtgmabjlehjpboaaDoorT26
namespace Go.Proofs.YtgmabjlehjpboaaDoor
open Go.RowKit Go.Sort Go.BigFrame Go.Proofs.YtgmabjlehjpboaaDoor.K
set_option linter.unusedVariables false
set_option linter.unusedSimpArgs false
attribute [local go_sem] cell_alloc_old

open Go.Maps Go.Shelf
theorem told_get {l : List Hf} {me kind : Int} {pr : Bool} (hm : nodeB me = true) {i : Nat} (hi : i < (toldV l me kind pr).length) : ∃ g ∈ l, (g.pr == pr) = true ∧ (toldV l me kind pr).getD i default = wordOf me kind g := by
  have e : toldV l me kind pr = (l.filter (fun h => h.pr == pr)).map (wordOf me kind) := by simp [toldV, hm]
  rw [e] at hi ⊢
  rw [List.length_map] at hi
  refine ⟨(l.filter (fun h => h.pr == pr))[i], (List.mem_filter.1 (List.getElem_mem hi)).1, (List.mem_filter.1 (List.getElem_mem hi)).2, ?_⟩
  rw [List.getD_eq_getElem?_getD, List.getElem?_map, List.getElem?_eq_getElem hi]; rfl
/-- The word about an element, and the others. -/
theorem told_index {l : List Hf} {me kind : Int} {pr : Bool} (hs : Srt l) (hm : nodeB me = true) {h : Hf} (hl : h ∈ l) (hp : (h.pr == pr) = true) :
    ∃ p, p < (toldV l me kind pr).length ∧ (toldV l me kind pr).getD p default = wordOf me kind h ∧ ∀ i, i < (toldV l me kind pr).length → i ≠ p → ((toldV l me kind pr).getD i default).s ≠ h.s := by
  have e : toldV l me kind pr = (l.filter (fun h => h.pr == pr)).map (wordOf me kind) := by simp [toldV, hm]
  have hf : h ∈ l.filter (fun h => h.pr == pr) := List.mem_filter.2 ⟨hl, hp⟩
  have hs2 : Srt (l.filter (fun h => h.pr == pr)) := hs.filter _
  rw [e]
  generalize l.filter (fun h => h.pr == pr) = F at hf hs2
  obtain ⟨p, hpl, rfl⟩ := List.mem_iff_getElem.1 hf
  refine ⟨p, by simpa using hpl, by simp [List.getD_eq_getElem?_getD, hpl], fun i hi hne => ?_⟩
  rw [List.length_map] at hi
  rw [List.getD_eq_getElem?_getD, List.getElem?_map, List.getElem?_eq_getElem hi]
  show F[i].s ≠ F[p].s
  rcases Nat.lt_trichotomy i p with h | h | h
  · have := List.pairwise_iff_getElem.1 hs2 i p hi hpl h; omega
  · exact absurd h hne
  · have := List.pairwise_iff_getElem.1 hs2 p i hpl hi h; omega
theorem word_formed {me kind : Int} {g : Hf} (hg : g.ok) (hm : nodeB me = true) (hne : g.s ≠ me) (k1 : 1 ≤ kind) (k4 : kind ≤ 4) : formedB (wordOf me kind g) = true := by
  have h1 : 0 ≤ g.n ∧ g.n ≤ 1000000000 := by simpa [inB] using hg.n
  have h2 : 0 ≤ g.c ∧ g.c ≤ 1000000000 := by simpa [inB] using hg.c
  have h3 : (g.s != me) = true := by simpa using hne
  unfold formedB wordOf
  simp only [hg.s, hm, h3, Bool.true_and, Bool.and_eq_true, decide_eq_true_eq]
  omega
theorem told_formed {l : List Hf} {me kind : Int} {pr : Bool} (ok : OkL l) (hm : nodeB me = true) (hne : ∀ g ∈ l, g.s ≠ me) (k1 : 1 ≤ kind) (k4 : kind ≤ 4) {i : Nat} (hi : i < (toldV l me kind pr).length) : formedB ((toldV l me kind pr).getD i default) = true := by
  obtain ⟨g, hg, _, e⟩ := told_get (kind := kind) hm hi
  rw [e]; exact word_formed (ok.ok g hg) hm (hne g hg) k1 k4
/-- What answering leaves. -/
def ProvePost (k o : Nat) (id : Int) (j2 : Jn) (L : List Hf) (w : World) (e : Ending) (w' : World) : Prop := ∃ a m c, e = .returned (.slice a m c) ∧ Hid (m = L.length) ∧ HsAt w' a L ∧ Fresh w.heap.size a ∧ Sg w' k o id j2 ∧ Tch k o w w' 
set_option maxRecDepth 100000 in
set_option maxHeartbeats 4000000 in
theorem prove_at (k o : Nat) (id me nn si tr fr ch u hk : Int) (l L : List Hf) (nl cap : Nat) (a : Option Addr) (w : World) (SG : Sg w k o id ⟨1, me, nn, si, tr⟩) (FG : Fz w k) (hap : Apart a k)
    (j1 : Jn.ok ⟨1, me, nn, si, tr⟩) (j2 : Jn.ok ⟨2, me, nn, si, tr⟩) (ht : triesB tr = true) (hid : nodeB id = true) (hme : nodeB me = true) (hne : ∀ g ∈ l, g.s ≠ me) (q0 : ¬ fr < 0) (q1 : ¬ 1000000000 < fr) (hfr : inB fr 999999988 = true)
    (ok : OkL l) (hq : Hid (nl = l.length)) (hl : HsAt w a l) (hf : findL l id = some ⟨id, nn, ch, u, false, hk⟩) (hL : L = putL l ⟨id, nn, ch, u, true, 1000000 + id⟩) :
    Calls Tryd.prog 9 #[.pointer (some ⟨k, o, none⟩), .slice a nl cap, .int .i64 me, .int .i64 fr] w (ProvePost k o id ⟨2, me, nn, si, tr⟩ L w) := by
  have hkw : k < w.heap.size := SG.lt
  obtain ⟨p, hp, hpx, hpo⟩ := told_index (kind := 2) (pr := false) ok.srt hme (find_some hf).1 rfl
  have hfm := fun {i : Nat} (hi : i < (toldV l me 2 false).length) => told_formed (kind := 2) (pr := false) ok hme hne (by decide) (by decide) hi
  have hm4 := told_len (me := me) (kind := 2) (pr := false) ok
  obtain ⟨W, hW⟩ : ∃ W, toldV l me 2 false = W := ⟨_, rfl⟩
  rw [hW] at hp hpx hpo hfm hm4
  have HW := Lib.hid hW; clear hW
  have HPX := Lib.hid hpx; clear hpx
  have HPO := Lib.hid hpo; clear hpo
  have HFM : Hid (∀ i, i < W.length → formedB (W.getD i default) = true) := Lib.hid (fun i hi => hfm hi); clear hfm
  have OK := Lib.hid ok; clear ok
  have HF := Lib.hid hf; clear hf
  have J1 := Lib.hid j1; have J2 := Lib.hid j2; have HT := Lib.hid ht; have HID := Lib.hid hid; have HME := Lib.hid hme; have HFR := Lib.hid hfr; have HNE := Lib.hid hne; have Q0 := Lib.hid q0; have Q1 := Lib.hid q1; have HLL := Lib.hid hL
  clear j1 j2 ht hid hme hfr hne q0 q1 hL
  go_enter Tryd.func9, Tryd.ntmps9
  go_wp2_with fail
  refine (words_at l nl a cap me w OK.out hq hl).mono ?_
  rintro e w1 ⟨a1, m1, c1, rfl, hm1, hw1, b1, f1⟩
  have hW := HW.out
  rw [hW] at hm1 hw1
  clear hW
  have hpm : p < m1 := by rw [hm1.out]; exact hp
  have hm5 : m1 ≤ 4 := by rw [hm1.out]; exact hm4
  clear hp hm4
  have hap1 := f1.apart hkw
  have T1 : Tch k o w w1 := Tch.of b1 hkw
  replace hl := hl.keep b1; replace SG := SG.keep b1; replace FG := FG.keep b1
  have hkw1 : k < w1.heap.size := SG.lt
  clear b1 f1
  go_wp2_with fail
  go_loopw [1, 20] (fun v iv wr => ∃ i : Nat, i ≤ m1 ∧ iv = .int .i64 i ∧ Tch k o w1 wr ∧ ((i ≤ p ∧ v = .slice a nl cap ∧ Sg wr k o id ⟨1, me, nn, si, tr⟩) ∨ (p < i ∧ ∃ a' m' c', v = .slice a' m' c' ∧ Hid (m' = L.length) ∧ HsAt wr a' L ∧ Fresh w.heap.size a' ∧ Sg wr k o id ⟨2, me, nn, si, tr⟩))) (fun _ iv _ => m1 - (intOf iv).toNat)
  case atStart => exact ⟨0, Nat.zero_le _, rfl, Tch.refl hkw1, .inl ⟨Nat.zero_le _, rfl, SG⟩⟩
  case round =>
    clear SG
    obtain ⟨i, hi, rfl, TT, hrel⟩ := hrel
    have FK : Fz wr k := ⟨fun x => (TT.f x).trans (FG.1 x), Nat.lt_of_lt_of_le hkw1 TT.size⟩
    by_cases hlt : i < m1
    · have hlt' : (i : Int) < (m1 : Int) := by omega
      have hk0 : (0 : Int) ≤ (i : Int) := by omega
      have hwk : IntKind.i64.wrap ((i : Int) + 1) = (i : Int) + 1 := IntWalk.i64_in _ (by omega)
      have hwr := At.tch hw1 TT hap1
      obtain ⟨b, off, e1, c0, c1', c2, c3, c4, c5, c6, c7⟩ := At.wd hwr (Below.refl _ wr) (i := i) (by rw [← hm1.out]; exact hlt)
      have hfo := HFM.out i (by rw [← hm1.out]; exact hlt)
      have hot := fun h => HPO.out i (by rw [← hm1.out]; exact hlt) h
      have hpx := fun (h : i = p) => (show W.getD i default = wordOf me 2 ⟨id, nn, ch, u, false, hk⟩ from by rw [h]; exact HPX.out)
      obtain ⟨x, hx⟩ : ∃ x, W.getD i default = x := ⟨_, rfl⟩
      rw [hx] at c0 c1' c2 c3 c4 c5 c6 c7 hfo hot hpx
      have HFO := Lib.hid hfo; clear hfo
      clear hx hwr
      subst e1
      rcases hrel with ⟨hip, rfl, SGr⟩ | ⟨hpi, a', m', c', rfl, hm', hl', hf', SGr⟩
      · by_cases hie : i = p
        rotate_left
        · have hxs := hot hie
          have HNO : Hid (¬ (x.s = id ∧ x.p = me ∧ x.n = nn)) := Lib.hid (fun h => hxs h.1)
          clear hxs hot hpx
          have BB : Below wr.heap.size wr wr := Below.refl _ _
          go_upto_region 4 with (fail)
          clear c0 c1' c2 c3 c4 c5 c6 c7
          have S2 := SGr
          have Tx := CAt.new (wr) [.int .i64 x.k, .int .i64 x.s, .int .i64 x.p, .int .i64 x.n, .int .i64 x.c, .int .i64 x.key, .int .i64 x.f, .int .i64 x.x] 43
          replace S2 := S2.keep (Below.alloc (Below.refl _ (wr)) (Nat.le_refl _) (.cells #[.int .i64 x.k, .int .i64 x.s, .int .i64 x.p, .int .i64 x.n, .int .i64 x.c, .int .i64 x.key, .int .i64 x.f, .int .i64 x.x] 43))
          replace BB := ball BB (.cells #[.int .i64 x.k, .int .i64 x.s, .int .i64 x.p, .int .i64 x.n, .int .i64 x.c, .int .i64 x.key, .int .i64 x.f, .int .i64 x.x] 43)
          obtain ⟨V1, hV1⟩ : ∃ V1, wr.alloc (.cells #[.int .i64 x.k, .int .i64 x.s, .int .i64 x.p, .int .i64 x.n, .int .i64 x.c, .int .i64 x.key, .int .i64 x.f, .int .i64 x.x] 43) = V1 := ⟨_, rfl⟩
          rw [hV1] at BB Tx S2 ⊢
          clear hV1
          obtain ⟨g0, g1, g2, g3, g4, g5⟩ := S2
          simp only at g0 g1 g2 g3 g4 g5
          have bs2 : wr.heap.size ≤ V1.heap.size := BB.size
          have lt2x : wr.heap.size < V1.heap.size := World.block_lt_of_cell? V1 ⟨wr.heap.size, 0, none⟩ (Tx 0 _ rfl)
          have x0 := Tx 0 _ rfl
          have kx0 := cell_regrown x0
          have x1 := Tx 1 _ rfl
          have kx1 := cell_regrown x1
          have x2 := Tx 2 _ rfl
          have kx2 := cell_regrown x2
          have x3 := Tx 3 _ rfl
          have kx3 := cell_regrown x3
          have x4 := Tx 4 _ rfl
          have kx4 := cell_regrown x4
          have x5 := Tx 5 _ rfl
          have kx5 := cell_regrown x5
          have x6 := Tx 6 _ rfl
          have kx6 := cell_regrown x6
          have x7 := Tx 7 _ rfl
          have kx7 := cell_regrown x7
          have kg0 := cell_regrown g0
          have kg1 := cell_regrown g1
          have kg2 := cell_regrown g2
          have kg3 := cell_regrown g3
          have kg4 := cell_regrown g4
          have kg5 := cell_regrown g5
          refine' wp_region_late' [0, 1, 2, 3, 4, 5, 6, 7, 8, 9, 10, 11, 12, 13, 14] [15, 16] [17, 18, 19] [13, 14] (by kernel_rfl) (by kernel_rfl) _
            (fun w' => True) (fun lx => if lx = 13 then zWd.v else if lx = 14 then .bool false else undef)
            (fun Z hZ hN => quiet_hole ?hq1) (fun i => if i = 15 then (.cells #[.int .i64 0, .int .i64 0, .int .i64 0, .int .i64 0, .int .i64 0] 28) else (.cells #[.int .i64 0, .int .i64 0, .int .i64 0, .int .i64 0, .int .i64 0, .int .i64 0, .int .i64 0, .int .i64 0] 43)) (fun _ p => .pointer (some ⟨p, 0, none⟩)) ?ha1 ?hl1 ?ht1
          case hq1 =>
            intro Q9 hQ9
            show wpQuiet _ _ _ _ [_, _, _, _, _, _, _, _, _, _, _, _, _, _, _] _
            repeat (go_big_quiet_step (first
              | (go_at_call 23; exact rgX hZ fun w' h => jhear_no 1 me nn si tr id x.k x.s x.p x.n x.c x.key x.f x.x fr w' J1.out HT.out HID.out HFO.out (by have := Q0.out; omega) (by have := Q1.out; omega) HNO.out)))
            exact wpQuiet_nil hQ9
          case ha1 =>
            intro i hi o ho w' hw'
            simp only [List.mem_cons, List.not_mem_nil, or_false] at hi
            rcases hi with rfl | rfl <;> (simp only [List.getElem?_cons_succ, List.getElem?_cons_zero, Option.some.injEq] at ho; subst ho; go_simp)
          case hl1 =>
            intro j hj o ho
            simp only [List.mem_cons, List.not_mem_nil, or_false] at hj
            rcases hj with rfl | rfl
            all_goals (
              simp only [List.getElem?_cons_succ, List.getElem?_cons_zero, Option.some.injEq] at ho
              subst ho
              refine ⟨fun w' hw' => by go_simp, fun t ht => ?_⟩
              simp only [Option.some.injEq] at ht
              subst ht
              rfl)
          intro π z2 hz2 hπ hπd
          simp only [List.filterMap_cons, List.filterMap_nil, List.getElem?_cons_zero, List.getElem?_cons_succ, putsA, Option.bind_some, Act.put, List.setIfInBounds_toArray, List.set_cons_zero, List.set_cons_succ]
          refine ⟨trivial, ?_⟩
          show wpListS _ _ _ _ [_, _, _] _ _
          clear x0 kx0 x1 kx1 x2 kx2 x3 kx3 x4 kx4 x5 kx5 x6 kx6 x7 kx7 g0 kg0 g1 kg1 g2 kg2 g3 kg3 g4 kg4 g5 kg5
          replace Tx := Tx.keep hz2
          replace BB := bstep BB hz2
          have hpn := hπ 15 (by simp)
          have Tn : CAt z2 (π 15) [.int .i64 0, .int .i64 0, .int .i64 0, .int .i64 0, .int .i64 0] := fun j v hj => cell_blk hpn.1 (by simpa using hj)
          have Fn : Fz z2 (π 15) := ⟨fun j => frz_blk hpn.1, (Array.getElem?_eq_some_iff.1 hpn.1).1⟩
          have hln := hpn.2
          have hpm := hπ 16 (by simp)
          have Tm : CAt z2 (π 16) [.int .i64 0, .int .i64 0, .int .i64 0, .int .i64 0, .int .i64 0, .int .i64 0, .int .i64 0, .int .i64 0] := fun j v hj => cell_blk hpm.1 (by simpa using hj)
          have Fm : Fz z2 (π 16) := ⟨fun j => frz_blk hpm.1, (Array.getElem?_eq_some_iff.1 hpm.1).1⟩
          have hlm := hpm.2
          have nenm : ¬ π 15 = π 16 := fun h => by have := hπd 15 (by simp) 16 (by simp) h; omega
          have nemn : ¬ π 16 = π 15 := fun h => nenm h.symm
          clear hπ hπd hpn hpm hz2
          obtain ⟨pn, en⟩ : ∃ q, π 15 = q := ⟨_, rfl⟩
          rw [en] at Tn Fn hln nenm nemn ⊢
          clear en
          obtain ⟨pm, em⟩ : ∃ q, π 16 = q := ⟨_, rfl⟩
          rw [em] at Tm Fm hlm nenm nemn ⊢
          clear em
          have n0 := Tn 0 _ rfl
          have fn0 := Fn.1 0
          have n1 := Tn 1 _ rfl
          have fn1 := Fn.1 1
          have n2 := Tn 2 _ rfl
          have fn2 := Fn.1 2
          have n3 := Tn 3 _ rfl
          have fn3 := Fn.1 3
          have n4 := Tn 4 _ rfl
          have fn4 := Fn.1 4
          refine listS_step rfl fun K9 hK9 => ?_
          go_simp
          refine hK9 _ _ trivial ?_
          clear hK9 K9
          clear n0 fn0 n1 fn1 n2 fn2 n3 fn3 n4 fn4
          replace Tn := Tn.set 0 (.int .i64 1) (by simp)
          replace Tx := Tx.other (k' := pn) (by omega) 0 (.int .i64 1)
          replace Tm := Tm.other (k' := pn) (by omega) 0 (.int .i64 1)
          replace Fn := Fn.set ⟨pn, 0, none⟩ (.int .i64 1)
          replace Fm := Fm.set ⟨pn, 0, none⟩ (.int .i64 1)
          replace BB := BB.setCell (p := ⟨pn, 0, none⟩) (by first | exact Nat.le_refl _ | (simp only; omega)) (.int .i64 1)
          replace Tn := Tn.set 1 (.int .i64 me) (by simp)
          replace Tx := Tx.other (k' := pn) (by omega) 1 (.int .i64 me)
          replace Tm := Tm.other (k' := pn) (by omega) 1 (.int .i64 me)
          replace Fn := Fn.set ⟨pn, 1, none⟩ (.int .i64 me)
          replace Fm := Fm.set ⟨pn, 1, none⟩ (.int .i64 me)
          replace BB := BB.setCell (p := ⟨pn, 1, none⟩) (by first | exact Nat.le_refl _ | (simp only; omega)) (.int .i64 me)
          replace Tn := Tn.set 2 (.int .i64 nn) (by simp)
          replace Tx := Tx.other (k' := pn) (by omega) 2 (.int .i64 nn)
          replace Tm := Tm.other (k' := pn) (by omega) 2 (.int .i64 nn)
          replace Fn := Fn.set ⟨pn, 2, none⟩ (.int .i64 nn)
          replace Fm := Fm.set ⟨pn, 2, none⟩ (.int .i64 nn)
          replace BB := BB.setCell (p := ⟨pn, 2, none⟩) (by first | exact Nat.le_refl _ | (simp only; omega)) (.int .i64 nn)
          replace Tn := Tn.set 3 (.int .i64 si) (by simp)
          replace Tx := Tx.other (k' := pn) (by omega) 3 (.int .i64 si)
          replace Tm := Tm.other (k' := pn) (by omega) 3 (.int .i64 si)
          replace Fn := Fn.set ⟨pn, 3, none⟩ (.int .i64 si)
          replace Fm := Fm.set ⟨pn, 3, none⟩ (.int .i64 si)
          replace BB := BB.setCell (p := ⟨pn, 3, none⟩) (by first | exact Nat.le_refl _ | (simp only; omega)) (.int .i64 si)
          replace Tn := Tn.set 4 (.int .i64 tr) (by simp)
          replace Tx := Tx.other (k' := pn) (by omega) 4 (.int .i64 tr)
          replace Tm := Tm.other (k' := pn) (by omega) 4 (.int .i64 tr)
          replace Fn := Fn.set ⟨pn, 4, none⟩ (.int .i64 tr)
          replace Fm := Fm.set ⟨pn, 4, none⟩ (.int .i64 tr)
          replace BB := BB.setCell (p := ⟨pn, 4, none⟩) (by first | exact Nat.le_refl _ | (simp only; omega)) (.int .i64 tr)
          obtain ⟨V3, hV3⟩ : ∃ V3, ((((z2.setCell ⟨pn, 0, none⟩ (.int .i64 1)).setCell ⟨pn, 1, none⟩ (.int .i64 me)).setCell ⟨pn, 2, none⟩ (.int .i64 nn)).setCell ⟨pn, 3, none⟩ (.int .i64 si)).setCell ⟨pn, 4, none⟩ (.int .i64 tr) = V3 := ⟨_, rfl⟩
          rw [hV3] at BB Tx Tn Tm Fn Fm ⊢
          clear hV3
          have m0 := Tm 0 _ rfl
          have fm0 := Fm.1 0
          have m1 := Tm 1 _ rfl
          have fm1 := Fm.1 1
          have m2 := Tm 2 _ rfl
          have fm2 := Fm.1 2
          have m3 := Tm 3 _ rfl
          have fm3 := Fm.1 3
          have m4 := Tm 4 _ rfl
          have fm4 := Fm.1 4
          have m5 := Tm 5 _ rfl
          have fm5 := Fm.1 5
          have m6 := Tm 6 _ rfl
          have fm6 := Fm.1 6
          have m7 := Tm 7 _ rfl
          have fm7 := Fm.1 7
          refine listS_step rfl fun K9 hK9 => ?_
          go_simp
          refine hK9 _ _ trivial ?_
          clear hK9 K9
          clear m0 fm0 m1 fm1 m2 fm2 m3 fm3 m4 fm4 m5 fm5 m6 fm6 m7 fm7
          replace Tm := Tm.set 0 (.int .i64 0) (by simp)
          replace Tx := Tx.other (k' := pm) (by omega) 0 (.int .i64 0)
          replace Tn := Tn.other (k' := pm) (by omega) 0 (.int .i64 0)
          replace Fn := Fn.set ⟨pm, 0, none⟩ (.int .i64 0)
          replace Fm := Fm.set ⟨pm, 0, none⟩ (.int .i64 0)
          replace BB := BB.setCell (p := ⟨pm, 0, none⟩) (by first | exact Nat.le_refl _ | (simp only; omega)) (.int .i64 0)
          replace Tm := Tm.set 1 (.int .i64 0) (by simp)
          replace Tx := Tx.other (k' := pm) (by omega) 1 (.int .i64 0)
          replace Tn := Tn.other (k' := pm) (by omega) 1 (.int .i64 0)
          replace Fn := Fn.set ⟨pm, 1, none⟩ (.int .i64 0)
          replace Fm := Fm.set ⟨pm, 1, none⟩ (.int .i64 0)
          replace BB := BB.setCell (p := ⟨pm, 1, none⟩) (by first | exact Nat.le_refl _ | (simp only; omega)) (.int .i64 0)
          replace Tm := Tm.set 2 (.int .i64 0) (by simp)
          replace Tx := Tx.other (k' := pm) (by omega) 2 (.int .i64 0)
          replace Tn := Tn.other (k' := pm) (by omega) 2 (.int .i64 0)
          replace Fn := Fn.set ⟨pm, 2, none⟩ (.int .i64 0)
          replace Fm := Fm.set ⟨pm, 2, none⟩ (.int .i64 0)
          replace BB := BB.setCell (p := ⟨pm, 2, none⟩) (by first | exact Nat.le_refl _ | (simp only; omega)) (.int .i64 0)
          replace Tm := Tm.set 3 (.int .i64 0) (by simp)
          replace Tx := Tx.other (k' := pm) (by omega) 3 (.int .i64 0)
          replace Tn := Tn.other (k' := pm) (by omega) 3 (.int .i64 0)
          replace Fn := Fn.set ⟨pm, 3, none⟩ (.int .i64 0)
          replace Fm := Fm.set ⟨pm, 3, none⟩ (.int .i64 0)
          replace BB := BB.setCell (p := ⟨pm, 3, none⟩) (by first | exact Nat.le_refl _ | (simp only; omega)) (.int .i64 0)
          replace Tm := Tm.set 4 (.int .i64 0) (by simp)
          replace Tx := Tx.other (k' := pm) (by omega) 4 (.int .i64 0)
          replace Tn := Tn.other (k' := pm) (by omega) 4 (.int .i64 0)
          replace Fn := Fn.set ⟨pm, 4, none⟩ (.int .i64 0)
          replace Fm := Fm.set ⟨pm, 4, none⟩ (.int .i64 0)
          replace BB := BB.setCell (p := ⟨pm, 4, none⟩) (by first | exact Nat.le_refl _ | (simp only; omega)) (.int .i64 0)
          replace Tm := Tm.set 5 (.int .i64 0) (by simp)
          replace Tx := Tx.other (k' := pm) (by omega) 5 (.int .i64 0)
          replace Tn := Tn.other (k' := pm) (by omega) 5 (.int .i64 0)
          replace Fn := Fn.set ⟨pm, 5, none⟩ (.int .i64 0)
          replace Fm := Fm.set ⟨pm, 5, none⟩ (.int .i64 0)
          replace BB := BB.setCell (p := ⟨pm, 5, none⟩) (by first | exact Nat.le_refl _ | (simp only; omega)) (.int .i64 0)
          replace Tm := Tm.set 6 (.int .i64 0) (by simp)
          replace Tx := Tx.other (k' := pm) (by omega) 6 (.int .i64 0)
          replace Tn := Tn.other (k' := pm) (by omega) 6 (.int .i64 0)
          replace Fn := Fn.set ⟨pm, 6, none⟩ (.int .i64 0)
          replace Fm := Fm.set ⟨pm, 6, none⟩ (.int .i64 0)
          replace BB := BB.setCell (p := ⟨pm, 6, none⟩) (by first | exact Nat.le_refl _ | (simp only; omega)) (.int .i64 0)
          replace Tm := Tm.set 7 (.int .i64 0) (by simp)
          replace Tx := Tx.other (k' := pm) (by omega) 7 (.int .i64 0)
          replace Tn := Tn.other (k' := pm) (by omega) 7 (.int .i64 0)
          replace Fn := Fn.set ⟨pm, 7, none⟩ (.int .i64 0)
          replace Fm := Fm.set ⟨pm, 7, none⟩ (.int .i64 0)
          replace BB := BB.setCell (p := ⟨pm, 7, none⟩) (by first | exact Nat.le_refl _ | (simp only; omega)) (.int .i64 0)
          obtain ⟨V4, hV4⟩ : ∃ V4, (((((((V3.setCell ⟨pm, 0, none⟩ (.int .i64 0)).setCell ⟨pm, 1, none⟩ (.int .i64 0)).setCell ⟨pm, 2, none⟩ (.int .i64 0)).setCell ⟨pm, 3, none⟩ (.int .i64 0)).setCell ⟨pm, 4, none⟩ (.int .i64 0)).setCell ⟨pm, 5, none⟩ (.int .i64 0)).setCell ⟨pm, 6, none⟩ (.int .i64 0)).setCell ⟨pm, 7, none⟩ (.int .i64 0) = V4 := ⟨_, rfl⟩
          rw [hV4] at BB Tx Tn Tm Fn Fm ⊢
          clear hV4
          refine listS_step rfl fun K9 hK9 => ?_
          go_simp
          refine hK9 _ _ trivial ?_
          clear hK9 K9
          unfold wpListS noPanic
          go_wp2_with fail
          clear Tn Fn Tm Fm Tx hlm hln
          have TT2 := TT.step FK.2 BB
          have S3 := SGr.keep BB
          go_roundw
          case rel => exact ⟨i + 1, by omega, by go_num, TT2, .inl ⟨by omega, rfl, S3⟩⟩
          case measure => simp [intOf]; omega
        · have hxe := hpx hie
          subst hie
          clear hot hpx
          simp only [wordOf] at hxe
          subst hxe
          simp only at c0 c1' c2 c3 c4 c5 c6 c7 HFO
          have BB : Below wr.heap.size wr wr := Below.refl _ _
          go_upto_region 4 with (fail)
          clear c0 c1' c2 c3 c4 c5 c6 c7
          have S2 := SGr
          have Tx := CAt.new (wr) [.int .i64 2, .int .i64 id, .int .i64 me, .int .i64 nn, .int .i64 ch, .int .i64 hk, .int .i64 0, .int .i64 0] 43
          replace S2 := S2.keep (Below.alloc (Below.refl _ (wr)) (Nat.le_refl _) (.cells #[.int .i64 2, .int .i64 id, .int .i64 me, .int .i64 nn, .int .i64 ch, .int .i64 hk, .int .i64 0, .int .i64 0] 43))
          replace BB := ball BB (.cells #[.int .i64 2, .int .i64 id, .int .i64 me, .int .i64 nn, .int .i64 ch, .int .i64 hk, .int .i64 0, .int .i64 0] 43)
          obtain ⟨V1, hV1⟩ : ∃ V1, wr.alloc (.cells #[.int .i64 2, .int .i64 id, .int .i64 me, .int .i64 nn, .int .i64 ch, .int .i64 hk, .int .i64 0, .int .i64 0] 43) = V1 := ⟨_, rfl⟩
          rw [hV1] at BB Tx S2 ⊢
          clear hV1
          obtain ⟨g0, g1, g2, g3, g4, g5⟩ := S2
          simp only at g0 g1 g2 g3 g4 g5
          have bs2 : wr.heap.size ≤ V1.heap.size := BB.size
          have lt2x : wr.heap.size < V1.heap.size := World.block_lt_of_cell? V1 ⟨wr.heap.size, 0, none⟩ (Tx 0 _ rfl)
          have x0 := Tx 0 _ rfl
          have kx0 := cell_regrown x0
          have x1 := Tx 1 _ rfl
          have kx1 := cell_regrown x1
          have x2 := Tx 2 _ rfl
          have kx2 := cell_regrown x2
          have x3 := Tx 3 _ rfl
          have kx3 := cell_regrown x3
          have x4 := Tx 4 _ rfl
          have kx4 := cell_regrown x4
          have x5 := Tx 5 _ rfl
          have kx5 := cell_regrown x5
          have x6 := Tx 6 _ rfl
          have kx6 := cell_regrown x6
          have x7 := Tx 7 _ rfl
          have kx7 := cell_regrown x7
          have kg0 := cell_regrown g0
          have kg1 := cell_regrown g1
          have kg2 := cell_regrown g2
          have kg3 := cell_regrown g3
          have kg4 := cell_regrown g4
          have kg5 := cell_regrown g5
          refine' wp_region_late' [0, 1, 2, 3, 4, 5, 6, 7, 8, 9, 10, 11, 12, 13, 14] [15, 16] [17, 18, 19] [13, 14] (by kernel_rfl) (by kernel_rfl) _
            (fun w' => True) (fun lx => if lx = 13 then (⟨3, id, me, nn, ch, 1000000 + id, 0, 0⟩ : Wd).v else if lx = 14 then .bool true else undef)
            (fun Z hZ hN => quiet_hole ?hq2) (fun i => if i = 15 then (.cells #[.int .i64 0, .int .i64 0, .int .i64 0, .int .i64 0, .int .i64 0] 28) else (.cells #[.int .i64 0, .int .i64 0, .int .i64 0, .int .i64 0, .int .i64 0, .int .i64 0, .int .i64 0, .int .i64 0] 43)) (fun _ p => .pointer (some ⟨p, 0, none⟩)) ?ha2 ?hl2 ?ht2
          case hq2 =>
            intro Q9 hQ9
            show wpQuiet _ _ _ _ [_, _, _, _, _, _, _, _, _, _, _, _, _, _, _] _
            repeat (go_big_quiet_step (first
              | (go_at_call 23; exact rgX hZ fun w' h => jhear_ch me nn si tr id ch hk 0 0 fr w' J1.out HT.out HID.out HFO.out (by have := Q0.out; omega) (by have := Q1.out; omega))))
            exact wpQuiet_nil hQ9
          case ha2 =>
            intro i hi o ho w' hw'
            simp only [List.mem_cons, List.not_mem_nil, or_false] at hi
            rcases hi with rfl | rfl <;> (simp only [List.getElem?_cons_succ, List.getElem?_cons_zero, Option.some.injEq] at ho; subst ho; go_simp)
          case hl2 =>
            intro j hj o ho
            simp only [List.mem_cons, List.not_mem_nil, or_false] at hj
            rcases hj with rfl | rfl
            all_goals (
              simp only [List.getElem?_cons_succ, List.getElem?_cons_zero, Option.some.injEq] at ho
              subst ho
              refine ⟨fun w' hw' => by go_simp, fun t ht => ?_⟩
              simp only [Option.some.injEq] at ht
              subst ht
              rfl)
          intro π z2 hz2 hπ hπd
          simp only [List.filterMap_cons, List.filterMap_nil, List.getElem?_cons_zero, List.getElem?_cons_succ, putsA, Option.bind_some, Act.put, List.setIfInBounds_toArray, List.set_cons_zero, List.set_cons_succ]
          refine ⟨trivial, ?_⟩
          show wpListS _ _ _ _ [_, _, _] _ _
          clear x0 kx0 x1 kx1 x2 kx2 x3 kx3 x4 kx4 x5 kx5 x6 kx6 x7 kx7 g0 kg0 g1 kg1 g2 kg2 g3 kg3 g4 kg4 g5 kg5
          replace Tx := Tx.keep hz2
          replace BB := bstep BB hz2
          have hpn := hπ 15 (by simp)
          have Tn : CAt z2 (π 15) [.int .i64 0, .int .i64 0, .int .i64 0, .int .i64 0, .int .i64 0] := fun j v hj => cell_blk hpn.1 (by simpa using hj)
          have Fn : Fz z2 (π 15) := ⟨fun j => frz_blk hpn.1, (Array.getElem?_eq_some_iff.1 hpn.1).1⟩
          have hln := hpn.2
          have hpm := hπ 16 (by simp)
          have Tm : CAt z2 (π 16) [.int .i64 0, .int .i64 0, .int .i64 0, .int .i64 0, .int .i64 0, .int .i64 0, .int .i64 0, .int .i64 0] := fun j v hj => cell_blk hpm.1 (by simpa using hj)
          have Fm : Fz z2 (π 16) := ⟨fun j => frz_blk hpm.1, (Array.getElem?_eq_some_iff.1 hpm.1).1⟩
          have hlm := hpm.2
          have nenm : ¬ π 15 = π 16 := fun h => by have := hπd 15 (by simp) 16 (by simp) h; omega
          have nemn : ¬ π 16 = π 15 := fun h => nenm h.symm
          clear hπ hπd hpn hpm hz2
          obtain ⟨pn, en⟩ : ∃ q, π 15 = q := ⟨_, rfl⟩
          rw [en] at Tn Fn hln nenm nemn ⊢
          clear en
          obtain ⟨pm, em⟩ : ∃ q, π 16 = q := ⟨_, rfl⟩
          rw [em] at Tm Fm hlm nenm nemn ⊢
          clear em
          have n0 := Tn 0 _ rfl
          have fn0 := Fn.1 0
          have n1 := Tn 1 _ rfl
          have fn1 := Fn.1 1
          have n2 := Tn 2 _ rfl
          have fn2 := Fn.1 2
          have n3 := Tn 3 _ rfl
          have fn3 := Fn.1 3
          have n4 := Tn 4 _ rfl
          have fn4 := Fn.1 4
          refine listS_step rfl fun K9 hK9 => ?_
          go_simp
          refine hK9 _ _ trivial ?_
          clear hK9 K9
          clear n0 fn0 n1 fn1 n2 fn2 n3 fn3 n4 fn4
          replace Tn := Tn.set 0 (.int .i64 2) (by simp)
          replace Tx := Tx.other (k' := pn) (by omega) 0 (.int .i64 2)
          replace Tm := Tm.other (k' := pn) (by omega) 0 (.int .i64 2)
          replace Fn := Fn.set ⟨pn, 0, none⟩ (.int .i64 2)
          replace Fm := Fm.set ⟨pn, 0, none⟩ (.int .i64 2)
          replace BB := BB.setCell (p := ⟨pn, 0, none⟩) (by first | exact Nat.le_refl _ | (simp only; omega)) (.int .i64 2)
          replace Tn := Tn.set 1 (.int .i64 me) (by simp)
          replace Tx := Tx.other (k' := pn) (by omega) 1 (.int .i64 me)
          replace Tm := Tm.other (k' := pn) (by omega) 1 (.int .i64 me)
          replace Fn := Fn.set ⟨pn, 1, none⟩ (.int .i64 me)
          replace Fm := Fm.set ⟨pn, 1, none⟩ (.int .i64 me)
          replace BB := BB.setCell (p := ⟨pn, 1, none⟩) (by first | exact Nat.le_refl _ | (simp only; omega)) (.int .i64 me)
          replace Tn := Tn.set 2 (.int .i64 nn) (by simp)
          replace Tx := Tx.other (k' := pn) (by omega) 2 (.int .i64 nn)
          replace Tm := Tm.other (k' := pn) (by omega) 2 (.int .i64 nn)
          replace Fn := Fn.set ⟨pn, 2, none⟩ (.int .i64 nn)
          replace Fm := Fm.set ⟨pn, 2, none⟩ (.int .i64 nn)
          replace BB := BB.setCell (p := ⟨pn, 2, none⟩) (by first | exact Nat.le_refl _ | (simp only; omega)) (.int .i64 nn)
          replace Tn := Tn.set 3 (.int .i64 si) (by simp)
          replace Tx := Tx.other (k' := pn) (by omega) 3 (.int .i64 si)
          replace Tm := Tm.other (k' := pn) (by omega) 3 (.int .i64 si)
          replace Fn := Fn.set ⟨pn, 3, none⟩ (.int .i64 si)
          replace Fm := Fm.set ⟨pn, 3, none⟩ (.int .i64 si)
          replace BB := BB.setCell (p := ⟨pn, 3, none⟩) (by first | exact Nat.le_refl _ | (simp only; omega)) (.int .i64 si)
          replace Tn := Tn.set 4 (.int .i64 tr) (by simp)
          replace Tx := Tx.other (k' := pn) (by omega) 4 (.int .i64 tr)
          replace Tm := Tm.other (k' := pn) (by omega) 4 (.int .i64 tr)
          replace Fn := Fn.set ⟨pn, 4, none⟩ (.int .i64 tr)
          replace Fm := Fm.set ⟨pn, 4, none⟩ (.int .i64 tr)
          replace BB := BB.setCell (p := ⟨pn, 4, none⟩) (by first | exact Nat.le_refl _ | (simp only; omega)) (.int .i64 tr)
          obtain ⟨V3, hV3⟩ : ∃ V3, ((((z2.setCell ⟨pn, 0, none⟩ (.int .i64 2)).setCell ⟨pn, 1, none⟩ (.int .i64 me)).setCell ⟨pn, 2, none⟩ (.int .i64 nn)).setCell ⟨pn, 3, none⟩ (.int .i64 si)).setCell ⟨pn, 4, none⟩ (.int .i64 tr) = V3 := ⟨_, rfl⟩
          rw [hV3] at BB Tx Tn Tm Fn Fm ⊢
          clear hV3
          have m0 := Tm 0 _ rfl
          have fm0 := Fm.1 0
          have m1 := Tm 1 _ rfl
          have fm1 := Fm.1 1
          have m2 := Tm 2 _ rfl
          have fm2 := Fm.1 2
          have m3 := Tm 3 _ rfl
          have fm3 := Fm.1 3
          have m4 := Tm 4 _ rfl
          have fm4 := Fm.1 4
          have m5 := Tm 5 _ rfl
          have fm5 := Fm.1 5
          have m6 := Tm 6 _ rfl
          have fm6 := Fm.1 6
          have m7 := Tm 7 _ rfl
          have fm7 := Fm.1 7
          refine listS_step rfl fun K9 hK9 => ?_
          go_simp
          refine hK9 _ _ trivial ?_
          clear hK9 K9
          clear m0 fm0 m1 fm1 m2 fm2 m3 fm3 m4 fm4 m5 fm5 m6 fm6 m7 fm7
          replace Tm := Tm.set 0 (.int .i64 3) (by simp)
          replace Tx := Tx.other (k' := pm) (by omega) 0 (.int .i64 3)
          replace Tn := Tn.other (k' := pm) (by omega) 0 (.int .i64 3)
          replace Fn := Fn.set ⟨pm, 0, none⟩ (.int .i64 3)
          replace Fm := Fm.set ⟨pm, 0, none⟩ (.int .i64 3)
          replace BB := BB.setCell (p := ⟨pm, 0, none⟩) (by first | exact Nat.le_refl _ | (simp only; omega)) (.int .i64 3)
          replace Tm := Tm.set 1 (.int .i64 id) (by simp)
          replace Tx := Tx.other (k' := pm) (by omega) 1 (.int .i64 id)
          replace Tn := Tn.other (k' := pm) (by omega) 1 (.int .i64 id)
          replace Fn := Fn.set ⟨pm, 1, none⟩ (.int .i64 id)
          replace Fm := Fm.set ⟨pm, 1, none⟩ (.int .i64 id)
          replace BB := BB.setCell (p := ⟨pm, 1, none⟩) (by first | exact Nat.le_refl _ | (simp only; omega)) (.int .i64 id)
          replace Tm := Tm.set 2 (.int .i64 me) (by simp)
          replace Tx := Tx.other (k' := pm) (by omega) 2 (.int .i64 me)
          replace Tn := Tn.other (k' := pm) (by omega) 2 (.int .i64 me)
          replace Fn := Fn.set ⟨pm, 2, none⟩ (.int .i64 me)
          replace Fm := Fm.set ⟨pm, 2, none⟩ (.int .i64 me)
          replace BB := BB.setCell (p := ⟨pm, 2, none⟩) (by first | exact Nat.le_refl _ | (simp only; omega)) (.int .i64 me)
          replace Tm := Tm.set 3 (.int .i64 nn) (by simp)
          replace Tx := Tx.other (k' := pm) (by omega) 3 (.int .i64 nn)
          replace Tn := Tn.other (k' := pm) (by omega) 3 (.int .i64 nn)
          replace Fn := Fn.set ⟨pm, 3, none⟩ (.int .i64 nn)
          replace Fm := Fm.set ⟨pm, 3, none⟩ (.int .i64 nn)
          replace BB := BB.setCell (p := ⟨pm, 3, none⟩) (by first | exact Nat.le_refl _ | (simp only; omega)) (.int .i64 nn)
          replace Tm := Tm.set 4 (.int .i64 ch) (by simp)
          replace Tx := Tx.other (k' := pm) (by omega) 4 (.int .i64 ch)
          replace Tn := Tn.other (k' := pm) (by omega) 4 (.int .i64 ch)
          replace Fn := Fn.set ⟨pm, 4, none⟩ (.int .i64 ch)
          replace Fm := Fm.set ⟨pm, 4, none⟩ (.int .i64 ch)
          replace BB := BB.setCell (p := ⟨pm, 4, none⟩) (by first | exact Nat.le_refl _ | (simp only; omega)) (.int .i64 ch)
          replace Tm := Tm.set 5 (.int .i64 (1000000 + id)) (by simp)
          replace Tx := Tx.other (k' := pm) (by omega) 5 (.int .i64 (1000000 + id))
          replace Tn := Tn.other (k' := pm) (by omega) 5 (.int .i64 (1000000 + id))
          replace Fn := Fn.set ⟨pm, 5, none⟩ (.int .i64 (1000000 + id))
          replace Fm := Fm.set ⟨pm, 5, none⟩ (.int .i64 (1000000 + id))
          replace BB := BB.setCell (p := ⟨pm, 5, none⟩) (by first | exact Nat.le_refl _ | (simp only; omega)) (.int .i64 (1000000 + id))
          replace Tm := Tm.set 6 (.int .i64 0) (by simp)
          replace Tx := Tx.other (k' := pm) (by omega) 6 (.int .i64 0)
          replace Tn := Tn.other (k' := pm) (by omega) 6 (.int .i64 0)
          replace Fn := Fn.set ⟨pm, 6, none⟩ (.int .i64 0)
          replace Fm := Fm.set ⟨pm, 6, none⟩ (.int .i64 0)
          replace BB := BB.setCell (p := ⟨pm, 6, none⟩) (by first | exact Nat.le_refl _ | (simp only; omega)) (.int .i64 0)
          replace Tm := Tm.set 7 (.int .i64 0) (by simp)
          replace Tx := Tx.other (k' := pm) (by omega) 7 (.int .i64 0)
          replace Tn := Tn.other (k' := pm) (by omega) 7 (.int .i64 0)
          replace Fn := Fn.set ⟨pm, 7, none⟩ (.int .i64 0)
          replace Fm := Fm.set ⟨pm, 7, none⟩ (.int .i64 0)
          replace BB := BB.setCell (p := ⟨pm, 7, none⟩) (by first | exact Nat.le_refl _ | (simp only; omega)) (.int .i64 0)
          obtain ⟨V4, hV4⟩ : ∃ V4, (((((((V3.setCell ⟨pm, 0, none⟩ (.int .i64 3)).setCell ⟨pm, 1, none⟩ (.int .i64 id)).setCell ⟨pm, 2, none⟩ (.int .i64 me)).setCell ⟨pm, 3, none⟩ (.int .i64 nn)).setCell ⟨pm, 4, none⟩ (.int .i64 ch)).setCell ⟨pm, 5, none⟩ (.int .i64 (1000000 + id))).setCell ⟨pm, 6, none⟩ (.int .i64 0)).setCell ⟨pm, 7, none⟩ (.int .i64 0) = V4 := ⟨_, rfl⟩
          rw [hV4] at BB Tx Tn Tm Fn Fm ⊢
          clear hV4
          refine listS_step rfl fun K9 hK9 => ?_
          go_simp
          refine hK9 _ _ trivial ?_
          clear hK9 K9
          unfold wpListS noPanic
          have n0 := Tn 0 _ rfl
          have fn0 := Fn.1 0
          have n1 := Tn 1 _ rfl
          have fn1 := Fn.1 1
          have n2 := Tn 2 _ rfl
          have fn2 := Fn.1 2
          have n3 := Tn 3 _ rfl
          have fn3 := Fn.1 3
          have n4 := Tn 4 _ rfl
          have fn4 := Fn.1 4
          have FK2 := FK.keep BB
          have e1 := FK2.1 (o + 1); have e2 := FK2.1 (o + 2); have e3 := FK2.1 (o + 3); have e4 := FK2.1 (o + 4); have e5 := FK2.1 (o + 5)
          obtain ⟨g0, g1, g2, g3, g4, g5⟩ := SGr.keep BB
          simp only at g0 g1 g2 g3 g4 g5
          go_upto_region 7 with (fail)
          clear n0 fn0 n1 fn1 n2 fn2 n3 fn3 n4 fn4
          clear g0 g1 g2 g3 g4 g5 e1 e2 e3 e4 e5 FK2
          have Tm9 := Tm.grown (Tch.put V4 k o ⟨2, me, nn, si, tr⟩).g (fun e => by have := Option.some.inj e; have := FK.2; omega)
          have hl9 := ((hl.tch TT hap).keep BB).tch (Tch.put V4 k o ⟨2, me, nn, si, tr⟩) hap
          have SG9 := Sg.put (SGr.keep BB) ⟨2, me, nn, si, tr⟩
          have TT9 := Tch.trans (Tch.of BB FK.2) (Tch.put V4 k o ⟨2, me, nn, si, tr⟩)
          obtain ⟨V9, hV9⟩ : ∃ V9, ((((V4.setCell ⟨k, o + 1, none⟩ (.int .i64 (2))).setCell ⟨k, o + 1 + 1, none⟩ (.int .i64 (me))).setCell ⟨k, o + 1 + 2, none⟩ (.int .i64 (nn))).setCell ⟨k, o + 1 + 3, none⟩ (.int .i64 (si))).setCell ⟨k, o + 1 + 4, none⟩ (.int .i64 (tr)) = V9 := ⟨_, rfl⟩
          rw [show putJ V4 k o ⟨2, me, nn, si, tr⟩ = V9 from hV9] at SG9 TT9 Tm9 hl9
          rw [hV9]
          clear hV9
          have m0 := Tm9 0 _ rfl; have m1' := Tm9 1 _ rfl; have m2 := Tm9 2 _ rfl; have m3 := Tm9 3 _ rfl; have m4 := Tm9 4 _ rfl; have m5 := Tm9 5 _ rfl; have m6 := Tm9 6 _ rfl; have m7 := Tm9 7 _ rfl
          go_wp2_with fail
          clear m0 m1' m2 m3 m4 m5 m6 m7
          have hkk : inB (1000000 + id) 2000000 = true := by have := HID.out; unfold nodeB at this; unfold inB; simp only [decide_eq_true_eq] at this ⊢; omega
          have hfp : formedB ⟨3, id, me, nn, ch, 1000000 + id, 0, 0⟩ = true := by have := HFO.out; unfold formedB at this ⊢; simpa using this
          refine (hear_proof l nl a cap me fr V9 id nn ch (1000000 + id) 0 0 ⟨id, nn, ch, u, false, hk⟩ OK.out hq hl9 HFR.out hfp hkk HF.out rfl rfl).mono ?_
          rintro e w8 ⟨L8, a8, m8, c8, ⟨hok8, hL8⟩, rfl, hm8, hl8, b8, f8⟩
          have hLL : L8 = L := by rw [hL8, HLL.out]
          subst hLL
          have TT8 := (TT.trans TT9).step SG9.lt b8
          have S8 := SG9.keep b8
          have f9 := f8.le (Nat.le_trans T1.size (TT.trans TT9).size)
          clear hl9 hL8 Tm9 TT9 SG9 b8 f8 Tn Fn Tm Fm Tx hlm hln BB hkk hfp
          go_wp2_with fail
          go_roundw
          case rel => exact ⟨i + 1, by omega, by go_num, TT8, .inr ⟨by omega, _, _, _, rfl, hm8, hl8, f9, S8⟩⟩
          case measure => simp [intOf]; omega
      
      · have hxs := hot (by omega)
        have HNO : Hid (¬ (x.s = id ∧ x.p = me ∧ x.n = nn)) := Lib.hid (fun h => hxs h.1)
        clear hxs hot hpx
        have BB : Below wr.heap.size wr wr := Below.refl _ _
        go_upto_region 4 with (fail)
        clear c0 c1' c2 c3 c4 c5 c6 c7
        have S2 := SGr
        have Tx := CAt.new (wr) [.int .i64 x.k, .int .i64 x.s, .int .i64 x.p, .int .i64 x.n, .int .i64 x.c, .int .i64 x.key, .int .i64 x.f, .int .i64 x.x] 43
        replace S2 := S2.keep (Below.alloc (Below.refl _ (wr)) (Nat.le_refl _) (.cells #[.int .i64 x.k, .int .i64 x.s, .int .i64 x.p, .int .i64 x.n, .int .i64 x.c, .int .i64 x.key, .int .i64 x.f, .int .i64 x.x] 43))
        replace BB := ball BB (.cells #[.int .i64 x.k, .int .i64 x.s, .int .i64 x.p, .int .i64 x.n, .int .i64 x.c, .int .i64 x.key, .int .i64 x.f, .int .i64 x.x] 43)
        obtain ⟨V1, hV1⟩ : ∃ V1, wr.alloc (.cells #[.int .i64 x.k, .int .i64 x.s, .int .i64 x.p, .int .i64 x.n, .int .i64 x.c, .int .i64 x.key, .int .i64 x.f, .int .i64 x.x] 43) = V1 := ⟨_, rfl⟩
        rw [hV1] at BB Tx S2 ⊢
        clear hV1
        obtain ⟨g0, g1, g2, g3, g4, g5⟩ := S2
        simp only at g0 g1 g2 g3 g4 g5
        have bs2 : wr.heap.size ≤ V1.heap.size := BB.size
        have lt2x : wr.heap.size < V1.heap.size := World.block_lt_of_cell? V1 ⟨wr.heap.size, 0, none⟩ (Tx 0 _ rfl)
        have x0 := Tx 0 _ rfl
        have kx0 := cell_regrown x0
        have x1 := Tx 1 _ rfl
        have kx1 := cell_regrown x1
        have x2 := Tx 2 _ rfl
        have kx2 := cell_regrown x2
        have x3 := Tx 3 _ rfl
        have kx3 := cell_regrown x3
        have x4 := Tx 4 _ rfl
        have kx4 := cell_regrown x4
        have x5 := Tx 5 _ rfl
        have kx5 := cell_regrown x5
        have x6 := Tx 6 _ rfl
        have kx6 := cell_regrown x6
        have x7 := Tx 7 _ rfl
        have kx7 := cell_regrown x7
        have kg0 := cell_regrown g0
        have kg1 := cell_regrown g1
        have kg2 := cell_regrown g2
        have kg3 := cell_regrown g3
        have kg4 := cell_regrown g4
        have kg5 := cell_regrown g5
        refine' wp_region_late' [0, 1, 2, 3, 4, 5, 6, 7, 8, 9, 10, 11, 12, 13, 14] [15, 16] [17, 18, 19] [13, 14] (by kernel_rfl) (by kernel_rfl) _
          (fun w' => True) (fun lx => if lx = 13 then zWd.v else if lx = 14 then .bool false else undef)
          (fun Z hZ hN => quiet_hole ?hq3) (fun i => if i = 15 then (.cells #[.int .i64 0, .int .i64 0, .int .i64 0, .int .i64 0, .int .i64 0] 28) else (.cells #[.int .i64 0, .int .i64 0, .int .i64 0, .int .i64 0, .int .i64 0, .int .i64 0, .int .i64 0, .int .i64 0] 43)) (fun _ p => .pointer (some ⟨p, 0, none⟩)) ?ha3 ?hl3 ?ht3
        case hq3 =>
          intro Q9 hQ9
          show wpQuiet _ _ _ _ [_, _, _, _, _, _, _, _, _, _, _, _, _, _, _] _
          repeat (go_big_quiet_step (first
            | (go_at_call 23; exact rgX hZ fun w' h => jhear_no 2 me nn si tr id x.k x.s x.p x.n x.c x.key x.f x.x fr w' J2.out HT.out HID.out HFO.out (by have := Q0.out; omega) (by have := Q1.out; omega) HNO.out)))
          exact wpQuiet_nil hQ9
        case ha3 =>
          intro i hi o ho w' hw'
          simp only [List.mem_cons, List.not_mem_nil, or_false] at hi
          rcases hi with rfl | rfl <;> (simp only [List.getElem?_cons_succ, List.getElem?_cons_zero, Option.some.injEq] at ho; subst ho; go_simp)
        case hl3 =>
          intro j hj o ho
          simp only [List.mem_cons, List.not_mem_nil, or_false] at hj
          rcases hj with rfl | rfl
          all_goals (
            simp only [List.getElem?_cons_succ, List.getElem?_cons_zero, Option.some.injEq] at ho
            subst ho
            refine ⟨fun w' hw' => by go_simp, fun t ht => ?_⟩
            simp only [Option.some.injEq] at ht
            subst ht
            rfl)
        intro π z2 hz2 hπ hπd
        simp only [List.filterMap_cons, List.filterMap_nil, List.getElem?_cons_zero, List.getElem?_cons_succ, putsA, Option.bind_some, Act.put, List.setIfInBounds_toArray, List.set_cons_zero, List.set_cons_succ]
        refine ⟨trivial, ?_⟩
        show wpListS _ _ _ _ [_, _, _] _ _
        clear x0 kx0 x1 kx1 x2 kx2 x3 kx3 x4 kx4 x5 kx5 x6 kx6 x7 kx7 g0 kg0 g1 kg1 g2 kg2 g3 kg3 g4 kg4 g5 kg5
        replace Tx := Tx.keep hz2
        replace BB := bstep BB hz2
        have hpn := hπ 15 (by simp)
        have Tn : CAt z2 (π 15) [.int .i64 0, .int .i64 0, .int .i64 0, .int .i64 0, .int .i64 0] := fun j v hj => cell_blk hpn.1 (by simpa using hj)
        have Fn : Fz z2 (π 15) := ⟨fun j => frz_blk hpn.1, (Array.getElem?_eq_some_iff.1 hpn.1).1⟩
        have hln := hpn.2
        have hpm := hπ 16 (by simp)
        have Tm : CAt z2 (π 16) [.int .i64 0, .int .i64 0, .int .i64 0, .int .i64 0, .int .i64 0, .int .i64 0, .int .i64 0, .int .i64 0] := fun j v hj => cell_blk hpm.1 (by simpa using hj)
        have Fm : Fz z2 (π 16) := ⟨fun j => frz_blk hpm.1, (Array.getElem?_eq_some_iff.1 hpm.1).1⟩
        have hlm := hpm.2
        have nenm : ¬ π 15 = π 16 := fun h => by have := hπd 15 (by simp) 16 (by simp) h; omega
        have nemn : ¬ π 16 = π 15 := fun h => nenm h.symm
        clear hπ hπd hpn hpm hz2
        obtain ⟨pn, en⟩ : ∃ q, π 15 = q := ⟨_, rfl⟩
        rw [en] at Tn Fn hln nenm nemn ⊢
        clear en
        obtain ⟨pm, em⟩ : ∃ q, π 16 = q := ⟨_, rfl⟩
        rw [em] at Tm Fm hlm nenm nemn ⊢
        clear em
        have n0 := Tn 0 _ rfl
        have fn0 := Fn.1 0
        have n1 := Tn 1 _ rfl
        have fn1 := Fn.1 1
        have n2 := Tn 2 _ rfl
        have fn2 := Fn.1 2
        have n3 := Tn 3 _ rfl
        have fn3 := Fn.1 3
        have n4 := Tn 4 _ rfl
        have fn4 := Fn.1 4
        refine listS_step rfl fun K9 hK9 => ?_
        go_simp
        refine hK9 _ _ trivial ?_
        clear hK9 K9
        clear n0 fn0 n1 fn1 n2 fn2 n3 fn3 n4 fn4
        replace Tn := Tn.set 0 (.int .i64 2) (by simp)
        replace Tx := Tx.other (k' := pn) (by omega) 0 (.int .i64 2)
        replace Tm := Tm.other (k' := pn) (by omega) 0 (.int .i64 2)
        replace Fn := Fn.set ⟨pn, 0, none⟩ (.int .i64 2)
        replace Fm := Fm.set ⟨pn, 0, none⟩ (.int .i64 2)
        replace BB := BB.setCell (p := ⟨pn, 0, none⟩) (by first | exact Nat.le_refl _ | (simp only; omega)) (.int .i64 2)
        replace Tn := Tn.set 1 (.int .i64 me) (by simp)
        replace Tx := Tx.other (k' := pn) (by omega) 1 (.int .i64 me)
        replace Tm := Tm.other (k' := pn) (by omega) 1 (.int .i64 me)
        replace Fn := Fn.set ⟨pn, 1, none⟩ (.int .i64 me)
        replace Fm := Fm.set ⟨pn, 1, none⟩ (.int .i64 me)
        replace BB := BB.setCell (p := ⟨pn, 1, none⟩) (by first | exact Nat.le_refl _ | (simp only; omega)) (.int .i64 me)
        replace Tn := Tn.set 2 (.int .i64 nn) (by simp)
        replace Tx := Tx.other (k' := pn) (by omega) 2 (.int .i64 nn)
        replace Tm := Tm.other (k' := pn) (by omega) 2 (.int .i64 nn)
        replace Fn := Fn.set ⟨pn, 2, none⟩ (.int .i64 nn)
        replace Fm := Fm.set ⟨pn, 2, none⟩ (.int .i64 nn)
        replace BB := BB.setCell (p := ⟨pn, 2, none⟩) (by first | exact Nat.le_refl _ | (simp only; omega)) (.int .i64 nn)
        replace Tn := Tn.set 3 (.int .i64 si) (by simp)
        replace Tx := Tx.other (k' := pn) (by omega) 3 (.int .i64 si)
        replace Tm := Tm.other (k' := pn) (by omega) 3 (.int .i64 si)
        replace Fn := Fn.set ⟨pn, 3, none⟩ (.int .i64 si)
        replace Fm := Fm.set ⟨pn, 3, none⟩ (.int .i64 si)
        replace BB := BB.setCell (p := ⟨pn, 3, none⟩) (by first | exact Nat.le_refl _ | (simp only; omega)) (.int .i64 si)
        replace Tn := Tn.set 4 (.int .i64 tr) (by simp)
        replace Tx := Tx.other (k' := pn) (by omega) 4 (.int .i64 tr)
        replace Tm := Tm.other (k' := pn) (by omega) 4 (.int .i64 tr)
        replace Fn := Fn.set ⟨pn, 4, none⟩ (.int .i64 tr)
        replace Fm := Fm.set ⟨pn, 4, none⟩ (.int .i64 tr)
        replace BB := BB.setCell (p := ⟨pn, 4, none⟩) (by first | exact Nat.le_refl _ | (simp only; omega)) (.int .i64 tr)
        obtain ⟨V3, hV3⟩ : ∃ V3, ((((z2.setCell ⟨pn, 0, none⟩ (.int .i64 2)).setCell ⟨pn, 1, none⟩ (.int .i64 me)).setCell ⟨pn, 2, none⟩ (.int .i64 nn)).setCell ⟨pn, 3, none⟩ (.int .i64 si)).setCell ⟨pn, 4, none⟩ (.int .i64 tr) = V3 := ⟨_, rfl⟩
        rw [hV3] at BB Tx Tn Tm Fn Fm ⊢
        clear hV3
        have m0 := Tm 0 _ rfl
        have fm0 := Fm.1 0
        have m1 := Tm 1 _ rfl
        have fm1 := Fm.1 1
        have m2 := Tm 2 _ rfl
        have fm2 := Fm.1 2
        have m3 := Tm 3 _ rfl
        have fm3 := Fm.1 3
        have m4 := Tm 4 _ rfl
        have fm4 := Fm.1 4
        have m5 := Tm 5 _ rfl
        have fm5 := Fm.1 5
        have m6 := Tm 6 _ rfl
        have fm6 := Fm.1 6
        have m7 := Tm 7 _ rfl
        have fm7 := Fm.1 7
        refine listS_step rfl fun K9 hK9 => ?_
        go_simp
        refine hK9 _ _ trivial ?_
        clear hK9 K9
        clear m0 fm0 m1 fm1 m2 fm2 m3 fm3 m4 fm4 m5 fm5 m6 fm6 m7 fm7
        replace Tm := Tm.set 0 (.int .i64 0) (by simp)
        replace Tx := Tx.other (k' := pm) (by omega) 0 (.int .i64 0)
        replace Tn := Tn.other (k' := pm) (by omega) 0 (.int .i64 0)
        replace Fn := Fn.set ⟨pm, 0, none⟩ (.int .i64 0)
        replace Fm := Fm.set ⟨pm, 0, none⟩ (.int .i64 0)
        replace BB := BB.setCell (p := ⟨pm, 0, none⟩) (by first | exact Nat.le_refl _ | (simp only; omega)) (.int .i64 0)
        replace Tm := Tm.set 1 (.int .i64 0) (by simp)
        replace Tx := Tx.other (k' := pm) (by omega) 1 (.int .i64 0)
        replace Tn := Tn.other (k' := pm) (by omega) 1 (.int .i64 0)
        replace Fn := Fn.set ⟨pm, 1, none⟩ (.int .i64 0)
        replace Fm := Fm.set ⟨pm, 1, none⟩ (.int .i64 0)
        replace BB := BB.setCell (p := ⟨pm, 1, none⟩) (by first | exact Nat.le_refl _ | (simp only; omega)) (.int .i64 0)
        replace Tm := Tm.set 2 (.int .i64 0) (by simp)
        replace Tx := Tx.other (k' := pm) (by omega) 2 (.int .i64 0)
        replace Tn := Tn.other (k' := pm) (by omega) 2 (.int .i64 0)
        replace Fn := Fn.set ⟨pm, 2, none⟩ (.int .i64 0)
        replace Fm := Fm.set ⟨pm, 2, none⟩ (.int .i64 0)
        replace BB := BB.setCell (p := ⟨pm, 2, none⟩) (by first | exact Nat.le_refl _ | (simp only; omega)) (.int .i64 0)
        replace Tm := Tm.set 3 (.int .i64 0) (by simp)
        replace Tx := Tx.other (k' := pm) (by omega) 3 (.int .i64 0)
        replace Tn := Tn.other (k' := pm) (by omega) 3 (.int .i64 0)
        replace Fn := Fn.set ⟨pm, 3, none⟩ (.int .i64 0)
        replace Fm := Fm.set ⟨pm, 3, none⟩ (.int .i64 0)
        replace BB := BB.setCell (p := ⟨pm, 3, none⟩) (by first | exact Nat.le_refl _ | (simp only; omega)) (.int .i64 0)
        replace Tm := Tm.set 4 (.int .i64 0) (by simp)
        replace Tx := Tx.other (k' := pm) (by omega) 4 (.int .i64 0)
        replace Tn := Tn.other (k' := pm) (by omega) 4 (.int .i64 0)
        replace Fn := Fn.set ⟨pm, 4, none⟩ (.int .i64 0)
        replace Fm := Fm.set ⟨pm, 4, none⟩ (.int .i64 0)
        replace BB := BB.setCell (p := ⟨pm, 4, none⟩) (by first | exact Nat.le_refl _ | (simp only; omega)) (.int .i64 0)
        replace Tm := Tm.set 5 (.int .i64 0) (by simp)
        replace Tx := Tx.other (k' := pm) (by omega) 5 (.int .i64 0)
        replace Tn := Tn.other (k' := pm) (by omega) 5 (.int .i64 0)
        replace Fn := Fn.set ⟨pm, 5, none⟩ (.int .i64 0)
        replace Fm := Fm.set ⟨pm, 5, none⟩ (.int .i64 0)
        replace BB := BB.setCell (p := ⟨pm, 5, none⟩) (by first | exact Nat.le_refl _ | (simp only; omega)) (.int .i64 0)
        replace Tm := Tm.set 6 (.int .i64 0) (by simp)
        replace Tx := Tx.other (k' := pm) (by omega) 6 (.int .i64 0)
        replace Tn := Tn.other (k' := pm) (by omega) 6 (.int .i64 0)
        replace Fn := Fn.set ⟨pm, 6, none⟩ (.int .i64 0)
        replace Fm := Fm.set ⟨pm, 6, none⟩ (.int .i64 0)
        replace BB := BB.setCell (p := ⟨pm, 6, none⟩) (by first | exact Nat.le_refl _ | (simp only; omega)) (.int .i64 0)
        replace Tm := Tm.set 7 (.int .i64 0) (by simp)
        replace Tx := Tx.other (k' := pm) (by omega) 7 (.int .i64 0)
        replace Tn := Tn.other (k' := pm) (by omega) 7 (.int .i64 0)
        replace Fn := Fn.set ⟨pm, 7, none⟩ (.int .i64 0)
        replace Fm := Fm.set ⟨pm, 7, none⟩ (.int .i64 0)
        replace BB := BB.setCell (p := ⟨pm, 7, none⟩) (by first | exact Nat.le_refl _ | (simp only; omega)) (.int .i64 0)
        obtain ⟨V4, hV4⟩ : ∃ V4, (((((((V3.setCell ⟨pm, 0, none⟩ (.int .i64 0)).setCell ⟨pm, 1, none⟩ (.int .i64 0)).setCell ⟨pm, 2, none⟩ (.int .i64 0)).setCell ⟨pm, 3, none⟩ (.int .i64 0)).setCell ⟨pm, 4, none⟩ (.int .i64 0)).setCell ⟨pm, 5, none⟩ (.int .i64 0)).setCell ⟨pm, 6, none⟩ (.int .i64 0)).setCell ⟨pm, 7, none⟩ (.int .i64 0) = V4 := ⟨_, rfl⟩
        rw [hV4] at BB Tx Tn Tm Fn Fm ⊢
        clear hV4
        refine listS_step rfl fun K9 hK9 => ?_
        go_simp
        refine hK9 _ _ trivial ?_
        clear hK9 K9
        unfold wpListS noPanic
        go_wp2_with fail
        clear Tn Fn Tm Fm Tx hlm hln
        have TT2 := TT.step FK.2 BB
        have S3 := SGr.keep BB
        have hl3 := hl'.keep BB
        go_roundw
        case rel => exact ⟨i + 1, by omega, by go_num, TT2, .inr ⟨by omega, _, _, _, rfl, hm', hl3, hf', S3⟩⟩
        case measure => simp [intOf]; omega
    · have hin : i = m1 := by omega
      subst hin
      have hlt' : ¬ (i : Int) < (i : Int) := by omega
      rcases hrel with ⟨hip, rfl, SGr⟩ | ⟨hpi, a', m', c', rfl, hm', hl', hf', SGr⟩
      · omega
      · go_wp2_with fail
        go_ret
        exact ⟨_, _, _, rfl, hm', hl', hf', SGr, T1.trans TT⟩
end Go.Proofs.YtgmabjlehjpboaaDoor
