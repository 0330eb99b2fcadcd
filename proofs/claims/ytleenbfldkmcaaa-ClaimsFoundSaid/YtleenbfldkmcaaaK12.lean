/- Proved: what claims.Yield returns. Conditions: the table and what was heard lie in memory, the table is short. -/
import Derived.Test.YtleenbfldkmcaaaK11
import Derived.Test.YtleenbfldkmcaaaK8
namespace Go.Proofs.Ytleenbfldkmcaaa
open Go.RowKit Go.Sort Go.BigFrame
set_option linter.unusedVariables false
set_option linter.unusedSimpArgs false
attribute [local go_sem] cell_alloc_old

theorem told_mk (a : Option Addr) (n cap : Nat) (fr cs co : Int) (gr : Bool) (w : World) : Calls Try.prog 26 #[.slice a n cap, .int .i64 fr, .agg #[.int .i64 cs, .int .i64 co], .bool gr] w fun e w' =>
    e = .returned (.func (.func 31) #[] #[.pointer (some ⟨w.heap.size, 0, none⟩), .pointer (some ⟨w.heap.size + 1, 0, none⟩), .pointer (some ⟨w.heap.size + 3, 0, none⟩), .pointer (some ⟨w.heap.size + 2, 0, none⟩)]) ∧
    (((w.alloc (.cells #[.slice a n cap] 27)).alloc (.cells #[.int .i64 fr] 3)).alloc (.cells #[.int .i64 cs, .int .i64 co] 41)).alloc (.cells #[.bool gr] 4) = w' := by
  go_enter Try.func26, Try.ntmps26
  go_wp2
  go_ret
  exact ⟨rfl, rfl⟩
/-- .. as what beaten needs. -/
theorem told_at (a : Option Addr) (n cap : Nat) (fr cs co : Int) (gr : Bool) (N : List Nv) (w : World) (hl : NsAt w a N) : Calls Try.prog 26 #[.slice a n cap, .int .i64 fr, .agg #[.int .i64 cs, .int .i64 co], .bool gr] w fun e w' =>
    ∃ bn bf bg bc, e = .returned (.func (.func 31) #[] #[.pointer (some ⟨bn, 0, none⟩), .pointer (some ⟨bf, 0, none⟩), .pointer (some ⟨bg, 0, none⟩), .pointer (some ⟨bc, 0, none⟩)]) ∧ Nds bn bf bg bc gr cs co fr a n cap N w' ∧ Below w.heap.size w w' := by
  refine (told_mk a n cap fr cs co gr w).mono ?_
  rintro e w' ⟨rfl, rfl⟩
  have hB : Below w.heap.size w ((((w.alloc (.cells #[.slice a n cap] 27)).alloc (.cells #[.int .i64 fr] 3)).alloc (.cells #[.int .i64 cs, .int .i64 co] 41)).alloc (.cells #[.bool gr] 4)) := ball (ball (ball (ball (Below.refl _ _) _) _) _) _
  refine ⟨_, _, _, _, rfl, ⟨old3 (new0 rfl rfl) _ _ _, old2 (new0 (by simp) rfl) _ _, new0 (by simp) rfl, old1 (new0 (by simp) rfl) _, old1 (new0 (by simp) rfl) _, hl.keep hB⟩, hB⟩
theorem wp_of_call {P : Program} {o : Oper} {a : Act} {w : World} {f : FuncId} {args : Array Value} {R : Ending → World → Prop} {K : Act → World → Prop} {Q : Exit → Act → World → Prop} (hx : (execOp a.eval o).run P w = .ok (.enter f args) w) (h : Calls P f args w R)
    (hK : ∀ e w', R e w' → ∃ v, e = .returned v ∧ K (a.put o.dst v) w') : o.wp P a w K Q := by
  unfold Oper.wp
  rw [hx]
  refine Calls.mono h fun e w' he => ?_
  obtain ⟨v, rfl, hk⟩ := hK e w' he
  exact hk
theorem wp_of_value {P : Program} {o : Oper} {a : Act} {w w' : World} {v : Value} {K : Act → World → Prop} {Q : Exit → Act → World → Prop} (h : (execOp a.eval o).run P w = .ok (.value v) w') (hK : K (a.put o.dst v) w') : o.wp P a w K Q := by
  unfold Oper.wp; rw [h]; exact hK
theorem lost_bad (u : Us) (me fr : Int) (N : List Nv) : N.any (fun x => latB x.B.f fr && badN true u.s u.o fr (badC u.t me) x) = lostB u me fr (nbs N) := by
  rw [lost_nbs]
  congr 1
  funext x
  unfold lostN badN
  rw [if_pos rfl]
  congr 2
  funext g
  unfold lostG badC
  rw [cell_eq]
  cases (g.s == u.s && g.o == u.o) <;> cases decide (fr ≤ g.u) <;> cases (g.p != me) <;> rfl
theorem void_bad (g : Gr) (fr : Int) (N : List Nv) : N.any (fun x => latB x.B.f fr && badN false g.s g.o fr (badC g.t g.p) x) = voidB g fr (nbs N) := by
  rw [void_nbs]
  congr 1
  funext x
  unfold voidN badN
  rw [if_neg (by simp)]
  congr 2
  funext u
  unfold voidU badC
  rw [cell_eq]
  simp only [Bool.and_assoc]

set_option maxRecDepth 100000 in
set_option maxHeartbeats 8000000 in
theorem yield_at (t : Tv) (me fr : Int) (N : List Nv) (n : Nat) (a : Option Addr) (cap : Nat) (w : World) (ht : Hid (t.ok w)) (hn : Hid (n = N.length)) (hl : NsAt w a N) (hm : n ≤ maxLen) (h40 : Hid (t.nu ≤ 1000 ∧ t.ng ≤ 1000)) :
    Calls Try.prog 15 #[t.v, .int .i64 me, .slice a n cap, .int .i64 fr] w (YieldPost t me fr N w) := by
  obtain ⟨⟨U, G, A⟩, ua, nu, uc, ga, ng, gc, aa, na, ac⟩ := t
  have hu := ht.out.um; have hu2 := ht.out.uc; have hg := ht.out.gm; have hg2 := ht.out.gc
  unfold maxLen at hu hg
  simp only at hu hu2 hg hg2 h40 ⊢
  have hnu : nu ≤ 1000 := h40.out.1
  have hng : ng ≤ 1000 := h40.out.2
  have hun : Hid (nu = U.length) := Lib.hid ht.out.un
  have hgn : Hid (ng = G.length) := Lib.hid ht.out.gn
  go_enter Try.func15, Try.ntmps15
  go_upto_region 1 with (fail)
  have Tt := CAt.new (w) [.slice ua nu uc, .slice ga ng gc, .slice aa na ac] 26
  have BB : Below w.heap.size w ((w).alloc (.cells #[.slice ua nu uc, .slice ga ng gc, .slice aa na ac] 26)) := ball (Below.refl _ _) _
  have Tr := CAt.new (w.alloc (.cells #[.slice ua nu uc, .slice ga ng gc, .slice aa na ac] 26)) [.slice none 0 0, .slice none 0 0, .slice none 0 0] 26
  have Fr := Fz.new (w.alloc (.cells #[.slice ua nu uc, .slice ga ng gc, .slice aa na ac] 26)) #[.slice none 0 0, .slice none 0 0, .slice none 0 0] 26
  replace Tt := Tt.alloc (.cells #[.slice none 0 0, .slice none 0 0, .slice none 0 0] 26)
  replace BB := ball BB (.cells #[.slice none 0 0, .slice none 0 0, .slice none 0 0] 26)
  simp only [World.size_alloc, Nat.add_assoc, Nat.reduceAdd] at Tr Fr
  obtain ⟨V1, hV1⟩ : ∃ V1, (w.alloc (.cells #[.slice ua nu uc, .slice ga ng gc, .slice aa na ac] 26)).alloc (.cells #[.slice none 0 0, .slice none 0 0, .slice none 0 0] 26) = V1 := ⟨_, rfl⟩
  rw [hV1] at BB Tt Tr Fr ⊢
  clear hV1
  have t0 := Tt 0 _ rfl
  have t1 := Tt 1 _ rfl
  have t2 := Tt 2 _ rfl
  have r0 := Tr 0 _ rfl
  have fr0 := Fr.1 0
  have r1 := Tr 1 _ rfl
  have fr1 := Fr.1 1
  have r2 := Tr 2 _ rfl
  have fr2 := Fr.1 2
  go_upto_region 2 with (fail)
  clear t0 t1 t2 r0 fr0 r1 fr1 r2 fr2
  have bs2 : w.heap.size ≤ V1.heap.size := BB.size
  have lt2t : w.heap.size < V1.heap.size := World.block_lt_of_cell? V1 ⟨w.heap.size, 0, none⟩ (Tt 0 _ rfl)
  have lt2r : w.heap.size + 1 < V1.heap.size := World.block_lt_of_cell? V1 ⟨w.heap.size + 1, 0, none⟩ (Tr 0 _ rfl)
  have To := CAt.new (V1) [.slice none 0 0, .slice none 0 0, .slice aa na ac] 26
  have Fo := Fz.new (V1) #[.slice none 0 0, .slice none 0 0, .slice aa na ac] 26
  replace Tt := Tt.alloc (.cells #[.slice none 0 0, .slice none 0 0, .slice aa na ac] 26)
  replace Tr := Tr.alloc (.cells #[.slice none 0 0, .slice none 0 0, .slice aa na ac] 26)
  replace Fr := Fr.alloc (.cells #[.slice none 0 0, .slice none 0 0, .slice aa na ac] 26)
  replace BB := ball BB (.cells #[.slice none 0 0, .slice none 0 0, .slice aa na ac] 26)
  obtain ⟨V2, hV2⟩ : ∃ V2, V1.alloc (.cells #[.slice none 0 0, .slice none 0 0, .slice aa na ac] 26) = V2 := ⟨_, rfl⟩
  rw [hV2] at BB Tt Tr To Fr Fo ⊢
  clear hV2
  obtain ⟨k2, hk2⟩ : ∃ k2, V1.heap.size = k2 := ⟨_, rfl⟩
  rw [hk2] at To Fo bs2 lt2t lt2r ⊢
  clear hk2
  obtain ⟨ob, rfl⟩ : ∃ ob, ob = k2 := ⟨_, rfl⟩
  have hlo := Fo.2
  obtain ⟨b0, hb0⟩ : ∃ b0, V2.heap.size = b0 := ⟨_, rfl⟩
  have hlo0 : ob < b0 := by rw [← hb0]; exact hlo
  have HB0 := Lib.hid hb0
  clear hb0 hlo
  have t0 := Tt 0 _ rfl
  go_wp2_with fail
  clear t0
  go_loopw [20] (fun i wr => ∃ k : Nat, k ≤ nu ∧ i = .int .i64 k ∧ Below w.heap.size w wr ∧ CAt wr w.heap.size [.slice ua nu uc, .slice ga ng gc, .slice aa na ac] ∧ Fz wr ob ∧ CAt wr (w.heap.size + 1) [.slice none 0 0, .slice none 0 0, .slice none 0 0] ∧ Fz wr (w.heap.size + 1) ∧ b0 ≤ wr.heap.size ∧ ∃ v m, m ≤ k ∧ Hid (m = ((U.take k).filter (fun u => !lostB u me fr (nbs N))).length) ∧ wr.ownsRow b0 43 4 v m (flatL Us.cs ((U.take k).filter (fun u => !lostB u me fr (nbs N)))) ∧ CAt wr ob [v, .slice none 0 0, .slice aa na ac]) (fun i _ => nu - (intOf i).toNat)
  case atStart => exact ⟨0, Nat.zero_le _, rfl, BB, Tt, Fo, Tr, Fr, by have := HB0.out; omega, .slice none 0 0, 0, Nat.le_refl _, Lib.hid rfl, World.ownsRow_nil _ _ _ _, To⟩
  case round =>
    clear BB Tt Fo To Tr Fr
    obtain ⟨k, hk, rfl, BB, Tt, Fo, Tr, Fr, hsz, v, m, hmk, hml, R, To⟩ := hrel
    by_cases hlt : k < nu
    ·
      have hlt' : (k : Int) < (nu : Int) := by omega
      have hk0 : (0 : Int) ≤ (k : Int) := by omega
      have hwk : IntKind.i64.wrap ((k : Int) + 1) = (k : Int) + 1 := IntWalk.i64_in _ (by omega)
      obtain ⟨b, off, e1, c0, c1, c2, c3⟩ := ht.out.u.us BB (i := k) (by have := hun.out; simp only; omega)
      have hfs := filter_snoc (fun u => !lostB u me fr (nbs N)) (l := U) (k := k) (by have := hun.out; omega)
      obtain ⟨x, hx⟩ : ∃ x, U.getD k default = x := ⟨_, rfl⟩
      simp only [hx] at c0 c1 c2 c3 hfs
      simp only at e1
      have HFS := Lib.hid hfs
      subst e1
      clear hx hfs
      obtain ⟨y, hy⟩ : ∃ y, lostB x me fr (nbs N) = y := ⟨_, rfl⟩
      have HY := Lib.hid hy
      clear hy
      go_upto_region 5 with (fail)
      clear c0 c1 c2 c3
      have Tx := CAt.new wr [.int .i64 x.s, .int .i64 x.o, .int .i64 x.p, .int .i64 x.t] 43
      have Fx := Fz.new wr #[.int .i64 x.s, .int .i64 x.o, .int .i64 x.p, .int .i64 x.t] 43
      have BA : Below wr.heap.size wr (wr.alloc (.cells #[.int .i64 x.s, .int .i64 x.o, .int .i64 x.p, .int .i64 x.t] 43)) := ball (Below.refl _ _) _
      obtain ⟨V3, hV3⟩ : ∃ V3, wr.alloc (.cells #[.int .i64 x.s, .int .i64 x.o, .int .i64 x.p, .int .i64 x.t] 43) = V3 := ⟨_, rfl⟩
      rw [hV3] at Tx Fx BA ⊢
      clear hV3
      obtain ⟨xb, hxb⟩ : ∃ xb, wr.heap.size = xb := ⟨_, rfl⟩
      replace BB := bstep BB BA
      replace To := To.keep BA
      replace Tt := Tt.keep BA
      replace Fo := Fo.keep BA
      replace Tr := Tr.keep BA
      replace Fr := Fr.keep BA
      replace R := ownsRow_below R BA
      have hsx : b0 ≤ xb := by omega
      replace hsz := Nat.le_trans hsz BA.size
      rw [hxb] at Tx Fx ⊢
      clear BA hxb
      have x0 := Tx 0 _ rfl
      have x1 := Tx 1 _ rfl
      have x2 := Tx 2 _ rfl
      have x3 := Tx 3 _ rfl
      have kx0 := cell_regrown x0
      have kx1 := cell_regrown x1
      have kx2 := cell_regrown x2
      have kx3 := cell_regrown x3
      refine' wp_region_late' [0, 1, 2, 3, 5, 6, 7, 8] [] [4, 9, 10] [5, 6, 7, 8] (by kernel_rfl) (by kernel_rfl) _
        (fun w' => CAt w' xb [.int .i64 x.s, .int .i64 x.o, .int .i64 x.p, .int .i64 x.t]) (fun lx => if lx = 5 then .pointer (some ⟨xb, 3, none⟩) else if lx = 6 then .int .i64 x.t else if lx = 7 then .int .i64 me else if lx = 8 then clv x.t me else undef)
        (fun Z hZ hN => quiet_hole ?hq5) (fun _ => .cells #[] 0) (fun _ _ => undef) (fun i hi => by cases hi) ?hl5 ?ht5
      case hq5 =>
        intro Q9 hQ9
        show wpQuiet _ _ _ _ [_, _, _, _, _, _, _, _] _
        repeat (go_big_quiet_step (fail))
        exact wpQuiet_nil hQ9
      case hl5 =>
        intro j hj o ho
        simp only [List.mem_cons, List.not_mem_nil, or_false] at hj
        rcases hj with rfl | rfl | rfl | rfl
        all_goals (
          simp only [List.getElem?_cons_succ, List.getElem?_cons_zero, Option.some.injEq] at ho
          subst ho
          refine ⟨fun w' hw' => by (have hx2 := hw' 2 _ rfl; have hx3 := hw' 3 _ rfl; first | kernel_rfl | go_simp), fun t ht => ?_⟩
          simp only [Option.some.injEq] at ht
          subst ht
          rfl)
      intro π z3 hz _ _
      clear x0 x1 x2 x3 kx0 kx1 kx2 kx3
      replace BB := bstep BB hz
      replace To := To.keep hz
      replace Tt := Tt.keep hz
      replace Fo := Fo.keep hz
      replace Tr := Tr.keep hz
      replace Fr := Fr.keep hz
      replace Tx := Tx.keep hz
      replace Fx := Fx.keep hz
      replace R := ownsRow_below R hz
      replace hsz := Nat.le_trans hsz hz.size
      clear hz
      refine ⟨Tx, ?_⟩
      simp only [putsA]
      show wpListS _ _ _ _ [_, _, _] _ _
      refine listS_step rfl fun K9 hK9 => ?_
      refine wp_of_call (by first | kernel_rfl | go_simp) (told_at a n cap fr x.s x.o true N z3 (hl.keep BB)) ?_
      rintro e w2 ⟨bn, bf, bg, bc, rfl, hnd, b2⟩
      refine ⟨_, rfl, hK9 _ _ (Tx.keep b2) ?_⟩
      clear hK9 K9
      refine listS_step rfl fun K9 hK9 => ?_
      refine wp_of_call (by first | kernel_rfl | go_simp) (beaten_any bn bf bg bc true x.s x.o fr N n a cap hn hm x.t me w2 (Lib.hid hnd) y (Lib.hid (by rw [lost_bad]; exact HY.out))) ?_
      rintro e w3 ⟨rfl, b3⟩
      replace b2 := bstep b2 b3
      refine ⟨_, rfl, hK9 _ _ (Tx.keep b2) ?_⟩
      clear hK9 K9 hnd b3
      replace BB := bstep BB b2
      replace To := To.keep b2
      replace Tt := Tt.keep b2
      replace Fo := Fo.keep b2
      replace Tr := Tr.keep b2
      replace Fr := Fr.keep b2
      replace Tx := Tx.keep b2
      replace Fx := Fx.keep b2
      replace R := ownsRow_below R b2
      replace hsz := Nat.le_trans hsz b2.size
      clear b2
      cases y
      ·
        refine listS_step rfl fun K9 hK9 => ?_
        refine wp_of_value (w' := w3) (v := .bool true) (by first | kernel_rfl | go_simp) ?_
        refine hK9 _ _ Tx ?_
        clear hK9 K9
        unfold wpListS noPanic
        simp (config := { maxSteps := 10000000 }) only [Act.put, List.setIfInBounds_toArray, List.set_cons_succ, List.set_cons_zero, Exit.then]
        have HF2 : Hid ((U.take (k + 1)).filter (fun u => !lostB u me fr (nbs N)) = (U.take k).filter (fun u => !lostB u me fr (nbs N)) ++ [x]) := Lib.hid (by rw [HFS.out]; simp [HY.out])
        obtain ⟨va, vc, rfl⟩ := row_shape R
        go_upto_region 6 with (fail)
        obtain ⟨i0, hi9, hz0, hz1, hz2⟩ := info_parts info43
        have o0 := To 0 _ rfl
        have x0 := Tx 0 _ rfl
        have x1 := Tx 1 _ rfl
        have x2 := Tx 2 _ rfl
        have x3 := Tx 3 _ rfl
        go_wp2_with (at_builtin; refine wpList_append_own _ rfl _ _ 22 rfl b0 43 i0 _ 4 32 Try.underlying22 hi9 hz0 hz1 hz2 rfl (by decide) _ _ _ rfl (R.alloc _) ⟨w3.heap.size, 0, none⟩ 1 1 x.cs rfl rfl (fun j u hj => by rw [add0]; exact CAt.new _ x.cs _ j u hj) (fun u hu => by simp at hu; rcases hu with rfl | rfl | rfl | rfl <;> rfl) (by unfold maxLen; omega) (by omega) (by simp; omega) ?_)
        intro v1 w4 R1 hg1 hv1
        clear o0 x0 x1 x2 x3
        have RA := R.alloc (.cells #[.int .i64 x.s, .int .i64 x.o, .int .i64 x.p, .int .i64 x.t] 43)
        obtain ⟨a1, c1, rfl⟩ := row_shape R1
        have bA : Below w3.heap.size w3 (w3.alloc (.cells #[.int .i64 x.s, .int .i64 x.o, .int .i64 x.p, .int .i64 x.t] 43)) := ball (Below.refl _ _) _
        have To1 := app_box (To.keep bA) (by omega) RA hg1
        have Fo1 := app_fz (Fo.keep bA) (by omega) RA hg1
        have Tt1 := app_box (Tt.keep bA) (by omega) RA hg1
        have Tr1 := app_box (Tr.keep bA) (by omega) RA hg1
        have Fr1 := app_fz (Fr.keep bA) (by omega) RA hg1
        have BB1 := app_below (bstep BB bA) (by omega) RA hg1
        have hsz1 := Nat.le_trans hsz (Nat.le_trans bA.size hg1.size)
        have o0 := To1 0 _ rfl
        have of := Fo1.1 0
        have R2 := app_row R1 (ob := ob) (by omega) 0 (.slice a1 (m + 1) c1)
        have To2 := To1.set 0 (.slice a1 (m + 1) c1) (by simp)
        have Fo2 := Fo1.set ⟨ob, 0, none⟩ (.slice a1 (m + 1) c1)
        have Tt2 := Tt1.other (k' := ob) (by omega) 0 (.slice a1 (m + 1) c1)
        have Tr2 := Tr1.other (k' := ob) (by omega) 0 (.slice a1 (m + 1) c1)
        have Fr2 := Fr1.set ⟨ob, 0, none⟩ (.slice a1 (m + 1) c1)
        have BB2 := BB1.setCell (p := ⟨ob, 0, none⟩) (by simp only; omega) (.slice a1 (m + 1) c1)
        have hsz2 : b0 ≤ (w4.setCell ⟨ob, 0, none⟩ (.slice a1 (m + 1) c1)).heap.size := by simpa using hsz1
        clear To1 Fo1 Tt1 Tr1 Fr1 BB1 hsz1 R1 hv1 hg1 To Fo Tt Tr Fr BB hsz R RA bA
        go_wp2_with fail
        clear o0 of
        go_roundw
        case rel => exact ⟨k + 1, by omega, by go_num, BB2, Tt2, Fo2, Tr2, Fr2, hsz2, _, m + 1, by omega, Lib.hid (by rw [HF2.out, List.length_append, ← hml.out]; rfl), by rw [HF2.out, flatL_append, flatL_one]; exact R2, To2⟩
        case measure => simp [intOf]; omega
      ·
        refine listS_step rfl fun K9 hK9 => ?_
        refine wp_of_value (w' := w3) (v := .bool false) (by first | kernel_rfl | go_simp) ?_
        refine hK9 _ _ Tx ?_
        clear hK9 K9
        unfold wpListS noPanic
        simp (config := { maxSteps := 10000000 }) only [Act.put, List.setIfInBounds_toArray, List.set_cons_succ, List.set_cons_zero, Exit.then]
        have HF2 : Hid ((U.take (k + 1)).filter (fun u => !lostB u me fr (nbs N)) = (U.take k).filter (fun u => !lostB u me fr (nbs N))) := Lib.hid (by rw [HFS.out]; simp [HY.out])
        go_wp2_with fail
        go_roundw
        case rel => exact ⟨k + 1, by omega, by go_num, BB, Tt, Fo, Tr, Fr, hsz, v, m, by omega, Lib.hid (by rw [HF2.out]; exact hml.out), by rw [HF2.out]; exact R, To⟩
        case measure => simp [intOf]; omega
    ·
      obtain rfl : nu = k := by omega
      have hlt' : ¬ (nu : Int) < (nu : Int) := by omega
      rw [show U.take nu = U from by rw [hun.out]; exact List.take_length] at hml R
      obtain ⟨b1, hb1⟩ : ∃ b1, wr.heap.size = b1 := ⟨_, rfl⟩
      obtain ⟨v0, rfl⟩ : ∃ v0, v0 = v := ⟨_, rfl⟩
      obtain ⟨m0, rfl⟩ : ∃ m0, m0 = m := ⟨_, rfl⟩
      have HV0 : Hid (∀ b, v0.ownBlock = some b → b < b1) := Lib.hid (fun b hb => by rw [← hb1]; exact (R.lt b hb).2)
      have HB1 : b1 ≤ wr.heap.size := by omega
      have hlo1 : b0 ≤ b1 := by omega
      have hml0 := hml
      have R0 := R
      clear R hml hb1 hsz
      have t0 := Tt 0 _ rfl
      have t1 := Tt 1 _ rfl
      have t2 := Tt 2 _ rfl
      go_wp2_with fail
      clear t0 t1 t2
      go_loopw [45] (fun i wr => ∃ k : Nat, k ≤ ng ∧ i = .int .i64 k ∧ Below w.heap.size w wr ∧ CAt wr w.heap.size [.slice ua nu uc, .slice ga ng gc, .slice aa na ac] ∧ Fz wr ob ∧ CAt wr (w.heap.size + 1) [.slice none 0 0, .slice none 0 0, .slice none 0 0] ∧ Fz wr (w.heap.size + 1) ∧ b1 ≤ wr.heap.size ∧ wr.ownsRow b0 43 4 v0 m0 (flatL Us.cs (U.filter (fun u => !lostB u me fr (nbs N)))) ∧ ∃ v m, m ≤ k ∧ Hid (m = ((G.take k).filter (fun g => !voidB g fr (nbs N))).length) ∧ wr.ownsRow b1 63 5 v m (flatL Gr.cs ((G.take k).filter (fun g => !voidB g fr (nbs N)))) ∧ CAt wr ob [v0, v, .slice aa na ac]) (fun i _ => ng - (intOf i).toNat)
      case atStart => exact ⟨0, Nat.zero_le _, rfl, BB, Tt, Fo, Tr, Fr, by have := HB0.out; exact HB1, R0, .slice none 0 0, 0, Nat.le_refl _, Lib.hid rfl, World.ownsRow_nil _ _ _ _, To⟩
      case round =>
        clear BB Tt Fo To Tr Fr R0
        obtain ⟨k, hk, rfl, BB, Tt, Fo, Tr, Fr, hsz, R0, v, m, hmk, hml, R, To⟩ := hrel
        by_cases hlt : k < ng
        ·
          have hlt' : (k : Int) < (ng : Int) := by omega
          have hk0 : (0 : Int) ≤ (k : Int) := by omega
          have hwk : IntKind.i64.wrap ((k : Int) + 1) = (k : Int) + 1 := IntWalk.i64_in _ (by omega)
          obtain ⟨b, off, e1, c0, c1, c2, c3, c4⟩ := ht.out.g.gr BB (i := k) (by have := hgn.out; simp only; omega)
          have hfs := filter_snoc (fun g => !voidB g fr (nbs N)) (l := G) (k := k) (by have := hgn.out; omega)
          obtain ⟨x, hx⟩ : ∃ x, G.getD k default = x := ⟨_, rfl⟩
          simp only [hx] at c0 c1 c2 c3 c4 hfs
          simp only at e1
          have HFS := Lib.hid hfs
          subst e1
          clear hx hfs
          obtain ⟨y, hy⟩ : ∃ y, voidB x fr (nbs N) = y := ⟨_, rfl⟩
          have HY := Lib.hid hy
          clear hy
          go_upto_region 11 with (fail)
          clear c0 c1 c2 c3 c4
          have Tx := CAt.new wr [.int .i64 x.s, .int .i64 x.o, .int .i64 x.p, .int .i64 x.t, .int .i64 x.u] 63
          have Fx := Fz.new wr #[.int .i64 x.s, .int .i64 x.o, .int .i64 x.p, .int .i64 x.t, .int .i64 x.u] 63
          have BA : Below wr.heap.size wr (wr.alloc (.cells #[.int .i64 x.s, .int .i64 x.o, .int .i64 x.p, .int .i64 x.t, .int .i64 x.u] 63)) := ball (Below.refl _ _) _
          obtain ⟨V3, hV3⟩ : ∃ V3, wr.alloc (.cells #[.int .i64 x.s, .int .i64 x.o, .int .i64 x.p, .int .i64 x.t, .int .i64 x.u] 63) = V3 := ⟨_, rfl⟩
          rw [hV3] at Tx Fx BA ⊢
          clear hV3
          obtain ⟨xb, hxb⟩ : ∃ xb, wr.heap.size = xb := ⟨_, rfl⟩
          replace BB := bstep BB BA
          replace To := To.keep BA
          replace Tt := Tt.keep BA
          replace Fo := Fo.keep BA
          replace Tr := Tr.keep BA
          replace Fr := Fr.keep BA
          replace R := ownsRow_below R BA
          have hsx : b1 ≤ xb := by omega
          replace hsz := Nat.le_trans hsz BA.size
          rw [hxb] at Tx Fx ⊢
          replace R0 := ownsRow_below R0 BA
          clear BA hxb
          have x0 := Tx 0 _ rfl
          have x1 := Tx 1 _ rfl
          have x2 := Tx 2 _ rfl
          have x3 := Tx 3 _ rfl
          have x4 := Tx 4 _ rfl
          have kx0 := cell_regrown x0
          have kx1 := cell_regrown x1
          have kx2 := cell_regrown x2
          have kx3 := cell_regrown x3
          have kx4 := cell_regrown x4
          refine' wp_region_late' [0, 1, 2, 3, 5, 6, 7, 8, 9] [] [4, 10, 11] [5, 6, 7, 8, 9] (by kernel_rfl) (by kernel_rfl) _
            (fun w' => CAt w' xb [.int .i64 x.s, .int .i64 x.o, .int .i64 x.p, .int .i64 x.t, .int .i64 x.u]) (fun lx => if lx = 5 then .pointer (some ⟨xb, 3, none⟩) else if lx = 6 then .int .i64 x.t else if lx = 7 then .pointer (some ⟨xb, 2, none⟩) else if lx = 8 then .int .i64 x.p else if lx = 9 then clv x.t x.p else undef)
            (fun Z hZ hN => quiet_hole ?hq11) (fun _ => .cells #[] 0) (fun _ _ => undef) (fun i hi => by cases hi) ?hl11 ?ht11
          case hq11 =>
            intro Q9 hQ9
            show wpQuiet _ _ _ _ [_, _, _, _, _, _, _, _, _] _
            repeat (go_big_quiet_step (fail))
            exact wpQuiet_nil hQ9
          case hl11 =>
            intro j hj o ho
            simp only [List.mem_cons, List.not_mem_nil, or_false] at hj
            rcases hj with rfl | rfl | rfl | rfl | rfl
            all_goals (
              simp only [List.getElem?_cons_succ, List.getElem?_cons_zero, Option.some.injEq] at ho
              subst ho
              refine ⟨fun w' hw' => by (have hx2 := hw' 2 _ rfl; have hx3 := hw' 3 _ rfl; first | kernel_rfl | go_simp), fun t ht => ?_⟩
              simp only [Option.some.injEq] at ht
              subst ht
              rfl)
          intro π z3 hz _ _
          clear x0 x1 x2 x3 x4 kx0 kx1 kx2 kx3 kx4
          replace BB := bstep BB hz
          replace To := To.keep hz
          replace Tt := Tt.keep hz
          replace Fo := Fo.keep hz
          replace Tr := Tr.keep hz
          replace Fr := Fr.keep hz
          replace Tx := Tx.keep hz
          replace Fx := Fx.keep hz
          replace R := ownsRow_below R hz
          replace hsz := Nat.le_trans hsz hz.size
          replace R0 := ownsRow_below R0 hz
          clear hz
          refine ⟨Tx, ?_⟩
          simp only [putsA]
          show wpListS _ _ _ _ [_, _, _] _ _
          refine listS_step rfl fun K9 hK9 => ?_
          refine wp_of_call (by first | kernel_rfl | go_simp) (told_at a n cap fr x.s x.o false N z3 (hl.keep BB)) ?_
          rintro e w2 ⟨bn, bf, bg, bc, rfl, hnd, b2⟩
          refine ⟨_, rfl, hK9 _ _ (Tx.keep b2) ?_⟩
          clear hK9 K9
          refine listS_step rfl fun K9 hK9 => ?_
          refine wp_of_call (by first | kernel_rfl | go_simp) (beaten_any bn bf bg bc false x.s x.o fr N n a cap hn hm x.t x.p w2 (Lib.hid hnd) y (Lib.hid (by rw [void_bad]; exact HY.out))) ?_
          rintro e w3 ⟨rfl, b3⟩
          replace b2 := bstep b2 b3
          refine ⟨_, rfl, hK9 _ _ (Tx.keep b2) ?_⟩
          clear hK9 K9 hnd b3
          replace BB := bstep BB b2
          replace To := To.keep b2
          replace Tt := Tt.keep b2
          replace Fo := Fo.keep b2
          replace Tr := Tr.keep b2
          replace Fr := Fr.keep b2
          replace Tx := Tx.keep b2
          replace Fx := Fx.keep b2
          replace R := ownsRow_below R b2
          replace hsz := Nat.le_trans hsz b2.size
          replace R0 := ownsRow_below R0 b2
          clear b2
          cases y
          ·
            refine listS_step rfl fun K9 hK9 => ?_
            refine wp_of_value (w' := w3) (v := .bool true) (by first | kernel_rfl | go_simp) ?_
            refine hK9 _ _ Tx ?_
            clear hK9 K9
            unfold wpListS noPanic
            simp (config := { maxSteps := 10000000 }) only [Act.put, List.setIfInBounds_toArray, List.set_cons_succ, List.set_cons_zero, Exit.then]
            have HF2 : Hid ((G.take (k + 1)).filter (fun g => !voidB g fr (nbs N)) = (G.take k).filter (fun g => !voidB g fr (nbs N)) ++ [x]) := Lib.hid (by rw [HFS.out]; simp [HY.out])
            obtain ⟨va, vc, rfl⟩ := row_shape R
            go_upto_region 12 with (fail)
            obtain ⟨i0, hi9, hz0, hz1, hz2⟩ := info_parts info63
            have o0 := To 1 _ rfl
            have x0 := Tx 0 _ rfl
            have x1 := Tx 1 _ rfl
            have x2 := Tx 2 _ rfl
            have x3 := Tx 3 _ rfl
            have x4 := Tx 4 _ rfl
            go_wp2_with (at_builtin; refine wpList_append_own _ rfl _ _ 23 rfl b1 63 i0 _ 5 40 Try.underlying23 hi9 hz0 hz1 hz2 rfl (by decide) _ _ _ rfl (R.alloc _) ⟨w3.heap.size, 0, none⟩ 1 1 x.cs rfl rfl (fun j u hj => by rw [add0]; exact CAt.new _ x.cs _ j u hj) (fun u hu => by simp at hu; rcases hu with rfl | rfl | rfl | rfl | rfl <;> rfl) (by unfold maxLen; omega) (by omega) (by simp; omega) ?_)
            intro v1 w4 R1 hg1 hv1
            clear o0 x0 x1 x2 x3 x4
            have RA := R.alloc (.cells #[.int .i64 x.s, .int .i64 x.o, .int .i64 x.p, .int .i64 x.t, .int .i64 x.u] 63)
            obtain ⟨a1, c1, rfl⟩ := row_shape R1
            have bA : Below w3.heap.size w3 (w3.alloc (.cells #[.int .i64 x.s, .int .i64 x.o, .int .i64 x.p, .int .i64 x.t, .int .i64 x.u] 63)) := ball (Below.refl _ _) _
            have To1 := app_box (To.keep bA) (by omega) RA hg1
            have Fo1 := app_fz (Fo.keep bA) (by omega) RA hg1
            have Tt1 := app_box (Tt.keep bA) (by omega) RA hg1
            have Tr1 := app_box (Tr.keep bA) (by omega) RA hg1
            have Fr1 := app_fz (Fr.keep bA) (by omega) RA hg1
            have BB1 := app_below (bstep BB bA) (by omega) RA hg1
            have hsz1 := Nat.le_trans hsz (Nat.le_trans bA.size hg1.size)
            have o0 := To1 1 _ rfl
            have of := Fo1.1 1
            have R2 := app_row R1 (ob := ob) (by omega) 1 (.slice a1 (m + 1) c1)
            have To2 := To1.set 1 (.slice a1 (m + 1) c1) (by simp)
            have Fo2 := Fo1.set ⟨ob, 1, none⟩ (.slice a1 (m + 1) c1)
            have Tt2 := Tt1.other (k' := ob) (by omega) 1 (.slice a1 (m + 1) c1)
            have Tr2 := Tr1.other (k' := ob) (by omega) 1 (.slice a1 (m + 1) c1)
            have Fr2 := Fr1.set ⟨ob, 1, none⟩ (.slice a1 (m + 1) c1)
            have BB2 := BB1.setCell (p := ⟨ob, 1, none⟩) (by simp only; omega) (.slice a1 (m + 1) c1)
            have hsz2 : b1 ≤ (w4.setCell ⟨ob, 1, none⟩ (.slice a1 (m + 1) c1)).heap.size := by simpa using hsz1
            have R02 := app_other (R0.alloc (.cells #[.int .i64 x.s, .int .i64 x.o, .int .i64 x.p, .int .i64 x.t, .int .i64 x.u] 63)) HV0.out RA hg1 (by omega) 1 (.slice a1 (m + 1) c1)
            clear To1 Fo1 Tt1 Tr1 Fr1 BB1 hsz1 R1 hv1 hg1 To Fo Tt Tr Fr BB hsz R RA bA R0
            go_wp2_with fail
            clear o0 of
            go_roundw
            case rel => exact ⟨k + 1, by omega, by go_num, BB2, Tt2, Fo2, Tr2, Fr2, hsz2, R02, _, m + 1, by omega, Lib.hid (by rw [HF2.out, List.length_append, ← hml.out]; rfl), by rw [HF2.out, flatL_append, flatL_one]; exact R2, To2⟩
            case measure => simp [intOf]; omega
          ·
            refine listS_step rfl fun K9 hK9 => ?_
            refine wp_of_value (w' := w3) (v := .bool false) (by first | kernel_rfl | go_simp) ?_
            refine hK9 _ _ Tx ?_
            clear hK9 K9
            unfold wpListS noPanic
            simp (config := { maxSteps := 10000000 }) only [Act.put, List.setIfInBounds_toArray, List.set_cons_succ, List.set_cons_zero, Exit.then]
            have HF2 : Hid ((G.take (k + 1)).filter (fun g => !voidB g fr (nbs N)) = (G.take k).filter (fun g => !voidB g fr (nbs N))) := Lib.hid (by rw [HFS.out]; simp [HY.out])
            go_wp2_with fail
            go_roundw
            case rel => exact ⟨k + 1, by omega, by go_num, BB, Tt, Fo, Tr, Fr, hsz, R0, v, m, by omega, Lib.hid (by rw [HF2.out]; exact hml.out), by rw [HF2.out]; exact R, To⟩
            case measure => simp [intOf]; omega
        ·
          obtain rfl : ng = k := by omega
          have hlt' : ¬ (ng : Int) < (ng : Int) := by omega
          rw [show G.take ng = G from by rw [hgn.out]; exact List.take_length] at hml R
          have o0 := To 0 _ rfl
          have o1 := To 1 _ rfl
          have o2 := To 2 _ rfl
          have r0 := Tr 0 _ rfl
          have r1 := Tr 1 _ rfl
          have r2 := Tr 2 _ rfl
          have f0 := Fr.1 0
          have f1 := Fr.1 1
          have f2 := Fr.1 2
          obtain ⟨x0, d0, rfl, Q0, h1, h2⟩ := own_at us_size R0 hml0.out
          obtain ⟨x1, d1, rfl, Q1, h3, h4⟩ := own_at gr_size R hml.out
          go_wp2_with fail
          clear o0 o1 o2 r0 r1 r2 f0 f1 f2
          have Tr2 := ((Tr.set 0 (.slice x0 m0 d0) (by simp)).set 1 (.slice x1 m d1) (by simp)).set 2 (.slice aa na ac) (by simp)
          have S0 := set3 R0 (by omega) (.slice x0 m0 d0) (.slice x1 m d1) (.slice aa na ac) (k := w.heap.size + 1)
          have S1 := set3 R (by omega) (.slice x0 m0 d0) (.slice x1 m d1) (.slice aa na ac) (k := w.heap.size + 1)
          obtain ⟨x0', d0', e0, P0, -, -⟩ := own_at us_size S0 hml0.out
          obtain ⟨x1', d1', e1, P1, -, -⟩ := own_at gr_size S1 hml.out
          simp only [Value.slice.injEq, true_and] at e0 e1
          obtain ⟨rfl, rfl⟩ := e0
          obtain ⟨rfl, rfl⟩ := e1
          have BB2 := ((BB.setCell (p := ⟨w.heap.size + 1, 0, none⟩) (by simp only; omega) (.slice x0 m0 d0)).setCell (p := ⟨w.heap.size + 1, 1, none⟩) (by simp only; omega) (.slice x1 m d1)).setCell (p := ⟨w.heap.size + 1, 2, none⟩) (by simp only; omega) (.slice aa na ac)
          have hok : (⟨⟨_, _, A⟩, x0, m0, d0, x1, m, d1, aa, na, ac⟩ : Tv).ok _ := ⟨P0, P1, ht.out.a.keep BB2, hml0.out, hml.out, ht.out.an, h1, h3, ht.out.ac, h2, h4, ht.out.am, fun z hz => ht.out.uw z (List.mem_filter.1 hz).1, fun z hz => ht.out.gw z (List.mem_filter.1 hz).1⟩
          obtain ⟨V9, hV9⟩ : ∃ V9, ((wr.setCell ⟨w.heap.size + 1, 0, none⟩ (.slice x0 m0 d0)).setCell ⟨w.heap.size + 1, 1, none⟩ (.slice x1 m d1)).setCell ⟨w.heap.size + 1, 2, none⟩ (.slice aa na ac) = V9 := ⟨_, rfl⟩
          rw [hV9] at Tr2 BB2 hok ⊢
          clear hV9
          have r0 := Tr2 0 _ rfl
          have r1 := Tr2 1 _ rfl
          have r2 := Tr2 2 _ rfl
          refine bodyPost_ret (v := .agg #[.slice x0 m0 d0, .slice x1 m d1, .slice aa na ac]) (by simp [results, Try.results15, go_sem, r0, r1, r2]) rfl ⟨_, rfl, hok, rfl, BB2⟩
end Go.Proofs.Ytleenbfldkmcaaa
