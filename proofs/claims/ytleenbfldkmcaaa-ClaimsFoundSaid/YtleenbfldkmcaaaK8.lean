/- Proved: what the reference Yield returns. Conditions: the table and what was heard lie in memory, the table is short. -/
import Derived.Test.YtleenbfldkmcaaaK7
import Derived.Deep.RegionLaw
namespace Go.Proofs.Ytleenbfldkmcaaa
open Go.RowKit Go.Sort Go.BigFrame
set_option linter.unusedVariables false
set_option linter.unusedSimpArgs false
attribute [local go_sem] cell_alloc_old

theorem set3 {w : World} {base k : Nat} {e : TypeId} {s n : Nat} {v : Value} {xs : List Value} (h : w.ownsRow base e s v n xs) (hk : k < base) (a b c : Value) :
    (((w.setCell ⟨k, 0, none⟩ a).setCell ⟨k, 1, none⟩ b).setCell ⟨k, 2, none⟩ c).ownsRow base e s v n xs := app_row (app_row (app_row h hk 0 a) hk 1 b) hk 2 c
set_option maxRecDepth 100000 in
set_option maxHeartbeats 8000000 in
theorem ryield_at (t : Tv) (me fr : Int) (N : List Nv) (n : Nat) (a : Option Addr) (cap : Nat) (w : World) (ht : Hid (t.ok w)) (hn : Hid (n = N.length)) (hl : NsAt w a N) (hm : n ≤ maxLen) (h40 : Hid (t.nu ≤ 1000 ∧ t.ng ≤ 1000)) :
    Calls Try.prog 16 #[t.v, .int .i64 me, .slice a n cap, .int .i64 fr] w (YieldPost t me fr N w) := by
  obtain ⟨⟨U, G, A⟩, ua, nu, uc, ga, ng, gc, aa, na, ac⟩ := t
  have hu := ht.out.um; have hu2 := ht.out.uc; have hg := ht.out.gm; have hg2 := ht.out.gc
  unfold maxLen at hu hg
  simp only at hu hu2 hg hg2 h40 ⊢
  have hnu : nu ≤ 1000 := h40.out.1
  have hng : ng ≤ 1000 := h40.out.2
  have hun : Hid (nu = U.length) := Lib.hid ht.out.un
  have hgn : Hid (ng = G.length) := Lib.hid ht.out.gn
  go_enter Try.func16, Try.ntmps16
  go_upto_region 1 with (fail)
  have Tt := CAt.new (w) [.slice ua nu uc, .slice ga ng gc, .slice aa na ac] 26
  have BB : Below w.heap.size w ((w).alloc (.cells #[.slice ua nu uc, .slice ga ng gc, .slice aa na ac] 26)) := ball (Below.refl _ _) _
  have Tr := CAt.new (w.alloc (.cells #[.slice ua nu uc, .slice ga ng gc, .slice aa na ac] 26)) [.slice none 0 0, .slice none 0 0, .slice none 0 0] 26
  have Fr := Fz.new (w.alloc (.cells #[.slice ua nu uc, .slice ga ng gc, .slice aa na ac] 26)) #[.slice none 0 0, .slice none 0 0, .slice none 0 0] 26
  replace Tt := Tt.alloc (.cells #[.slice none 0 0, .slice none 0 0, .slice none 0 0] 26)
  replace BB := ball BB (.cells #[.slice none 0 0, .slice none 0 0, .slice none 0 0] 26)
  simp only [World.size_alloc, Nat.add_assoc, Nat.reduceAdd] at Tr Fr
  obtain ⟨V1, hV1⟩ : ∃ V1, (w.alloc (.cells #[.slice ua nu uc, .slice ga ng gc, .slice aa na ac] 26)).alloc (.cells #[.slice none 0 0, .slice none 0 0, .slice none 0 0] 26) = V1 := ⟨_, rfl⟩
  rw [hV1] at BB Tt Tr Fr ⊢
  clear hV1
  have t0 := Tt 0 _ rfl
  have t1 := Tt 1 _ rfl
  have t2 := Tt 2 _ rfl
  have r0 := Tr 0 _ rfl
  have fr0 := Fr.1 0
  have r1 := Tr 1 _ rfl
  have fr1 := Fr.1 1
  have r2 := Tr 2 _ rfl
  have fr2 := Fr.1 2
  go_upto_region 2 with (fail)
  clear t0 t1 t2 r0 fr0 r1 fr1 r2 fr2
  have bs2 : w.heap.size ≤ V1.heap.size := BB.size
  have lt2t : w.heap.size < V1.heap.size := World.block_lt_of_cell? V1 ⟨w.heap.size, 0, none⟩ (Tt 0 _ rfl)
  have lt2r : w.heap.size + 1 < V1.heap.size := World.block_lt_of_cell? V1 ⟨w.heap.size + 1, 0, none⟩ (Tr 0 _ rfl)
  have To := CAt.new (V1) [.slice none 0 0, .slice none 0 0, .slice aa na ac] 26
  have Fo := Fz.new (V1) #[.slice none 0 0, .slice none 0 0, .slice aa na ac] 26
  replace Tt := Tt.alloc (.cells #[.slice none 0 0, .slice none 0 0, .slice aa na ac] 26)
  replace Tr := Tr.alloc (.cells #[.slice none 0 0, .slice none 0 0, .slice aa na ac] 26)
  replace Fr := Fr.alloc (.cells #[.slice none 0 0, .slice none 0 0, .slice aa na ac] 26)
  replace BB := ball BB (.cells #[.slice none 0 0, .slice none 0 0, .slice aa na ac] 26)
  obtain ⟨V2, hV2⟩ : ∃ V2, V1.alloc (.cells #[.slice none 0 0, .slice none 0 0, .slice aa na ac] 26) = V2 := ⟨_, rfl⟩
  rw [hV2] at BB Tt Tr To Fr Fo ⊢
  clear hV2
  obtain ⟨k2, hk2⟩ : ∃ k2, V1.heap.size = k2 := ⟨_, rfl⟩
  rw [hk2] at To Fo bs2 lt2t lt2r ⊢
  clear hk2
  obtain ⟨ob, rfl⟩ : ∃ ob, ob = k2 := ⟨_, rfl⟩
  have hlo := Fo.2
  obtain ⟨b0, hb0⟩ : ∃ b0, V2.heap.size = b0 := ⟨_, rfl⟩
  have hlo0 : ob < b0 := by rw [← hb0]; exact hlo
  have HB0 := Lib.hid hb0
  clear hb0 hlo
  go_wp2_with fail
  go_loopw [10] (fun i wr => ∃ k : Nat, k ≤ nu ∧ i = .int .i64 k ∧ Below w.heap.size w wr ∧ CAt wr w.heap.size [.slice ua nu uc, .slice ga ng gc, .slice aa na ac] ∧ Fz wr ob ∧ CAt wr (w.heap.size + 1) [.slice none 0 0, .slice none 0 0, .slice none 0 0] ∧ Fz wr (w.heap.size + 1) ∧ b0 ≤ wr.heap.size ∧ ∃ v m, m ≤ k ∧ Hid (m = ((U.take k).filter (fun u => !lostB u me fr (nbs N))).length) ∧ wr.ownsRow b0 43 4 v m (flatL Us.cs ((U.take k).filter (fun u => !lostB u me fr (nbs N)))) ∧ CAt wr ob [v, .slice none 0 0, .slice aa na ac]) (fun i _ => nu - (intOf i).toNat)
  case atStart => exact ⟨0, Nat.zero_le _, rfl, BB, Tt, Fo, Tr, Fr, by have := HB0.out; omega, .slice none 0 0, 0, Nat.le_refl _, Lib.hid rfl, World.ownsRow_nil _ _ _ _, To⟩
  case round =>
    clear BB Tt Fo To Tr Fr
    obtain ⟨k, hk, rfl, BB, Tt, Fo, Tr, Fr, hsz, v, m, hmk, hml, R, To⟩ := hrel
    by_cases hlt : k < nu
    ·
      have hlt' : (k : Int) < (nu : Int) := by omega
      have hk0 : (0 : Int) ≤ (k : Int) := by omega
      have hwk : IntKind.i64.wrap ((k : Int) + 1) = (k : Int) + 1 := IntWalk.i64_in _ (by omega)
      obtain ⟨b, off, e1, c0, c1, c2, c3⟩ := ht.out.u.us BB (i := k) (by have := hun.out; simp only; omega)
      have hfs := filter_snoc (fun u => !lostB u me fr (nbs N)) (l := U) (k := k) (by have := hun.out; omega)
      obtain ⟨x, hx⟩ : ∃ x, U.getD k default = x := ⟨_, rfl⟩
      simp only [hx] at c0 c1 c2 c3 hfs
      simp only at e1
      have HFS := Lib.hid hfs
      subst e1
      have HXX := Lib.hid hx
      clear hx hfs
      obtain ⟨y, hy⟩ : ∃ y, lostB x me fr (nbs N) = y := ⟨_, rfl⟩
      have HY := Lib.hid hy
      clear hy
      have t0 := Tt 0 _ rfl
      have t1 := Tt 1 _ rfl
      have t2 := Tt 2 _ rfl
      go_wp2_with fail
      clear t0 t1 t2 c0 c1 c2 c3
      refine (lost_at x me fr N n a cap wr hn (hl.keep BB) hm y HY).mono ?_
      rintro e w1 ⟨rfl, b1'⟩
      replace BB := bstep BB b1'
      replace Tt := Tt.keep b1'
      replace To := To.keep b1'
      replace Fo := Fo.keep b1'
      replace Tr := Tr.keep b1'
      replace Fr := Fr.keep b1'
      replace R := ownsRow_below R b1'
      replace hsz := Nat.le_trans hsz b1'.size
      clear b1'
      cases y
      ·
        have HF2 : Hid ((U.take (k + 1)).filter (fun u => !lostB u me fr (nbs N)) = (U.take k).filter (fun u => !lostB u me fr (nbs N)) ++ [x]) := Lib.hid (by rw [HFS.out]; simp [HY.out])
        obtain ⟨va, vc, rfl⟩ := row_shape R
        obtain ⟨b', off', e1, c0, c1, c2, c3⟩ := ht.out.u.us BB (i := k) (by have := hun.out; simp only; omega)
        have hxx : U.getD k default = x := HXX.out
        simp only [hxx] at c0 c1 c2 c3
        simp only at e1
        simp only [Option.some.injEq, Addr.mk.injEq, and_true] at e1
        obtain ⟨rfl, rfl⟩ := e1
        clear hxx
        go_upto_region 6 with (fail)
        have t0 := Tt 0 _ rfl
        have t1 := Tt 1 _ rfl
        have kt0 := cell_regrown t0; have kt1 := cell_regrown t1
        have o0 := To 0 _ rfl
        have ko0 := cell_regrown o0
        have kc0 := cell_regrown c0
        have kc1 := cell_regrown c1
        have kc2 := cell_regrown c2
        have kc3 := cell_regrown c3
        refine' wp_region_late' [0, 1, 2, 3, 4, 5, 6, 9] [7] [8, 10] [9] (by kernel_rfl) (by kernel_rfl) _
          (fun w' => True) (fun lx => if lx = 9 then .pointer (some ⟨ob, 0, none⟩) else undef)
          (fun Z hZ hN => quiet_hole ?hq6) (fun _ => (.cells #[.int .i64 x.s, .int .i64 x.o, .int .i64 x.p, .int .i64 x.t] 43)) (fun _ p => .slice (some ⟨p, 0, none⟩) 1 1) ?ha6 ?hl6 ?ht6
        case hq6 =>
          intro Q9 hQ9
          show wpQuiet _ _ _ _ [_, _, _, _, _, _, _, _] _
          repeat (go_big_quiet_step (fail))
          exact wpQuiet_nil hQ9
        case ha6 =>
          intro i hi o ho w' hw'
          simp only [List.mem_cons, List.not_mem_nil, or_false] at hi
          subst hi
          simp only [List.getElem?_cons_succ, List.getElem?_cons_zero, Option.some.injEq] at ho
          subst ho
          go_simp
        case hl6 =>
          intro j hj o ho
          simp only [List.mem_cons, List.not_mem_nil, or_false] at hj
          rcases hj with rfl
          all_goals (
            simp only [List.getElem?_cons_succ, List.getElem?_cons_zero, Option.some.injEq] at ho
            subst ho
            refine ⟨fun w' hw' => by go_simp, fun t ht => ?_⟩
            simp only [Option.some.injEq] at ht
            subst ht
            rfl)
        intro π z3 hz hπ _
        obtain ⟨q, hq⟩ : ∃ q, π 7 = q := ⟨_, rfl⟩
        obtain ⟨hqb, hql⟩ := hπ 7 (by simp)
        rw [hq] at hqb hql
        simp only [List.filterMap_cons, List.filterMap_nil, List.getElem?_cons_zero, List.getElem?_cons_succ, putsA, Option.bind_some, Act.put, List.setIfInBounds_toArray, List.set_cons_zero, List.set_cons_succ, hq]
        clear hπ hq
        replace Tt := Tt.keep hz
        replace To := To.keep hz
        replace Fo := Fo.keep hz
        replace Tr := Tr.keep hz
        replace Fr := Fr.keep hz
        replace BB := bstep BB hz
        refine ⟨trivial, ?_⟩
        show wpListS _ _ _ _ [_, _] _ _
        clear t0 t1 kt0 kt1 o0 ko0 c0 c1 c2 c3 kc0 kc1 kc2 kc3
        replace R := ownsRow_below R hz
        replace hsz := Nat.le_trans hsz hz.size
        obtain ⟨i0, hi9, hz0, hz1, hz2⟩ := info_parts info43
        refine listS_step rfl fun K9 hK9 => ?_
        refine wp_append_at (.tmp 33) (.tmp 39) 22 rfl b0 43 i0 _ 4 32 Try.underlying22 hi9 hz0 hz1 hz2 rfl (by decide) (.slice va m vc) m _ (by rfl) R ⟨q, 0, none⟩ 1 1 x.cs (by rfl) rfl (fun j u hj => by rw [add0]; exact cell_blk hqb (by simpa using hj)) (fun u hu => by simp at hu; rcases hu with rfl | rfl | rfl | rfl <;> rfl) (by unfold maxLen; omega) (by omega) hsz ?_
        intro v1 w2 R1 hg1 hv1
        refine hK9 _ _ trivial ?_
        clear hK9 K9
        obtain ⟨a1, c1, rfl⟩ := row_shape R1
        have To1 := app_box To (by omega) R hg1
        have Fo1 := app_fz Fo (by omega) R hg1
        have Tt1 := app_box Tt (by omega) R hg1
        have Tr1 := app_box Tr (by omega) R hg1
        have Fr1 := app_fz Fr (by omega) R hg1
        have BB1 := app_below BB (by omega) R hg1
        have hsz1 := Nat.le_trans hsz hg1.size
        have o0 := To1 0 _ rfl
        have of := Fo1.1 0
        refine listS_step rfl fun K9 hK9 => ?_
        go_simp
        refine hK9 _ _ trivial ?_
        clear hK9 K9 o0 of
        have R2 := app_row R1 (ob := ob) (by omega) 0 (.slice a1 (m + 1) c1)
        have To2 := To1.set 0 (.slice a1 (m + 1) c1) (by simp)
        have Fo2 := Fo1.set ⟨ob, 0, none⟩ (.slice a1 (m + 1) c1)
        have Tt2 := Tt1.other (k' := ob) (by omega) 0 (.slice a1 (m + 1) c1)
        have Tr2 := Tr1.other (k' := ob) (by omega) 0 (.slice a1 (m + 1) c1)
        have Fr2 := Fr1.set ⟨ob, 0, none⟩ (.slice a1 (m + 1) c1)
        have BB2 := BB1.setCell (p := ⟨ob, 0, none⟩) (by simp only; omega) (.slice a1 (m + 1) c1)
        have hsz2 : b0 ≤ (w2.setCell ⟨ob, 0, none⟩ (.slice a1 (m + 1) c1)).heap.size := by simpa using hsz1
        clear To1 Fo1 Tt1 Tr1 Fr1 BB1 hsz1 R1 hv1 hg1 To Fo Tt Tr Fr BB hsz R hz
        obtain ⟨V9, hV9⟩ : ∃ V9, w2.setCell ⟨ob, 0, none⟩ (.slice a1 (m + 1) c1) = V9 := ⟨_, rfl⟩
        rw [hV9] at R2 To2 Fo2 Tt2 Tr2 Fr2 BB2 hsz2 ⊢
        clear hV9
        unfold wpListS noPanic
        go_wp2_with fail
        go_roundw
        case rel => exact ⟨k + 1, by omega, by go_num, BB2, Tt2, Fo2, Tr2, Fr2, hsz2, _, m + 1, by omega, Lib.hid (by rw [HF2.out, List.length_append, ← hml.out]; rfl), by rw [HF2.out, flatL_append, flatL_one]; exact R2, To2⟩
        case measure => simp [intOf]; omega
      ·
        have HF2 : Hid ((U.take (k + 1)).filter (fun u => !lostB u me fr (nbs N)) = (U.take k).filter (fun u => !lostB u me fr (nbs N))) := Lib.hid (by rw [HFS.out]; simp [HY.out])
        go_wp2_with fail
        go_roundw
        case rel => exact ⟨k + 1, by omega, by go_num, BB, Tt, Fo, Tr, Fr, hsz, v, m, by omega, Lib.hid (by rw [HF2.out]; exact hml.out), by rw [HF2.out]; exact R, To⟩
        case measure => simp [intOf]; omega
    ·
      obtain rfl : nu = k := by omega
      have hlt' : ¬ (nu : Int) < (nu : Int) := by omega
      rw [show U.take nu = U from by rw [hun.out]; exact List.take_length] at hml R
      obtain ⟨b1, hb1⟩ : ∃ b1, wr.heap.size = b1 := ⟨_, rfl⟩
      obtain ⟨v0, rfl⟩ : ∃ v0, v0 = v := ⟨_, rfl⟩
      obtain ⟨m0, rfl⟩ : ∃ m0, m0 = m := ⟨_, rfl⟩
      have HV0 : Hid (∀ b, v0.ownBlock = some b → b < b1) := Lib.hid (fun b hb => by rw [← hb1]; exact (R.lt b hb).2)
      have HB1 : b1 ≤ wr.heap.size := by omega
      have hlo1 : b0 ≤ b1 := by omega
      have hml0 := hml
      have R0 := R
      clear R hml hb1 hsz
      have t0 := Tt 0 _ rfl
      have t1 := Tt 1 _ rfl
      have t2 := Tt 2 _ rfl
      go_wp2_with fail
      clear t0 t1 t2
      go_loopw [11] (fun i wr => ∃ k : Nat, k ≤ ng ∧ i = .int .i64 k ∧ Below w.heap.size w wr ∧ CAt wr w.heap.size [.slice ua nu uc, .slice ga ng gc, .slice aa na ac] ∧ Fz wr ob ∧ CAt wr (w.heap.size + 1) [.slice none 0 0, .slice none 0 0, .slice none 0 0] ∧ Fz wr (w.heap.size + 1) ∧ b1 ≤ wr.heap.size ∧ wr.ownsRow b0 43 4 v0 m0 (flatL Us.cs (U.filter (fun u => !lostB u me fr (nbs N)))) ∧ ∃ v m, m ≤ k ∧ Hid (m = ((G.take k).filter (fun g => !voidB g fr (nbs N))).length) ∧ wr.ownsRow b1 63 5 v m (flatL Gr.cs ((G.take k).filter (fun g => !voidB g fr (nbs N)))) ∧ CAt wr ob [v0, v, .slice aa na ac]) (fun i _ => ng - (intOf i).toNat)
      case atStart => exact ⟨0, Nat.zero_le _, rfl, BB, Tt, Fo, Tr, Fr, by have := HB0.out; exact HB1, R0, .slice none 0 0, 0, Nat.le_refl _, Lib.hid rfl, World.ownsRow_nil _ _ _ _, To⟩
      case round =>
        clear BB Tt Fo To Tr Fr R0
        obtain ⟨k, hk, rfl, BB, Tt, Fo, Tr, Fr, hsz, R0, v, m, hmk, hml, R, To⟩ := hrel
        by_cases hlt : k < ng
        ·
          have hlt' : (k : Int) < (ng : Int) := by omega
          have hk0 : (0 : Int) ≤ (k : Int) := by omega
          have hwk : IntKind.i64.wrap ((k : Int) + 1) = (k : Int) + 1 := IntWalk.i64_in _ (by omega)
          obtain ⟨b, off, e1, c0, c1, c2, c3, c4⟩ := ht.out.g.gr BB (i := k) (by have := hgn.out; simp only; omega)
          have hfs := filter_snoc (fun g => !voidB g fr (nbs N)) (l := G) (k := k) (by have := hgn.out; omega)
          obtain ⟨x, hx⟩ : ∃ x, G.getD k default = x := ⟨_, rfl⟩
          simp only [hx] at c0 c1 c2 c3 c4 hfs
          simp only at e1
          have HFS := Lib.hid hfs
          subst e1
          have HXX := Lib.hid hx
          clear hx hfs
          obtain ⟨y, hy⟩ : ∃ y, voidB x fr (nbs N) = y := ⟨_, rfl⟩
          have HY := Lib.hid hy
          clear hy
          have t0 := Tt 0 _ rfl
          have t1 := Tt 1 _ rfl
          have t2 := Tt 2 _ rfl
          go_wp2_with fail
          clear t0 t1 t2 c0 c1 c2 c3 c4
          refine (void_at x fr N n a cap wr hn (hl.keep BB) hm y HY).mono ?_
          rintro e w1 ⟨rfl, b1'⟩
          replace BB := bstep BB b1'
          replace Tt := Tt.keep b1'
          replace To := To.keep b1'
          replace Fo := Fo.keep b1'
          replace Tr := Tr.keep b1'
          replace Fr := Fr.keep b1'
          replace R := ownsRow_below R b1'
          replace hsz := Nat.le_trans hsz b1'.size
          replace R0 := ownsRow_below R0 b1'
          clear b1'
          cases y
          ·
            have HF2 : Hid ((G.take (k + 1)).filter (fun g => !voidB g fr (nbs N)) = (G.take k).filter (fun g => !voidB g fr (nbs N)) ++ [x]) := Lib.hid (by rw [HFS.out]; simp [HY.out])
            obtain ⟨va, vc, rfl⟩ := row_shape R
            obtain ⟨b', off', e1, c0, c1, c2, c3, c4⟩ := ht.out.g.gr BB (i := k) (by have := hgn.out; simp only; omega)
            have hxx : G.getD k default = x := HXX.out
            simp only [hxx] at c0 c1 c2 c3 c4
            simp only at e1
            simp only [Option.some.injEq, Addr.mk.injEq, and_true] at e1
            obtain ⟨rfl, rfl⟩ := e1
            clear hxx
            go_upto_region 11 with (fail)
            have t0 := Tt 0 _ rfl
            have t1 := Tt 1 _ rfl
            have kt0 := cell_regrown t0; have kt1 := cell_regrown t1
            have o0 := To 1 _ rfl
            have ko0 := cell_regrown o0
            have kc0 := cell_regrown c0
            have kc1 := cell_regrown c1
            have kc2 := cell_regrown c2
            have kc3 := cell_regrown c3
            have kc4 := cell_regrown c4
            refine' wp_region_late' [0, 1, 2, 3, 4, 5, 6, 9] [7] [8, 10] [9] (by kernel_rfl) (by kernel_rfl) _
              (fun w' => True) (fun lx => if lx = 9 then .pointer (some ⟨ob, 1, none⟩) else undef)
              (fun Z hZ hN => quiet_hole ?hq11) (fun _ => (.cells #[.int .i64 x.s, .int .i64 x.o, .int .i64 x.p, .int .i64 x.t, .int .i64 x.u] 63)) (fun _ p => .slice (some ⟨p, 0, none⟩) 1 1) ?ha11 ?hl11 ?ht11
            case hq11 =>
              intro Q9 hQ9
              show wpQuiet _ _ _ _ [_, _, _, _, _, _, _, _] _
              repeat (go_big_quiet_step (fail))
              exact wpQuiet_nil hQ9
            case ha11 =>
              intro i hi o ho w' hw'
              simp only [List.mem_cons, List.not_mem_nil, or_false] at hi
              subst hi
              simp only [List.getElem?_cons_succ, List.getElem?_cons_zero, Option.some.injEq] at ho
              subst ho
              go_simp
            case hl11 =>
              intro j hj o ho
              simp only [List.mem_cons, List.not_mem_nil, or_false] at hj
              rcases hj with rfl
              all_goals (
                simp only [List.getElem?_cons_succ, List.getElem?_cons_zero, Option.some.injEq] at ho
                subst ho
                refine ⟨fun w' hw' => by go_simp, fun t ht => ?_⟩
                simp only [Option.some.injEq] at ht
                subst ht
                rfl)
            intro π z3 hz hπ _
            obtain ⟨q, hq⟩ : ∃ q, π 7 = q := ⟨_, rfl⟩
            obtain ⟨hqb, hql⟩ := hπ 7 (by simp)
            rw [hq] at hqb hql
            simp only [List.filterMap_cons, List.filterMap_nil, List.getElem?_cons_zero, List.getElem?_cons_succ, putsA, Option.bind_some, Act.put, List.setIfInBounds_toArray, List.set_cons_zero, List.set_cons_succ, hq]
            clear hπ hq
            replace Tt := Tt.keep hz
            replace To := To.keep hz
            replace Fo := Fo.keep hz
            replace Tr := Tr.keep hz
            replace Fr := Fr.keep hz
            replace BB := bstep BB hz
            refine ⟨trivial, ?_⟩
            show wpListS _ _ _ _ [_, _] _ _
            clear t0 t1 kt0 kt1 o0 ko0 c0 c1 c2 c3 c4 kc0 kc1 kc2 kc3 kc4
            replace R := ownsRow_below R hz
            replace hsz := Nat.le_trans hsz hz.size
            replace R0 := ownsRow_below R0 hz
            obtain ⟨i0, hi9, hz0, hz1, hz2⟩ := info_parts info63
            refine listS_step rfl fun K9 hK9 => ?_
            refine wp_append_at (.tmp 59) (.tmp 65) 23 rfl b1 63 i0 _ 5 40 Try.underlying23 hi9 hz0 hz1 hz2 rfl (by decide) (.slice va m vc) m _ (by rfl) R ⟨q, 0, none⟩ 1 1 x.cs (by rfl) rfl (fun j u hj => by rw [add0]; exact cell_blk hqb (by simpa using hj)) (fun u hu => by simp at hu; rcases hu with rfl | rfl | rfl | rfl | rfl <;> rfl) (by unfold maxLen; omega) (by omega) hsz ?_
            intro v1 w2 R1 hg1 hv1
            refine hK9 _ _ trivial ?_
            clear hK9 K9
            obtain ⟨a1, c1, rfl⟩ := row_shape R1
            have To1 := app_box To (by omega) R hg1
            have Fo1 := app_fz Fo (by omega) R hg1
            have Tt1 := app_box Tt (by omega) R hg1
            have Tr1 := app_box Tr (by omega) R hg1
            have Fr1 := app_fz Fr (by omega) R hg1
            have BB1 := app_below BB (by omega) R hg1
            have hsz1 := Nat.le_trans hsz hg1.size
            have o0 := To1 1 _ rfl
            have of := Fo1.1 1
            refine listS_step rfl fun K9 hK9 => ?_
            go_simp
            refine hK9 _ _ trivial ?_
            clear hK9 K9 o0 of
            have R2 := app_row R1 (ob := ob) (by omega) 1 (.slice a1 (m + 1) c1)
            have To2 := To1.set 1 (.slice a1 (m + 1) c1) (by simp)
            have Fo2 := Fo1.set ⟨ob, 1, none⟩ (.slice a1 (m + 1) c1)
            have Tt2 := Tt1.other (k' := ob) (by omega) 1 (.slice a1 (m + 1) c1)
            have Tr2 := Tr1.other (k' := ob) (by omega) 1 (.slice a1 (m + 1) c1)
            have Fr2 := Fr1.set ⟨ob, 1, none⟩ (.slice a1 (m + 1) c1)
            have BB2 := BB1.setCell (p := ⟨ob, 1, none⟩) (by simp only; omega) (.slice a1 (m + 1) c1)
            have hsz2 : b1 ≤ (w2.setCell ⟨ob, 1, none⟩ (.slice a1 (m + 1) c1)).heap.size := by simpa using hsz1
            have R02 := app_other R0 HV0.out R hg1 (by omega) 1 (.slice a1 (m + 1) c1)
            clear To1 Fo1 Tt1 Tr1 Fr1 BB1 hsz1 R1 hv1 hg1 To Fo Tt Tr Fr BB hsz R R0 hz
            obtain ⟨V9, hV9⟩ : ∃ V9, w2.setCell ⟨ob, 1, none⟩ (.slice a1 (m + 1) c1) = V9 := ⟨_, rfl⟩
            rw [hV9] at R2 To2 Fo2 Tt2 Tr2 Fr2 BB2 hsz2 R02 ⊢
            clear hV9
            unfold wpListS noPanic
            go_wp2_with fail
            go_roundw
            case rel => exact ⟨k + 1, by omega, by go_num, BB2, Tt2, Fo2, Tr2, Fr2, hsz2, R02, _, m + 1, by omega, Lib.hid (by rw [HF2.out, List.length_append, ← hml.out]; rfl), by rw [HF2.out, flatL_append, flatL_one]; exact R2, To2⟩
            case measure => simp [intOf]; omega
          ·
            have HF2 : Hid ((G.take (k + 1)).filter (fun g => !voidB g fr (nbs N)) = (G.take k).filter (fun g => !voidB g fr (nbs N))) := Lib.hid (by rw [HFS.out]; simp [HY.out])
            go_wp2_with fail
            go_roundw
            case rel => exact ⟨k + 1, by omega, by go_num, BB, Tt, Fo, Tr, Fr, hsz, R0, v, m, by omega, Lib.hid (by rw [HF2.out]; exact hml.out), by rw [HF2.out]; exact R, To⟩
            case measure => simp [intOf]; omega
        ·
          obtain rfl : ng = k := by omega
          have hlt' : ¬ (ng : Int) < (ng : Int) := by omega
          rw [show G.take ng = G from by rw [hgn.out]; exact List.take_length] at hml R
          have o0 := To 0 _ rfl
          have o1 := To 1 _ rfl
          have o2 := To 2 _ rfl
          have t0 := Tt 0 _ rfl
          have t1 := Tt 1 _ rfl
          have t2 := Tt 2 _ rfl
          have r0 := Tr 0 _ rfl
          have r1 := Tr 1 _ rfl
          have r2 := Tr 2 _ rfl
          have f0 := Fr.1 0
          have f1 := Fr.1 1
          have f2 := Fr.1 2
          obtain ⟨x0, d0, rfl, Q0, h1, h2⟩ := own_at us_size R0 hml0.out
          obtain ⟨x1, d1, rfl, Q1, h3, h4⟩ := own_at gr_size R hml.out
          go_wp2_with fail
          clear o0 o1 o2 t0 t1 t2 r0 r1 r2 f0 f1 f2
          have Tr2 := ((Tr.set 0 (.slice x0 m0 d0) (by simp)).set 1 (.slice x1 m d1) (by simp)).set 2 (.slice aa na ac) (by simp)
          have hrow0 : ∀ b, (Value.slice x0 m0 d0).ownBlock = some b → b ≠ w.heap.size + 1 := fun b hb => by have := (R0.lt b hb).1; omega
          have hrow1 : ∀ b, (Value.slice x1 m d1).ownBlock = some b → b ≠ w.heap.size + 1 := fun b hb => by have := (R.lt b hb).1; omega
          have S0 := set3 R0 (by omega) (.slice x0 m0 d0) (.slice x1 m d1) (.slice aa na ac) (k := w.heap.size + 1)
          have S1 := set3 R (by omega) (.slice x0 m0 d0) (.slice x1 m d1) (.slice aa na ac) (k := w.heap.size + 1)
          obtain ⟨x0', d0', e0, P0, -, -⟩ := own_at us_size S0 hml0.out
          obtain ⟨x1', d1', e1, P1, -, -⟩ := own_at gr_size S1 hml.out
          simp only [Value.slice.injEq, true_and] at e0 e1
          obtain ⟨rfl, rfl⟩ := e0
          obtain ⟨rfl, rfl⟩ := e1
          have BB2 := ((BB.setCell (p := ⟨w.heap.size + 1, 0, none⟩) (by simp only; omega) (.slice x0 m0 d0)).setCell (p := ⟨w.heap.size + 1, 1, none⟩) (by simp only; omega) (.slice x1 m d1)).setCell (p := ⟨w.heap.size + 1, 2, none⟩) (by simp only; omega) (.slice aa na ac)
          have hok : (⟨⟨_, _, A⟩, x0, m0, d0, x1, m, d1, aa, na, ac⟩ : Tv).ok _ := ⟨P0, P1, ht.out.a.keep BB2, hml0.out, hml.out, ht.out.an, h1, h3, ht.out.ac, h2, h4, ht.out.am, fun z hz => ht.out.uw z (List.mem_filter.1 hz).1, fun z hz => ht.out.gw z (List.mem_filter.1 hz).1⟩
          obtain ⟨V9, hV9⟩ : ∃ V9, ((wr.setCell ⟨w.heap.size + 1, 0, none⟩ (.slice x0 m0 d0)).setCell ⟨w.heap.size + 1, 1, none⟩ (.slice x1 m d1)).setCell ⟨w.heap.size + 1, 2, none⟩ (.slice aa na ac) = V9 := ⟨_, rfl⟩
          rw [hV9] at Tr2 BB2 hok ⊢
          clear hV9
          have r0 := Tr2 0 _ rfl
          have r1 := Tr2 1 _ rfl
          have r2 := Tr2 2 _ rfl
          refine bodyPost_ret (v := .agg #[.slice x0 m0 d0, .slice x1 m d1, .slice aa na ac]) (by simp [results, Try.results16, go_sem, r0, r1, r2]) rfl ⟨_, rfl, hok, rfl, BB2⟩
end Go.Proofs.Ytleenbfldkmcaaa
