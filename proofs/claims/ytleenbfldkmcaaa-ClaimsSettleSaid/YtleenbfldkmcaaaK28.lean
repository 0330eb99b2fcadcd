/- Proved: the law that there are no clashes once all have given up what they must. Conditions: what came in lies in memory. -/
import Derived.Test.YtleenbfldkmcaaaK28a
import Derived.Test.YtleenbfldkmcaaaK27
import Derived.Test.YtleenbfldkmcaaaK19
namespace Go.Proofs.Ytleenbfldkmcaaa
open Go.RowKit Go.Sort Go.BigFrame
set_option linter.unusedVariables false
set_option linter.unusedSimpArgs false
attribute [local go_sem] cell_alloc_old
theorem settle_all (H : List (List Bool)) (T : List Tb) (now : Int) (at' : Nat → Int) (ha : ∀ i, latB (at' i) now = true) : clashV (symV H T.length) (afterV (symV H T.length) T now at') now = [] :=
  settle (sym_square H _) (fun i k hi hk => sym_comm hi hk) ha
theorem symV_len (H : List (List Bool)) (n : Nat) : (symV H n).length = n := by simp [symV]
theorem symV_row (H : List (List Bool)) {n i : Nat} (h : i < n) : ((symV H n).getD i []).length = n := by simp [symV, h]

set_option maxRecDepth 100000 in
set_option maxHeartbeats 8000000 in
theorem settle_at (H : List (List Bool)) (m : Nat) (a : Option Addr) (ca : Nat) (T : List Tv) (k : Nat) (a2 : Option Addr) (cb : Nat) (f : Int) (late : List Bool) (l4 : Nat) (a4 : Option Addr) (c4 : Nat) (w : World)
    (hm : Hid (m = H.length)) (hk : Hid (k = T.length)) (hl4 : Hid (l4 = late.length)) (hH : TabAt w a H) (hT : TsAt w a2 T) (hL : BoolsAt w a4 late) (hm2 : m ≤ maxLen) (hk2 : k ≤ maxLen) (hl2 : l4 ≤ maxLen) (hf0 : 0 ≤ f) (hf1 : f ≤ 4294967295) :
    Calls Try.prog 5 #[.slice a m ca, .slice a2 k cb, .int .u32 f, .slice a4 l4 c4] w (Yes true w) := by
  have hl3 : l4 ≤ 9223372036854775807 := hl2
  obtain ⟨q3, hq3⟩ : ∃ q, fewTB H T = q := ⟨_, rfl⟩
  have HQ3 := Lib.hid hq3
  clear hq3
  go_enter Try.func5, Try.ntmps5
  go_wp2_with fail
  refine (head_any _).mono ?_
  rintro e w1 ⟨rfl, B0⟩
  replace hH := hH.keep B0
  replace hT := hT.keep B0
  replace hL := hL.keep B0
  go_wp2_with fail
  refine (fewt_at H T m k a a2 ca cb _ hm hk hH hT hm2 hk2 q3 HQ3).mono ?_
  rintro e w2 ⟨rfl, b2⟩
  replace hH := hH.keep b2
  replace hT := hT.keep b2
  replace hL := hL.keep b2
  replace B0 := bstep B0 b2
  clear b2
  cases q3
  · go_wp2_with fail
    go_ret
    exact ⟨rfl, B0⟩
  · have FEW := Lib.hid (few_tabs HQ3.out)
    have hk12 : k ≤ 12 := by have := FEW.out.1; have := hk.out; omega
    go_wp2_with fail
    refine (sym_at2 H m k a ca _ hm hH hm2 hk12).mono ?_
    rintro e W5 ⟨gA, rfl, hS, b5⟩
    replace hT := hT.keep b5
    replace hL := hL.keep b5
    replace B0 := bstep B0 b5
    clear b5 hH
    obtain ⟨now, hnow⟩ : ∃ now : Int, 1 + f = now := ⟨_, rfl⟩
    have hn1 : 1 ≤ now := by omega
    have hn2 : now ≤ 4294967296 := by omega
    rw [hnow]
    clear hnow
    obtain ⟨at', hat⟩ : ∃ at' : Nat → Int, (fun i => if late.getD i false = true then now - 1 else now) = at' := ⟨_, rfl⟩
    have HLAT : Hid (∀ i, latB (at' i) now = true) := Lib.hid (fun i => by
      rw [← hat]
      unfold latB
      have hw : wrap64 (now - 1) = now - 1 := by unfold wrap64; omega
      rw [hw]
      dsimp only
      split <;> simp)
    have HAT := Lib.hid hat
    clear hat
    have HS := Lib.hid hS; have HT := Lib.hid hT; have HLa := Lib.hid hL
    clear hS hT hL
    go_wp2_with fail
    go_loopw [12, 31] (fun o i wr => ∃ (j : Nat) (L : List Tv), j ≤ k ∧ i = .int .i64 j ∧ Hid (j = L.length) ∧ Hid (tbs L = aftTo (symV H k) (tbs T) now at' j) ∧ Hid (∀ y ∈ L, y.ng ≤ 1000 ∧ y.nu ≤ 1000) ∧ Below W5.heap.size W5 wr ∧ wr.ownsRow W5.heap.size 26 3 o j (flatL Tv.cs L) ∧ Hid (KeptT wr o L)) (fun _ i _ => k - (intOf i).toNat)
    case atStart => exact ⟨0, [], Nat.zero_le _, rfl, Lib.hid rfl, Lib.hid rfl, Lib.hid (fun y hy => by cases hy), Below.refl _ _, World.ownsRow_nil _ _ _ _, Lib.hid (KeptT.nil _ _)⟩
    case round =>
      obtain ⟨j, L, hj, rfl, hjl, hLT, hsm, BB, R, KT⟩ := hrel
      by_cases hlt : j < k
      · have hlt' : (j : Int) < (k : Int) := by omega
        have hj0 : (0 : Int) ≤ (j : Int) := by omega
        have hlen : j < T.length := by rw [← hk.out]; exact hlt
        obtain ⟨b1, off, rfl, -, t0, t1, t2⟩ := HT.out.at BB (i := j) hlen
        have ho := HT.out.2 _ (getD_mem hlen)
        have hx40 := FEW.out.2.2 _ (getD_mem hlen)
        have htx := tbs_at hlen
        obtain ⟨x, hx⟩ : ∃ x, T.getD j default = x := ⟨_, rfl⟩
        rw [hx] at t0 t1 t2 ho hx40 htx
        have HO := Lib.hid ho
        have HX40 := Lib.hid hx40
        have HTX := Lib.hid htx
        clear ho hx hx40 htx hlen
        go_upto_region 10 with (fail)
        clear t0 t1 t2
        have Tb := CAt.new wr [.slice x.ua x.nu x.uc, .slice x.ga x.ng x.gc, .slice x.aa x.na x.ac] 26
        have bA : Below wr.heap.size wr (wr.alloc (.cells #[.slice x.ua x.nu x.uc, .slice x.ga x.ng x.gc, .slice x.aa x.na x.ac] 26)) := ball (Below.refl _ _) _
        obtain ⟨V, hV⟩ : ∃ V, wr.alloc (.cells #[.slice x.ua x.nu x.uc, .slice x.ga x.ng x.gc, .slice x.aa x.na x.ac] 26) = V := ⟨_, rfl⟩
        rw [hV] at Tb bA ⊢
        clear hV
        obtain ⟨tb, htb⟩ : ∃ tb, wr.heap.size = tb := ⟨_, rfl⟩
        rw [htb] at Tb ⊢
        clear htb
        replace BB := bstep BB bA
        replace R := ownsRow_below R bA
        replace KT := Lib.hid (KT.out.keep bA)
        clear bA
        obtain ⟨z, hz⟩ : ∃ z, late.getD j false = z := ⟨_, rfl⟩
        have HZ := Lib.hid hz
        clear hz
        have HAJ : Hid (at' j = if z = true then now - 1 else now) := Lib.hid (by rw [← HAT.out, ← HZ.out])
        go_upto_region 11 with (fail)
        go_cut [46] (fun s46 wx => s46 = .bool z ∧ V = wx)
        case first =>
          by_cases hjl2 : j < l4
          · have hjl3 : (j : Int) < (l4 : Int) := by omega
            obtain ⟨b9, o9, rfl, d0⟩ := HLa.out.at BB (i := j) (by rw [← hl4.out]; exact hjl2)
            rw [HZ.out] at d0
            cases z
            all_goals
              go_wp2_with fail
              go_meet
              exact ⟨rfl, rfl⟩
          · have hjl3 : decide (j < l4) = false := by simp; omega
            have hzf : z = false := by rw [← HZ.out, List.getD_eq_getElem?_getD, List.getElem?_eq_none (by rw [← hl4.out]; omega)]; rfl
            subst hzf
            go_wp2_with fail
            go_meet
            exact ⟨rfl, rfl⟩
        case rest =>
          obtain ⟨rfl, rfl⟩ := hcut
          cases z
          ·
            go_upto_region 13 with (fail)
            have HATJ : Hid (now = at' j) := Lib.hid (by rw [HAJ.out]; rfl)
            have HSL : Hid ((symV H k).length = k) := Lib.hid (symV_len _ _)
            obtain ⟨Y, hY⟩ : ∃ Y, yieldV x.T j now (heardV (symV H k) (tbs T) j (now)) = Y := ⟨_, rfl⟩
            have HY := Lib.hid hY
            clear hY
            obtain ⟨LN, hLN⟩ : ∃ LN, hearTo (symV H k) T j (now) T.length = LN := ⟨_, rfl⟩
            have HLN := Lib.hid hLN
            clear hLN
            have HNB : Hid (nbs LN = heardV (symV H k) (tbs T) j (now)) := Lib.hid (by rw [← HLN.out]; exact hear_nbs _ _ _ _)
            obtain ⟨oa, oc, rfl⟩ := row_shape R
            obtain ⟨C, hC⟩ : ∃ C, flatL Tv.cs L = C := ⟨_, rfl⟩
            rw [hC] at R
            have HC := Lib.hid hC
            clear hC
            obtain ⟨i0, hi9, hz0, hz1, hz2⟩ := info_parts info26
            refine wp_region_steps (by kernel_rfl) (by kernel_rfl) (fun d vs w' => ∃ na nn nc r gb v2, JS W5 V (.slice oa j oc) (.slice gA k k) (.slice (some ⟨b1, off, none⟩) k cb) x j j (now) now C L LN Y d vs na nn nc r gb v2 w') ⟨none, 0, 0, default, 0, undef, JS.start BB R KT.out⟩ ?hs ?hend
            case hs =>
              refine ⟨stepJ_of rfl ?_, stepJ_of rfl ?_, stepJ_of rfl ?_, stepJ_of rfl ?_, stepJ_of rfl ?_, stepJ_of rfl ?_, stepJ_of rfl ?_, stepJ_of rfl ?_, stepJ_of rfl ?_, stepJ_of rfl ?_, stepJ_of rfl ?_, ?_, stepJ_of rfl ?_, trivial⟩
              all_goals rintro d vs w' ⟨na, nn, nc, r, gb, v2, hJ⟩ hd hp b' hb K hK
              ·
                have n12 : d 12 = false := by
                  cases h12 : d 12
                  · rfl
                  · exact absurd (hJ.c11 (hJ.c12 h12)).2 (by rw [hd]; simp)
                have e5 : b'.tmps.getD 12 undef = .slice oa j oc := hb.not 12 12 rfl n12
                go_simp
                exact hK _ _ _ rfl ⟨_, _, _, _, _, _, hJ.s0 hd⟩
              ·
                have e5 : b'.tmps.getD 14 undef = .pointer (some ⟨tb, 0, none⟩) := hb.old 14 (by kernel_rfl)
                have n11 : d 11 = false := by
                  cases h11 : d 11
                  · rfl
                  · exact absurd ((hJ.c9 (hJ.c10 (hJ.c11 h11).1)).1) (by rw [hd]; simp)
                have Tc := Tb.keep (hJ.bw n11)
                have c0 := Tc 0 _ rfl
                have c1 := Tc 1 _ rfl
                have c2 := Tc 2 _ rfl
                go_simp
                exact hK _ _ _ rfl ⟨_, _, _, _, _, _, hJ.s1 hd⟩
              ·
                have e5 : b'.tmps.getD 13 undef = .int .i64 j := hb.old 13 (by kernel_rfl)
                go_simp
                exact hK _ _ _ rfl ⟨_, _, _, _, _, _, hJ.s2 hd⟩
              ·
                have e5 : b'.tmps.getD 11 undef = .slice gA k k := hb.old 11 (by kernel_rfl)
                go_simp
                exact hK _ _ _ rfl ⟨_, _, _, _, _, _, hJ.s3 hd⟩
              ·
                have e5 : b'.tmps.getD 1 undef = .slice (some ⟨b1, off, none⟩) k cb := hb.old 1 (by kernel_rfl)
                go_simp
                exact hK _ _ _ rfl ⟨_, _, _, _, _, _, hJ.s4 hd⟩
              ·
                have e5 : b'.tmps.getD 13 undef = .int .i64 j := hb.old 13 (by kernel_rfl)
                go_simp
                exact hK _ _ _ rfl ⟨_, _, _, _, _, _, hJ.s5 hd⟩
              ·
                have e5 : b'.tmps.getD 15 undef = .int .i64 (now) := hb.old 15 (by kernel_rfl)
                go_simp
                exact hK _ _ _ rfl ⟨_, _, _, _, _, _, hJ.s6 hd⟩
              ·
                have p3 : d 3 = true := hp ⟨3, .data⟩ (by simp) rfl
                have p4 : d 4 = true := hp ⟨4, .data⟩ (by simp) rfl
                have p5 : d 5 = true := hp ⟨5, .data⟩ (by simp) rfl
                have p6 : d 6 = true := hp ⟨6, .data⟩ (by simp) rfl
                have g52 : b'.tmps.getD 52 undef = .slice gA k k := hb.at 3 52 rfl (by show (52:Nat) < 71; decide) p3 (hJ.f3 p3)
                have g53 : b'.tmps.getD 53 undef = .slice (some ⟨b1, off, none⟩) k cb := hb.at 4 53 rfl (by show (53:Nat) < 71; decide) p4 (hJ.f4 p4)
                have g54 : b'.tmps.getD 54 undef = .int .i64 j := hb.at 5 54 rfl (by show (54:Nat) < 71; decide) p5 (hJ.f5 p5)
                have g55 : b'.tmps.getD 55 undef = .int .i64 (now) := hb.at 6 55 rfl (by show (55:Nat) < 71; decide) p6 (hJ.f6 p6)
                have hS := HS.out.keep hJ.b
                have hT := HT.out.keep hJ.b
                go_simp
                refine (heard_at (symV H k) T k k j (now) gA _ k cb _ (Lib.hid HSL.out.symm) hk hS hT (by omega) hk2 hlt (Lib.hid (symV_row H hlt))).mono ?_
                rintro e u1 ⟨na2, nn2, nc2, rfl, hn1, hn2, hn3, hn4, bv⟩
                rw [HLN.out] at hn1 hn2
                exact hK _ _ _ rfl ⟨_, _, _, _, _, _, (hJ.keep bv).s7 hd ⟨hn1, hn2, Nat.le_trans hn3 hn4⟩⟩
              ·
                have e5 : b'.tmps.getD 10 undef = .int .i64 now := hb.old 10 (by kernel_rfl)
                go_simp
                exact hK _ _ _ rfl ⟨_, _, _, _, _, _, hJ.s8 hd⟩
              ·
                have p1 : d 1 = true := hp ⟨1, .data⟩ (by simp) rfl
                have p2 : d 2 = true := hp ⟨2, .data⟩ (by simp) rfl
                have p7 : d 7 = true := hp ⟨7, .data⟩ (by simp) rfl
                have p8 : d 8 = true := hp ⟨8, .data⟩ (by simp) rfl
                have g50 : b'.tmps.getD 50 undef = x.v := hb.at 1 50 rfl (by show (50:Nat) < 71; decide) p1 (hJ.f1 p1)
                have g51 : b'.tmps.getD 51 undef = .int .i64 j := hb.at 2 51 rfl (by show (51:Nat) < 71; decide) p2 (hJ.f2 p2)
                have g56 : b'.tmps.getD 56 undef = .slice na nn nc := hb.at 7 56 rfl (by show (56:Nat) < 71; decide) p7 (hJ.f7 p7)
                have g57 : b'.tmps.getD 57 undef = .int .i64 now := hb.at 8 57 rfl (by show (57:Nat) < 71; decide) p8 (hJ.f8 p8)
                have n11 : d 11 = false := by
                  cases h11 : d 11
                  · rfl
                  · exact absurd (hJ.c10 (hJ.c11 h11).1) (by rw [hd]; simp)
                obtain ⟨o1, o2, o3⟩ := hJ.o7 p7 n11
                have O2 := Lib.hid o2
                clear o2
                go_simp
                refine (yield_new x j now LN nn na nc _ (Lib.hid (HO.out.keep hJ.b)) O2 o1 o3 (Lib.hid ⟨HX40.out.2, HX40.out.1⟩)).mono ?_
                rintro e u1 ⟨r2, rfl, hr1, hr2, ⟨hr3, hr4, hr5⟩, bv⟩
                have e1 : r2.T = Y := by rw [hr2, HNB.out]; with_reducible exact HY.out
                have e2 := hr3.le (hJ.bw n11).size
                have e3 := hr4.le (hJ.bw n11).size
                have e4 := (hJ.keep bv).s9 hd p1 p7 hr1 ⟨e1, e2, e3, hr5⟩
                exact hK _ _ _ rfl ⟨_, _, _, _, _, _, e4⟩
              ·
                have p9 : d 9 = true := hp ⟨9, .data⟩ (by simp) rfl
                have g58 : b'.tmps.getD 58 undef = r.v := hb.at 9 58 rfl (by show (58:Nat) < 71; decide) p9 (hJ.f9 p9)
                have k58 : b'.tmps[58]?.getD undef = .agg #[.slice r.ua r.nu r.uc, .slice r.ga r.ng r.gc, .slice r.aa r.na r.ac] := by rw [← Array.getD_eq_getD_getElem?]; exact g58
                clear g58
                go_simp
                exact hK _ _ _ rfl ⟨_, _, _, _, _, _, hJ.s10 hd p9⟩
              ·
                have p0 : d 0 = true := hp ⟨0, .data⟩ (by simp) rfl
                have p10 : d 10 = true := hp ⟨10, .data⟩ (by simp) rfl
                have g49 : b'.tmps.getD 49 undef = .slice oa j oc := hb.at 0 49 rfl (by show (49:Nat) < 71; decide) p0 (hJ.f0 p0)
                have g59 : b'.tmps.getD 59 undef = .slice (some ⟨gb, 0, none⟩) 1 1 := hb.at 10 59 rfl (by show (59:Nat) < 71; decide) p10 (hJ.f10 p10)
                refine step_append_grown rfl (.tmp 49) (.tmp 59) 29 rfl W5.heap.size 26 i0 _ 3 72 Try.underlying29 hi9 hz0 hz1 hz2 rfl (by decide) (.slice oa j oc) j C g49 (hJ.ro hd) gb 0 1 1 r.cs g59 (tv_size r) (hJ.o10 p10 hd) (tv_one r) (by unfold maxLen; omega) (by omega) hJ.b.size ?_
                intro v' w1 own' grow' blk' B'
                exact hK _ _ _ rfl ⟨_, _, _, _, _, _, hJ.s11 hd p10 p0 R HO.out (hJ.b.trans B') grow' blk' own'⟩
              ·
                have p11 : d 11 = true := hp ⟨11, .data⟩ (by simp) rfl
                have g60 : b'.tmps.getD 60 undef = v2 := hb.at 11 60 rfl (by show (60:Nat) < 71; decide) p11 (hJ.f11 p11)
                go_simp
                exact hK _ _ _ rfl ⟨_, _, _, _, _, _, hJ.s12 hd p11⟩
            case hend =>
              rintro d vs w' hall ⟨na, nn, nc, r, gb, v2, hJ⟩
              have vv := hJ.f12 (hall 12 (by decide))
              simp only [allA, Act.put, List.setIfInBounds_toArray, List.set_cons_zero, List.set_cons_succ, vv]
              obtain ⟨KT1, own1⟩ := hJ.o11 (hall 11 (by decide))
              have BB1 := hJ.b
              have hrT := (hJ.e9 (hall 9 (by decide))).1
              have hr40 : r.nu ≤ 1000 ∧ r.ng ≤ 1000 := yield_len HO.out (KT1 r (by simp)).1 (hrT.trans HY.out.symm) ⟨HX40.out.2, HX40.out.1⟩
              have HRT : Hid (tbs (L ++ [r]) = aftTo (symV H k) (tbs T) now at' (j + 1)) := Lib.hid (by rw [tbs_append, aftTo_succ, hLT.out, hrT, ← HY.out, HTX.out, HATJ.out])
              have HSM : Hid (∀ y ∈ L ++ [r], y.ng ≤ 1000 ∧ y.nu ≤ 1000) := Lib.hid (fun y hy => by
                rw [List.mem_append, List.mem_singleton] at hy
                rcases hy with hy | rfl
                · exact hsm.out y hy
                · exact ⟨hr40.2, hr40.1⟩)
              have HKT := Lib.hid KT1
              have HLL : Hid (j + 1 = (L ++ [r]).length) := Lib.hid (by rw [List.length_append, ← hjl.out]; rfl)
              have HR : Hid (w'.ownsRow W5.heap.size 26 3 v2 (j + 1) (flatL Tv.cs (L ++ [r]))) := Lib.hid (by rw [flatL_append, flatL_one, HC.out]; exact own1)
              clear hJ hall vv KT1 own1 hrT hr40 hi9 hz0 hz1 hz2
              go_wp2_with fail
              go_roundw
              case rel => exact ⟨j + 1, L ++ [r], by omega, by go_num, HLL, HRT, HSM, BB1, HR.out, HKT⟩
              case measure => simp [intOf]; omega
          ·
            go_upto_region 13 with (fail)
            have HATJ : Hid (now - 1 = at' j) := Lib.hid (by rw [HAJ.out]; rfl)
            have HSL : Hid ((symV H k).length = k) := Lib.hid (symV_len _ _)
            obtain ⟨Y, hY⟩ : ∃ Y, yieldV x.T j now (heardV (symV H k) (tbs T) j (now - 1)) = Y := ⟨_, rfl⟩
            have HY := Lib.hid hY
            clear hY
            obtain ⟨LN, hLN⟩ : ∃ LN, hearTo (symV H k) T j (now - 1) T.length = LN := ⟨_, rfl⟩
            have HLN := Lib.hid hLN
            clear hLN
            have HNB : Hid (nbs LN = heardV (symV H k) (tbs T) j (now - 1)) := Lib.hid (by rw [← HLN.out]; exact hear_nbs _ _ _ _)
            obtain ⟨oa, oc, rfl⟩ := row_shape R
            obtain ⟨C, hC⟩ : ∃ C, flatL Tv.cs L = C := ⟨_, rfl⟩
            rw [hC] at R
            have HC := Lib.hid hC
            clear hC
            obtain ⟨i0, hi9, hz0, hz1, hz2⟩ := info_parts info26
            refine wp_region_steps (by kernel_rfl) (by kernel_rfl) (fun d vs w' => ∃ na nn nc r gb v2, JS W5 V (.slice oa j oc) (.slice gA k k) (.slice (some ⟨b1, off, none⟩) k cb) x j j (now - 1) now C L LN Y d vs na nn nc r gb v2 w') ⟨none, 0, 0, default, 0, undef, JS.start BB R KT.out⟩ ?hs ?hend
            case hs =>
              refine ⟨stepJ_of rfl ?_, stepJ_of rfl ?_, stepJ_of rfl ?_, stepJ_of rfl ?_, stepJ_of rfl ?_, stepJ_of rfl ?_, stepJ_of rfl ?_, stepJ_of rfl ?_, stepJ_of rfl ?_, stepJ_of rfl ?_, stepJ_of rfl ?_, ?_, stepJ_of rfl ?_, trivial⟩
              all_goals rintro d vs w' ⟨na, nn, nc, r, gb, v2, hJ⟩ hd hp b' hb K hK
              ·
                have n12 : d 12 = false := by
                  cases h12 : d 12
                  · rfl
                  · exact absurd (hJ.c11 (hJ.c12 h12)).2 (by rw [hd]; simp)
                have e5 : b'.tmps.getD 12 undef = .slice oa j oc := hb.not 12 12 rfl n12
                go_simp
                exact hK _ _ _ rfl ⟨_, _, _, _, _, _, hJ.s0 hd⟩
              ·
                have e5 : b'.tmps.getD 14 undef = .pointer (some ⟨tb, 0, none⟩) := hb.old 14 (by kernel_rfl)
                have n11 : d 11 = false := by
                  cases h11 : d 11
                  · rfl
                  · exact absurd ((hJ.c9 (hJ.c10 (hJ.c11 h11).1)).1) (by rw [hd]; simp)
                have Tc := Tb.keep (hJ.bw n11)
                have c0 := Tc 0 _ rfl
                have c1 := Tc 1 _ rfl
                have c2 := Tc 2 _ rfl
                go_simp
                exact hK _ _ _ rfl ⟨_, _, _, _, _, _, hJ.s1 hd⟩
              ·
                have e5 : b'.tmps.getD 13 undef = .int .i64 j := hb.old 13 (by kernel_rfl)
                go_simp
                exact hK _ _ _ rfl ⟨_, _, _, _, _, _, hJ.s2 hd⟩
              ·
                have e5 : b'.tmps.getD 11 undef = .slice gA k k := hb.old 11 (by kernel_rfl)
                go_simp
                exact hK _ _ _ rfl ⟨_, _, _, _, _, _, hJ.s3 hd⟩
              ·
                have e5 : b'.tmps.getD 1 undef = .slice (some ⟨b1, off, none⟩) k cb := hb.old 1 (by kernel_rfl)
                go_simp
                exact hK _ _ _ rfl ⟨_, _, _, _, _, _, hJ.s4 hd⟩
              ·
                have e5 : b'.tmps.getD 13 undef = .int .i64 j := hb.old 13 (by kernel_rfl)
                go_simp
                exact hK _ _ _ rfl ⟨_, _, _, _, _, _, hJ.s5 hd⟩
              ·
                have e5 : b'.tmps.getD 15 undef = .int .i64 (now - 1) := hb.old 15 (by kernel_rfl)
                go_simp
                exact hK _ _ _ rfl ⟨_, _, _, _, _, _, hJ.s6 hd⟩
              ·
                have p3 : d 3 = true := hp ⟨3, .data⟩ (by simp) rfl
                have p4 : d 4 = true := hp ⟨4, .data⟩ (by simp) rfl
                have p5 : d 5 = true := hp ⟨5, .data⟩ (by simp) rfl
                have p6 : d 6 = true := hp ⟨6, .data⟩ (by simp) rfl
                have g52 : b'.tmps.getD 52 undef = .slice gA k k := hb.at 3 52 rfl (by show (52:Nat) < 71; decide) p3 (hJ.f3 p3)
                have g53 : b'.tmps.getD 53 undef = .slice (some ⟨b1, off, none⟩) k cb := hb.at 4 53 rfl (by show (53:Nat) < 71; decide) p4 (hJ.f4 p4)
                have g54 : b'.tmps.getD 54 undef = .int .i64 j := hb.at 5 54 rfl (by show (54:Nat) < 71; decide) p5 (hJ.f5 p5)
                have g55 : b'.tmps.getD 55 undef = .int .i64 (now - 1) := hb.at 6 55 rfl (by show (55:Nat) < 71; decide) p6 (hJ.f6 p6)
                have hS := HS.out.keep hJ.b
                have hT := HT.out.keep hJ.b
                go_simp
                refine (heard_at (symV H k) T k k j (now - 1) gA _ k cb _ (Lib.hid HSL.out.symm) hk hS hT (by omega) hk2 hlt (Lib.hid (symV_row H hlt))).mono ?_
                rintro e u1 ⟨na2, nn2, nc2, rfl, hn1, hn2, hn3, hn4, bv⟩
                rw [HLN.out] at hn1 hn2
                exact hK _ _ _ rfl ⟨_, _, _, _, _, _, (hJ.keep bv).s7 hd ⟨hn1, hn2, Nat.le_trans hn3 hn4⟩⟩
              ·
                have e5 : b'.tmps.getD 10 undef = .int .i64 now := hb.old 10 (by kernel_rfl)
                go_simp
                exact hK _ _ _ rfl ⟨_, _, _, _, _, _, hJ.s8 hd⟩
              ·
                have p1 : d 1 = true := hp ⟨1, .data⟩ (by simp) rfl
                have p2 : d 2 = true := hp ⟨2, .data⟩ (by simp) rfl
                have p7 : d 7 = true := hp ⟨7, .data⟩ (by simp) rfl
                have p8 : d 8 = true := hp ⟨8, .data⟩ (by simp) rfl
                have g50 : b'.tmps.getD 50 undef = x.v := hb.at 1 50 rfl (by show (50:Nat) < 71; decide) p1 (hJ.f1 p1)
                have g51 : b'.tmps.getD 51 undef = .int .i64 j := hb.at 2 51 rfl (by show (51:Nat) < 71; decide) p2 (hJ.f2 p2)
                have g56 : b'.tmps.getD 56 undef = .slice na nn nc := hb.at 7 56 rfl (by show (56:Nat) < 71; decide) p7 (hJ.f7 p7)
                have g57 : b'.tmps.getD 57 undef = .int .i64 now := hb.at 8 57 rfl (by show (57:Nat) < 71; decide) p8 (hJ.f8 p8)
                have n11 : d 11 = false := by
                  cases h11 : d 11
                  · rfl
                  · exact absurd (hJ.c10 (hJ.c11 h11).1) (by rw [hd]; simp)
                obtain ⟨o1, o2, o3⟩ := hJ.o7 p7 n11
                have O2 := Lib.hid o2
                clear o2
                go_simp
                refine (yield_new x j now LN nn na nc _ (Lib.hid (HO.out.keep hJ.b)) O2 o1 o3 (Lib.hid ⟨HX40.out.2, HX40.out.1⟩)).mono ?_
                rintro e u1 ⟨r2, rfl, hr1, hr2, ⟨hr3, hr4, hr5⟩, bv⟩
                have e1 : r2.T = Y := by rw [hr2, HNB.out]; with_reducible exact HY.out
                have e2 := hr3.le (hJ.bw n11).size
                have e3 := hr4.le (hJ.bw n11).size
                have e4 := (hJ.keep bv).s9 hd p1 p7 hr1 ⟨e1, e2, e3, hr5⟩
                exact hK _ _ _ rfl ⟨_, _, _, _, _, _, e4⟩
              ·
                have p9 : d 9 = true := hp ⟨9, .data⟩ (by simp) rfl
                have g58 : b'.tmps.getD 58 undef = r.v := hb.at 9 58 rfl (by show (58:Nat) < 71; decide) p9 (hJ.f9 p9)
                have k58 : b'.tmps[58]?.getD undef = .agg #[.slice r.ua r.nu r.uc, .slice r.ga r.ng r.gc, .slice r.aa r.na r.ac] := by rw [← Array.getD_eq_getD_getElem?]; exact g58
                clear g58
                go_simp
                exact hK _ _ _ rfl ⟨_, _, _, _, _, _, hJ.s10 hd p9⟩
              ·
                have p0 : d 0 = true := hp ⟨0, .data⟩ (by simp) rfl
                have p10 : d 10 = true := hp ⟨10, .data⟩ (by simp) rfl
                have g49 : b'.tmps.getD 49 undef = .slice oa j oc := hb.at 0 49 rfl (by show (49:Nat) < 71; decide) p0 (hJ.f0 p0)
                have g59 : b'.tmps.getD 59 undef = .slice (some ⟨gb, 0, none⟩) 1 1 := hb.at 10 59 rfl (by show (59:Nat) < 71; decide) p10 (hJ.f10 p10)
                refine step_append_grown rfl (.tmp 49) (.tmp 59) 29 rfl W5.heap.size 26 i0 _ 3 72 Try.underlying29 hi9 hz0 hz1 hz2 rfl (by decide) (.slice oa j oc) j C g49 (hJ.ro hd) gb 0 1 1 r.cs g59 (tv_size r) (hJ.o10 p10 hd) (tv_one r) (by unfold maxLen; omega) (by omega) hJ.b.size ?_
                intro v' w1 own' grow' blk' B'
                exact hK _ _ _ rfl ⟨_, _, _, _, _, _, hJ.s11 hd p10 p0 R HO.out (hJ.b.trans B') grow' blk' own'⟩
              ·
                have p11 : d 11 = true := hp ⟨11, .data⟩ (by simp) rfl
                have g60 : b'.tmps.getD 60 undef = v2 := hb.at 11 60 rfl (by show (60:Nat) < 71; decide) p11 (hJ.f11 p11)
                go_simp
                exact hK _ _ _ rfl ⟨_, _, _, _, _, _, hJ.s12 hd p11⟩
            case hend =>
              rintro d vs w' hall ⟨na, nn, nc, r, gb, v2, hJ⟩
              have vv := hJ.f12 (hall 12 (by decide))
              simp only [allA, Act.put, List.setIfInBounds_toArray, List.set_cons_zero, List.set_cons_succ, vv]
              obtain ⟨KT1, own1⟩ := hJ.o11 (hall 11 (by decide))
              have BB1 := hJ.b
              have hrT := (hJ.e9 (hall 9 (by decide))).1
              have hr40 : r.nu ≤ 1000 ∧ r.ng ≤ 1000 := yield_len HO.out (KT1 r (by simp)).1 (hrT.trans HY.out.symm) ⟨HX40.out.2, HX40.out.1⟩
              have HRT : Hid (tbs (L ++ [r]) = aftTo (symV H k) (tbs T) now at' (j + 1)) := Lib.hid (by rw [tbs_append, aftTo_succ, hLT.out, hrT, ← HY.out, HTX.out, HATJ.out])
              have HSM : Hid (∀ y ∈ L ++ [r], y.ng ≤ 1000 ∧ y.nu ≤ 1000) := Lib.hid (fun y hy => by
                rw [List.mem_append, List.mem_singleton] at hy
                rcases hy with hy | rfl
                · exact hsm.out y hy
                · exact ⟨hr40.2, hr40.1⟩)
              have HKT := Lib.hid KT1
              have HLL : Hid (j + 1 = (L ++ [r]).length) := Lib.hid (by rw [List.length_append, ← hjl.out]; rfl)
              have HR : Hid (w'.ownsRow W5.heap.size 26 3 v2 (j + 1) (flatL Tv.cs (L ++ [r]))) := Lib.hid (by rw [flatL_append, flatL_one, HC.out]; exact own1)
              clear hJ hall vv KT1 own1 hrT hr40 hi9 hz0 hz1 hz2
              go_wp2_with fail
              go_roundw
              case rel => exact ⟨j + 1, L ++ [r], by omega, by go_num, HLL, HRT, HSM, BB1, HR.out, HKT⟩
              case measure => simp [intOf]; omega
      · obtain rfl : k = j := by omega
        have hlt' : ¬ (k : Int) < (k : Int) := by omega
        obtain ⟨aL, cL, rfl, hl1, hl2, hl3⟩ := own_at tv_size R hjl.out
        have hTS : TsAt wr aL L := ⟨hl1, fun y hy => (KT.out y hy).1⟩
        have hcl : clashV (symV H k) (tbs L) now = [] := by
          rw [hLT.out, hk.out, ← tbs_len T, aftTo_all]
          exact settle_all H (tbs T) now at' HLAT.out
        have HCL := Lib.hid hcl
        clear hcl hl1 R KT
        go_wp2_with fail
        refine (clash_at (symV H k) L now k k gA aL k cL _ (Lib.hid (symV_len _ _).symm) hjl (HS.out.keep BB) hTS hk12 hsm).mono ?_
        rintro e w9 ⟨r1, r2, r3, rfl, h1, h2, h3, h4, b9⟩
        rw [HCL.out] at h2
        obtain rfl : r2 = 0 := h2
        clear h1 hTS
        go_wp2_with fail
        go_ret
        exact ⟨rfl, bstep (bstep B0 BB) b9⟩
end Go.Proofs.Ytleenbfldkmcaaa
