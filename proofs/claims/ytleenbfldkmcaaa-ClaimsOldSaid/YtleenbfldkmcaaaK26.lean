/- Proved: the law that old beacons and ended grants have no influence. Conditions: what came in lies in memory. -/
import Derived.Test.YtleenbfldkmcaaaK26a
import Derived.Test.YtleenbfldkmcaaaK19
namespace Go.Proofs.Ytleenbfldkmcaaa
open Go.RowKit Go.Sort Go.BigFrame
set_option linter.unusedVariables false
set_option linter.unusedSimpArgs false
attribute [local go_sem] cell_alloc_old
attribute [local go_sem ↓] exec_load61 exec_store61
structure MO (k0 : Nat) (t : Tv) (N : List Nv) (a : Option Addr) (w : World) : Prop where
  c : CAt w k0 t.cs
  o0 : t.ok w
  n : NsAt w a N
theorem MO.keep {k0 : Nat} {t : Tv} {N : List Nv} {a : Option Addr} {w w' : World} (h : MO k0 t N a w) (hb : Below w.heap.size w w') : MO k0 t N a w' := ⟨h.c.keep hb, h.o0.keep hb, h.n.keep hb⟩
theorem few_all {N : List Nv} (h : fewNB N = true) : N.length ≤ 70 ∧ ∀ j, j < N.length → (N.getD j default).nu ≤ 40 ∧ (N.getD j default).ng ≤ 40 := by
  unfold fewNB at h
  simp only [Bool.and_eq_true, decide_eq_true_eq] at h
  exact ⟨by omega, nearTo_iff.1 h.1⟩
theorem frz_setCells (b : Nat) (p : Addr) : ∀ (vs : List Value) (o : Nat) (w : World), (w.setCells b o vs).frozen? p = w.frozen? p
  | [], _, _ => rfl
  | v :: r, o, w => by rw [World.setCells, frz_setCells b p r (o + 1), World.frozen?_setCell]
theorem run_new61f (w : World) (x : Nv) : ∃ V, (store61 (.pointer (some ⟨w.heap.size, 0, none⟩)) x.v).run Try.prog (w.alloc (.cells Z61 61)) = .ok () V ∧ CAt V w.heap.size x.cs ∧ Below w.heap.size w V ∧ V.heap.size = w.heap.size + 1 ∧ Fz V w.heap.size := by
  unfold store61
  refine ⟨_, run_storeAt_mid (P := Try.prog) (w.alloc (.cells Z61 61)) w.heap.size 0 61 x.cs.toArray (there_new w Z61.toList 61) (by kernel_rfl) (by simp [Value.oneCell']), (new_filled w Z61.toList x.cs 61 rfl).1, (new_filled w Z61.toList x.cs 61 rfl).2.1, (new_filled w Z61.toList x.cs 61 rfl).2.2, fun j => ?_, ?_⟩
  · exact (frz_setCells _ _ _ _ _).trans ((Fz.new w Z61 61).1 j)
  · have := (new_filled w Z61.toList x.cs 61 rfl).2.2
    show w.heap.size < _
    exact Nat.lt_of_lt_of_eq (Nat.lt_succ_self _) this.symm
theorem gr_one (x : Gr) : ∀ u ∈ x.cs, u.oneCell' = true := by simp [Value.oneCell']
theorem set13 (x : Nv) (v v' : Value) : (x.cs.set 13 v).set 13 v' = x.cs.set 13 v' := by rw [List.set_set]

set_option maxRecDepth 100000 in
set_option maxHeartbeats 16000000 in
theorem old_at (t : Tv) (me fr : Int) (N : List Nv) (n : Nat) (a : Option Addr) (cap : Nat) (w : World)
    (hn : Hid (n = N.length)) (ht : t.ok w) (hN : NsAt w a N) (hn2 : n ≤ maxLen) :
    Calls Try.prog 7 #[t.v, .int .i64 me, .slice a n cap, .int .i64 fr] w (Yes true w) := by
  obtain ⟨q1, hq1⟩ : ∃ q, fewB t = q := ⟨_, rfl⟩
  obtain ⟨q2, hq2⟩ : ∃ q, fewNB N = q := ⟨_, rfl⟩
  have HQ1 := Lib.hid hq1; have HQ2 := Lib.hid hq2
  clear hq1 hq2
  have bA : Below w.heap.size w (w.alloc (.cells #[.slice t.ua t.nu t.uc, .slice t.ga t.ng t.gc, .slice t.aa t.na t.ac] 26)) := ball (Below.refl _ _) _
  have HM : Hid (MO w.heap.size t N a (w.alloc (.cells #[.slice t.ua t.nu t.uc, .slice t.ga t.ng t.gc, .slice t.aa t.na t.ac] 26))) := Lib.hid ⟨CAt.new w [.slice t.ua t.nu t.uc, .slice t.ga t.ng t.gc, .slice t.aa t.na t.ac] 26, ht.keep bA, hN.keep bA⟩
  clear ht hN
  have hn3 : n ≤ 9223372036854775807 := hn2
  by_cases hf : fr < -1152921504606846976
  all_goals
    go_enter Try.func7, Try.ntmps7
    go_wp2_with fail
    refine (head_any _).mono ?_
    rintro e w1 ⟨rfl, b1⟩
    have H1 := HM.out.keep b1
    have B0 := bstep bA b1
    clear b1 bA HM
    have c0 := H1.c 0 _ rfl
    have c1 := H1.c 1 _ rfl
    have c2 := H1.c 2 _ rfl
  ·
    go_wp2_with fail
    go_ret
    exact ⟨rfl, B0⟩
  ·
    go_wp2_with fail
    refine (few_at t q1 _ HQ1.out).mono ?_
    rintro e w2 ⟨rfl, b2⟩
    replace H1 := H1.keep b2
    replace B0 := bstep B0 b2
    clear b2 c0 c1 c2
    cases q1
    ·
      go_wp2_with fail
      go_ret
      exact ⟨rfl, B0⟩
    ·
      go_wp2_with fail
      refine (fewnear_at N n a cap _ hn H1.n hn2 q2 HQ2).mono ?_
      rintro e W5 ⟨rfl, b2⟩
      replace H1 := H1.keep b2
      replace B0 := bstep B0 b2
      clear b2
      cases q2
      ·
        go_wp2_with fail
        go_ret
        exact ⟨rfl, B0⟩
      ·
        have W40 := Lib.hid (few_40 HQ1.out)
        have hn70 : n ≤ 70 := by have := (few_all HQ2.out).1; have := hn.out; omega
        go_wp2_with fail
        go_loopw [10, 32] (fun o i wr => ∃ (k q : Nat) (L : List Nv), k ≤ n ∧ q ≤ k ∧ i = .int .i64 k ∧ Hid (q = L.length) ∧ Hid (nbs L = latelyV (nbs (N.take k)) fr) ∧ Below W5.heap.size W5 wr ∧ wr.ownsRow W5.heap.size 61 31 o q (flatL Nv.cs L) ∧ Hid (KeptAt wr o L)) (fun _ i _ => n - (intOf i).toNat)
        case atStart => exact ⟨0, 0, [], Nat.zero_le _, Nat.le_refl _, rfl, Lib.hid rfl, Lib.hid rfl, Below.refl _ _, World.ownsRow_nil _ _ _ _, Lib.hid (KeptAt.nil _ _)⟩
        case round =>
          obtain ⟨k, q, L, hk, hq, rfl, hql, hL, BB, R, KA⟩ := hrel
          by_cases hlt : k < n
          ·
            have hlt' : (k : Int) < (n : Int) := by omega
            have hk0 : (0 : Int) ≤ (k : Int) := by omega
            have hlen : k < N.length := by rw [← hn.out]; exact hlt
            obtain ⟨b, off, e1, ho, hc⟩ := H1.n.at BB (i := k) hlen
            have hx40 := ((few_all HQ2.out).2 k hlen).2
            have hls := lately_succ (nbs N) fr (k := k) (by rw [nbs_len]; exact hlen)
            rw [nbs_at hlen, nbs_take, nbs_take] at hls
            have hxw := ((H1.n.2 _ (getD_mem hlen)).u.where (by simp))
            obtain ⟨x, hx⟩ : ∃ x, N.getD k default = x := ⟨_, rfl⟩
            rw [hx] at hc ho hls hx40 hxw
            have HLS := Lib.hid hls; have HXW := Lib.hid hxw
            have hgm := ho.gm; have hgc := ho.gc
            unfold maxLen at hgm
            clear hx hls hxw hlen
            have hld := run_load61 (o := off + k * 31) x hc
            clear hc
            obtain ⟨V, hst, Tx, BV, hVs⟩ := run_new61 wr x
            unfold Z61 at hst
            rw [e1]
            have HVs := Lib.hid hVs
            clear hVs
            go_upto_region 8 with (fail)
            clear hld hst
            have HO := Lib.hid (ho.keep BV)
            replace BB := bstep BB BV
            replace R := ownsRow_below R BV
            replace KA := Lib.hid (KA.out.keep BV)
            clear BV ho
            obtain ⟨nb, hnb⟩ : ∃ nb, wr.heap.size = nb := ⟨_, rfl⟩
            rw [hnb] at Tx ⊢
            have HNB : Hid (nb < V.heap.size) := Lib.hid (by rw [HVs.out, hnb]; exact Nat.lt_succ_self _)
            clear hnb HVs
            obtain ⟨p1, h1⟩ : ∃ p1, (x.B.f != fr) = p1 := ⟨_, rfl⟩
            obtain ⟨p2, h2⟩ : ∃ p2, (x.B.f != wrap64 (fr - 1)) = p2 := ⟨_, rfl⟩
            have HL : Hid (latB x.B.f fr = (!p1 || !p2)) := Lib.hid (by unfold latB; rw [← h1, ← h2]; simp [bne])
            have x0 := Tx 0 _ rfl
            cases p1
            ·
              have hld2 : (load61 (.pointer (some ⟨nb, 0, none⟩))).run Try.prog V = .ok x.v V := run_load61 (o := 0) x (fun j v hj => by rw [Nat.zero_add]; exact Tx j v hj)
              obtain ⟨V2, hst2, Tb, BV2, hV2s, Fb⟩ := run_new61f V x
              unfold Z61 at hst2
              obtain ⟨tb, htb⟩ : ∃ tb, V.heap.size = tb := ⟨_, rfl⟩
              have hlt3 : nb < tb := by rw [← htb]; exact HNB.out
              have Tx2 := Tx.keep BV2
              rw [htb] at hst2 Tb hV2s Fb
              have HTB := Lib.hid htb
              have hal : (V.alloc (.cells #[] 0)).heap.size = tb + 1 := by simp [htb]
              clear hal
              have x13 := Tx2 13 _ rfl
              have t13 := Tb 13 _ rfl
              have f13 := Fb.1 13
              have hne1 : ¬ nb = tb := by omega
              have hne2 : ¬ tb = nb := by omega
              go_upto_region 11 with (fail)
              clear hld2 hst2 htb x13 t13 f13
              have BV3 : Below V.heap.size V (V2.setCell ⟨tb, 13, none⟩ (.slice none 0 0)) := BV2.setCell (p := ⟨tb, 13, none⟩) (by rw [HTB.out]; exact Nat.le_refl _) _
              have Tx3 : CAt (V2.setCell ⟨tb, 13, none⟩ (.slice none 0 0)) nb x.cs := Tx2.other hne2 13 _
              have Tb3 : CAt (V2.setCell ⟨tb, 13, none⟩ (.slice none 0 0)) tb (x.cs.set 13 (.slice none 0 0)) := Tb.set 13 _ (by simp)
              have Fb3 : Fz (V2.setCell ⟨tb, 13, none⟩ (.slice none 0 0)) tb := Fb.set _ _
              have hs3 : (V2.setCell ⟨tb, 13, none⟩ (.slice none 0 0)).heap.size = tb + 1 := by simp [hV2s]
              obtain ⟨V3, hV3⟩ : ∃ V3, V2.setCell ⟨tb, 13, none⟩ (.slice none 0 0) = V3 := ⟨_, rfl⟩
              rw [hV3] at BV3 Tx3 Tb3 Fb3 hs3 ⊢
              clear hV3 Tb Tx2 Fb BV2 hV2s
              have HS3 := Lib.hid hs3
              clear hs3
              have x13 := Tx3 13 _ rfl
              obtain ⟨ad, had⟩ : ∃ ad, x.ga = ad := ⟨_, rfl⟩
              rw [had] at x13
              have HAD := Lib.hid had
              clear had
              go_wp2_with fail
              clear x13 hne1 hne2
              go_loopw [54] (fun i wr => ∃ (l m : Nat) (v : Value), l ≤ x.ng ∧ m ≤ l ∧ i = .int .i64 l ∧ Hid (m = ((x.B.G.take l).filter (fun g : Gr => decide (fr ≤ g.u))).length) ∧ wr.ownsRow (tb + 1) 63 5 v m (flatL Gr.cs ((x.B.G.take l).filter (fun g : Gr => decide (fr ≤ g.u)))) ∧ CAt wr tb (x.cs.set 13 v) ∧ Fz wr tb ∧ Below V.heap.size V wr ∧ tb + 1 ≤ wr.heap.size) (fun i _ => x.ng - (intOf i).toNat)
              case atStart => exact ⟨0, 0, .slice none 0 0, Nat.zero_le _, Nat.le_refl _, rfl, Lib.hid rfl, World.ownsRow_nil _ _ _ _, Tb3, Fb3, BV3, Nat.le_of_eq HS3.out.symm⟩
              case round =>
                clear Tb3 Fb3 BV3 Tx3
                obtain ⟨l, m, v, hl, hml, rfl, hmf, Rg, Tb, Fb, B2, hsz⟩ := hrel
                by_cases hlt2 : l < x.ng
                ·
                  have hlt2' : (l : Int) < (x.ng : Int) := by omega
                  have hl0 : (0 : Int) ≤ (l : Int) := by omega
                  have hlen : l < x.B.G.length := by rw [← HO.out.gn]; exact hlt2
                  obtain ⟨b3, off3, e3, d0, d1, d2, d3, d4⟩ := HO.out.g.gr B2 (i := l) hlen
                  have hfs := filter_snoc (fun g : Gr => decide (fr ≤ g.u)) hlen
                  obtain ⟨y, hy⟩ : ∃ y, x.B.G.getD l default = y := ⟨_, rfl⟩
                  simp only [hy] at d0 d1 d2 d3 d4 hfs
                  have HFS := Lib.hid hfs
                  clear hy hfs hlen
                  obtain rfl : ad = some ⟨b3, off3, none⟩ := HAD.out.symm.trans e3
                  clear e3
                  go_upto_region 14 with (fail)
                  clear d0 d1 d2 d3 d4
                  have B2a : Below wr.heap.size wr (wr.alloc (.cells #[.int .i64 y.s, .int .i64 y.o, .int .i64 y.p, .int .i64 y.t, .int .i64 y.u] 63)) := ball (Below.refl _ _) _
                  have Ty := CAt.new wr [.int .i64 y.s, .int .i64 y.o, .int .i64 y.p, .int .i64 y.t, .int .i64 y.u] 63
                  replace Tb := Tb.keep B2a
                  replace Fb := Fb.keep B2a
                  replace Rg := ownsRow_below Rg B2a
                  have hsz2 := Nat.le_trans hsz B2a.size
                  obtain ⟨V4, hV4⟩ : ∃ V4, wr.alloc (.cells #[.int .i64 y.s, .int .i64 y.o, .int .i64 y.p, .int .i64 y.t, .int .i64 y.u] 63) = V4 := ⟨_, rfl⟩
                  rw [hV4] at B2a Ty Tb Fb Rg hsz2 ⊢
                  clear hV4
                  obtain ⟨yb, hyb⟩ : ∃ yb, wr.heap.size = yb := ⟨_, rfl⟩
                  rw [hyb] at Ty ⊢
                  clear hyb hsz
                  replace B2 := bstep B2 B2a
                  clear B2a
                  have y0 := Ty 0 _ rfl
                  have y1 := Ty 1 _ rfl
                  have y2 := Ty 2 _ rfl
                  have y3 := Ty 3 _ rfl
                  have y4 := Ty 4 _ rfl
                  obtain ⟨q9, hq9⟩ : ∃ q9, decide (fr ≤ y.u) = q9 := ⟨_, rfl⟩
                  cases q9
                  ·
                    go_wp2_with fail
                    go_roundw
                    case rel => exact ⟨l + 1, m, v, by omega, by omega, by go_num, Lib.hid (by rw [HFS.out, if_neg (by simp [hq9]), List.append_nil]; exact hmf.out), by rw [HFS.out, if_neg (by simp [hq9]), List.append_nil]; exact Rg, Tb, Fb, B2, hsz2⟩
                    case measure => simp [intOf]; omega
                  ·
                    have HF2 : Hid ((x.B.G.take (l + 1)).filter (fun g : Gr => decide (fr ≤ g.u)) = (x.B.G.take l).filter (fun g : Gr => decide (fr ≤ g.u)) ++ [y]) := Lib.hid (by rw [HFS.out, if_pos hq9])
                    obtain ⟨va, vc, rfl⟩ := row_shape Rg
                    have t13 := Tb 13 _ rfl
                    obtain ⟨i0, hi9, hz0, hz1, hz2⟩ := info_parts info63
                    go_wp2_with (at_builtin; refine wpList_append_own _ rfl _ _ 23 rfl (tb + 1) 63 i0 _ 5 40 Try.underlying23 hi9 hz0 hz1 hz2 rfl (by decide) _ _ _ rfl (Rg.alloc _) ⟨V4.heap.size, 0, none⟩ 1 1 y.cs rfl rfl (fun j u hj => by rw [add0]; exact CAt.new _ y.cs _ j u hj) (gr_one _) (by unfold maxLen; omega) (by omega) (by simp; omega) ?_)
                    intro v1 w4 R1 hg1 hv1
                    clear t13 y0 y1 y2 y3 y4 hi9 hz0 hz1 hz2
                    have RA := Rg.alloc (.cells y.cs.toArray 63)
                    have bA : Below V4.heap.size V4 (V4.alloc (.cells y.cs.toArray 63)) := ball (Below.refl _ _) _
                    have BB1 := app_below (bstep B2 bA) (by rw [HTB.out]; exact Nat.le_succ _) RA hg1
                    have Tb4 := app_box (Tb.keep bA) (Nat.lt_succ_self _) RA hg1
                    have Fb4 := app_fz (Fb.keep bA) (Nat.lt_succ_self _) RA hg1
                    have hsz4 : tb + 1 ≤ w4.heap.size := Nat.le_trans (Nat.le_trans hsz2 bA.size) hg1.size
                    clear hg1 hv1 RA bA Rg B2 Tb Fb
                    obtain ⟨a9, c9, rfl⟩ := row_shape R1
                    have t13 := Tb4 13 _ rfl
                    have f13 := Fb4.1 13
                    go_wp2_with fail
                    clear t13 f13
                    go_roundw
                    case rel => exact ⟨l + 1, m + 1, _, by omega, by omega, by go_num, Lib.hid (by rw [HF2.out, List.length_append, ← hmf.out]; rfl), by rw [HF2.out, flatL_append, flatL_one]; exact app_row R1 (Nat.lt_succ_self _) 13 _, by have := Tb4.set 13 (.slice a9 (m + 1) c9) (by simp); rw [set13] at this; exact this, Fb4.set _ _, BB1.setCell (p := ⟨tb, 13, none⟩) (by rw [HTB.out]; exact Nat.le_refl _) _, by simpa using hsz4⟩
                    case measure => simp [intOf]; omega
                ·
                  obtain rfl : x.ng = l := by omega
                  have hlt2' : ¬ (x.ng : Int) < (x.ng : Int) := by omega
                  have hGt : x.B.G.take x.ng = x.B.G := by rw [HO.out.gn, List.take_length]
                  rw [hGt] at Rg hmf
                  clear hGt
                  obtain ⟨ga, gc, rfl, hg1, hg2, hg3, hg4⟩ := own_row_at Rg hmf.out
                  have HG4 := Lib.hid hg4
                  have HOK : Hid ((toldV x (x.B.G.filter (fun g : Gr => decide (fr ≤ g.u))) ga m gc).ok wr) := Lib.hid (told_ok (HO.out.keep B2) hg1 hmf.out hg2 hg3)
                  have hld3 : (load61 (.pointer (some ⟨tb, 0, none⟩))).run Try.prog wr = .ok (toldV x (x.B.G.filter (fun g : Gr => decide (fr ≤ g.u))) ga m gc).v wr := run_load61 (o := 0) (toldV x (x.B.G.filter (fun g : Gr => decide (fr ≤ g.u))) ga m gc) (fun j v hj => by rw [Nat.zero_add]; exact Tb j v hj)
                  have hTN : Hid (nbs [toldV x (x.B.G.filter (fun g : Gr => decide (fr ≤ g.u))) ga m gc] = [{ x.B with G := x.B.G.filter (fun g : Gr => decide (fr ≤ g.u)) }]) := Lib.hid rfl
                  have hTU : Hid ((toldV x (x.B.G.filter (fun g : Gr => decide (fr ≤ g.u))) ga m gc).B.U = x.B.U ∧ (toldV x (x.B.G.filter (fun g : Gr => decide (fr ≤ g.u))) ga m gc).ua = x.ua ∧ (toldV x (x.B.G.filter (fun g : Gr => decide (fr ≤ g.u))) ga m gc).B.G = x.B.G.filter (fun g : Gr => decide (fr ≤ g.u)) ∧ (toldV x (x.B.G.filter (fun g : Gr => decide (fr ≤ g.u))) ga m gc).ga = ga) := Lib.hid ⟨rfl, rfl, rfl, rfl⟩
                  clear hg1 hg2 hg3 hg4
                  obtain ⟨td, htd⟩ : ∃ td, toldV x (x.B.G.filter (fun g : Gr => decide (fr ≤ g.u))) ga m gc = td := ⟨_, rfl⟩
                  rw [htd] at HOK hld3 hTN hTU
                  clear htd
                  have RV := R
                  replace R := ownsRow_below R B2
                  have hBB := BB.size
                  have hB2 := B2.size
                  have BW := bstep BB B2
                  obtain ⟨oa, oc, rfl⟩ := row_shape R
                  obtain ⟨i0, hi9, hz0, hz1, hz2⟩ := info_parts info61
                  go_wp2_with (at_builtin; refine wpList_append_own_at _ rfl _ _ 27 rfl W5.heap.size 61 i0 _ 31 392 Try.underlying27 hi9 hz0 hz1 hz2 rfl (by decide) _ _ _ rfl (R.alloc _) ⟨wr.heap.size, 0, none⟩ 1 1 td.cs rfl rfl (fun j u hj => by rw [add0]; exact CAt.new _ td.cs _ j u hj) (nv_one _) (by unfold maxLen; omega) (by omega) (by simp; omega) ?_)
                  intro v1 w4 R1 hg1 hnn hv1
                  clear hld3 hnn
                  have RA := R.alloc (.cells td.cs.toArray 61)
                  have bA : Below wr.heap.size wr (wr.alloc (.cells td.cs.toArray 61)) := ball (Below.refl _ _) _
                  have BB1 := app_below (bstep BW bA) (Nat.le_refl _) RA hg1
                  have hun : ∀ b, (Value.slice oa q oc).ownBlock = some b → W5.heap.size ≤ b ∧ b < tb := fun b hb => by
                    have := RV.lt b hb; rw [HTB.out] at this; exact this
                  have KA1 : KeptAt (wr.alloc (.cells td.cs.toArray 61)) (.slice oa q oc) (L ++ [td]) := ((KA.out.keep B2).keep bA).snoc ⟨HOK.out.keep bA, by
                      rw [hTU.out.2.2.1, hTU.out.2.2.2]
                      rcases HG4.out with h | ⟨b, off, e, h1, h2⟩
                      · exact .inl h
                      · exact .inr ⟨b, off, e, Nat.lt_of_lt_of_le h2 bA.size, fun e' => by have := (hun b e').2; omega⟩, by
                      rw [hTU.out.1, hTU.out.2.1]
                      rcases HXW.out with h | ⟨b, off, e, h1⟩
                      · exact .inl h
                      · exact .inr ⟨b, off, e, Nat.lt_of_lt_of_le h1 (Nat.le_trans hBB (Nat.le_trans hB2 bA.size)), fun e' => by have := (hun b e').1; omega⟩⟩
                  have KA2 : Hid (KeptAt w4 v1 (L ++ [td])) := Lib.hid (KA1.app hg1 (by rw [World.size_alloc]; exact hv1))
                  clear KA1 hun hg1 hv1 RA bA R RV BB BW hi9 hz0 hz1 hz2
                  obtain ⟨a9, c9, rfl⟩ := row_shape R1
                  go_wp2_with fail
                  go_roundw
                  case rel => exact ⟨k + 1, q + 1, L ++ [td], by omega, by omega, by go_num, Lib.hid (by rw [List.length_append, ← hql.out]; rfl), Lib.hid (by rw [HLS.out, if_pos (by rw [HL.out]; rfl), ← hL.out, ← hTN.out]; simp [nbs]), BB1, by rw [flatL_append, flatL_one]; exact R1, KA2⟩
                  case measure => simp [intOf]; omega
            ·
              cases p2
              ·
                have hld2 : (load61 (.pointer (some ⟨nb, 0, none⟩))).run Try.prog V = .ok x.v V := run_load61 (o := 0) x (fun j v hj => by rw [Nat.zero_add]; exact Tx j v hj)
                obtain ⟨V2, hst2, Tb, BV2, hV2s, Fb⟩ := run_new61f V x
                unfold Z61 at hst2
                obtain ⟨tb, htb⟩ : ∃ tb, V.heap.size = tb := ⟨_, rfl⟩
                have hlt3 : nb < tb := by rw [← htb]; exact HNB.out
                have Tx2 := Tx.keep BV2
                rw [htb] at hst2 Tb hV2s Fb
                have HTB := Lib.hid htb
                have hal : (V.alloc (.cells #[] 0)).heap.size = tb + 1 := by simp [htb]
                clear hal
                have x13 := Tx2 13 _ rfl
                have t13 := Tb 13 _ rfl
                have f13 := Fb.1 13
                have hne1 : ¬ nb = tb := by omega
                have hne2 : ¬ tb = nb := by omega
                go_upto_region 11 with (fail)
                clear hld2 hst2 htb x13 t13 f13
                have BV3 : Below V.heap.size V (V2.setCell ⟨tb, 13, none⟩ (.slice none 0 0)) := BV2.setCell (p := ⟨tb, 13, none⟩) (by rw [HTB.out]; exact Nat.le_refl _) _
                have Tx3 : CAt (V2.setCell ⟨tb, 13, none⟩ (.slice none 0 0)) nb x.cs := Tx2.other hne2 13 _
                have Tb3 : CAt (V2.setCell ⟨tb, 13, none⟩ (.slice none 0 0)) tb (x.cs.set 13 (.slice none 0 0)) := Tb.set 13 _ (by simp)
                have Fb3 : Fz (V2.setCell ⟨tb, 13, none⟩ (.slice none 0 0)) tb := Fb.set _ _
                have hs3 : (V2.setCell ⟨tb, 13, none⟩ (.slice none 0 0)).heap.size = tb + 1 := by simp [hV2s]
                obtain ⟨V3, hV3⟩ : ∃ V3, V2.setCell ⟨tb, 13, none⟩ (.slice none 0 0) = V3 := ⟨_, rfl⟩
                rw [hV3] at BV3 Tx3 Tb3 Fb3 hs3 ⊢
                clear hV3 Tb Tx2 Fb BV2 hV2s
                have HS3 := Lib.hid hs3
                clear hs3
                have x13 := Tx3 13 _ rfl
                obtain ⟨ad, had⟩ : ∃ ad, x.ga = ad := ⟨_, rfl⟩
                rw [had] at x13
                have HAD := Lib.hid had
                clear had
                go_wp2_with fail
                clear x13 hne1 hne2
                go_loopw [54] (fun i wr => ∃ (l m : Nat) (v : Value), l ≤ x.ng ∧ m ≤ l ∧ i = .int .i64 l ∧ Hid (m = ((x.B.G.take l).filter (fun g : Gr => decide (fr ≤ g.u))).length) ∧ wr.ownsRow (tb + 1) 63 5 v m (flatL Gr.cs ((x.B.G.take l).filter (fun g : Gr => decide (fr ≤ g.u)))) ∧ CAt wr tb (x.cs.set 13 v) ∧ Fz wr tb ∧ Below V.heap.size V wr ∧ tb + 1 ≤ wr.heap.size) (fun i _ => x.ng - (intOf i).toNat)
                case atStart => exact ⟨0, 0, .slice none 0 0, Nat.zero_le _, Nat.le_refl _, rfl, Lib.hid rfl, World.ownsRow_nil _ _ _ _, Tb3, Fb3, BV3, Nat.le_of_eq HS3.out.symm⟩
                case round =>
                  clear Tb3 Fb3 BV3 Tx3
                  obtain ⟨l, m, v, hl, hml, rfl, hmf, Rg, Tb, Fb, B2, hsz⟩ := hrel
                  by_cases hlt2 : l < x.ng
                  ·
                    have hlt2' : (l : Int) < (x.ng : Int) := by omega
                    have hl0 : (0 : Int) ≤ (l : Int) := by omega
                    have hlen : l < x.B.G.length := by rw [← HO.out.gn]; exact hlt2
                    obtain ⟨b3, off3, e3, d0, d1, d2, d3, d4⟩ := HO.out.g.gr B2 (i := l) hlen
                    have hfs := filter_snoc (fun g : Gr => decide (fr ≤ g.u)) hlen
                    obtain ⟨y, hy⟩ : ∃ y, x.B.G.getD l default = y := ⟨_, rfl⟩
                    simp only [hy] at d0 d1 d2 d3 d4 hfs
                    have HFS := Lib.hid hfs
                    clear hy hfs hlen
                    obtain rfl : ad = some ⟨b3, off3, none⟩ := HAD.out.symm.trans e3
                    clear e3
                    go_upto_region 14 with (fail)
                    clear d0 d1 d2 d3 d4
                    have B2a : Below wr.heap.size wr (wr.alloc (.cells #[.int .i64 y.s, .int .i64 y.o, .int .i64 y.p, .int .i64 y.t, .int .i64 y.u] 63)) := ball (Below.refl _ _) _
                    have Ty := CAt.new wr [.int .i64 y.s, .int .i64 y.o, .int .i64 y.p, .int .i64 y.t, .int .i64 y.u] 63
                    replace Tb := Tb.keep B2a
                    replace Fb := Fb.keep B2a
                    replace Rg := ownsRow_below Rg B2a
                    have hsz2 := Nat.le_trans hsz B2a.size
                    obtain ⟨V4, hV4⟩ : ∃ V4, wr.alloc (.cells #[.int .i64 y.s, .int .i64 y.o, .int .i64 y.p, .int .i64 y.t, .int .i64 y.u] 63) = V4 := ⟨_, rfl⟩
                    rw [hV4] at B2a Ty Tb Fb Rg hsz2 ⊢
                    clear hV4
                    obtain ⟨yb, hyb⟩ : ∃ yb, wr.heap.size = yb := ⟨_, rfl⟩
                    rw [hyb] at Ty ⊢
                    clear hyb hsz
                    replace B2 := bstep B2 B2a
                    clear B2a
                    have y0 := Ty 0 _ rfl
                    have y1 := Ty 1 _ rfl
                    have y2 := Ty 2 _ rfl
                    have y3 := Ty 3 _ rfl
                    have y4 := Ty 4 _ rfl
                    obtain ⟨q9, hq9⟩ : ∃ q9, decide (fr ≤ y.u) = q9 := ⟨_, rfl⟩
                    cases q9
                    ·
                      go_wp2_with fail
                      go_roundw
                      case rel => exact ⟨l + 1, m, v, by omega, by omega, by go_num, Lib.hid (by rw [HFS.out, if_neg (by simp [hq9]), List.append_nil]; exact hmf.out), by rw [HFS.out, if_neg (by simp [hq9]), List.append_nil]; exact Rg, Tb, Fb, B2, hsz2⟩
                      case measure => simp [intOf]; omega
                    ·
                      have HF2 : Hid ((x.B.G.take (l + 1)).filter (fun g : Gr => decide (fr ≤ g.u)) = (x.B.G.take l).filter (fun g : Gr => decide (fr ≤ g.u)) ++ [y]) := Lib.hid (by rw [HFS.out, if_pos hq9])
                      obtain ⟨va, vc, rfl⟩ := row_shape Rg
                      have t13 := Tb 13 _ rfl
                      obtain ⟨i0, hi9, hz0, hz1, hz2⟩ := info_parts info63
                      go_wp2_with (at_builtin; refine wpList_append_own _ rfl _ _ 23 rfl (tb + 1) 63 i0 _ 5 40 Try.underlying23 hi9 hz0 hz1 hz2 rfl (by decide) _ _ _ rfl (Rg.alloc _) ⟨V4.heap.size, 0, none⟩ 1 1 y.cs rfl rfl (fun j u hj => by rw [add0]; exact CAt.new _ y.cs _ j u hj) (gr_one _) (by unfold maxLen; omega) (by omega) (by simp; omega) ?_)
                      intro v1 w4 R1 hg1 hv1
                      clear t13 y0 y1 y2 y3 y4 hi9 hz0 hz1 hz2
                      have RA := Rg.alloc (.cells y.cs.toArray 63)
                      have bA : Below V4.heap.size V4 (V4.alloc (.cells y.cs.toArray 63)) := ball (Below.refl _ _) _
                      have BB1 := app_below (bstep B2 bA) (by rw [HTB.out]; exact Nat.le_succ _) RA hg1
                      have Tb4 := app_box (Tb.keep bA) (Nat.lt_succ_self _) RA hg1
                      have Fb4 := app_fz (Fb.keep bA) (Nat.lt_succ_self _) RA hg1
                      have hsz4 : tb + 1 ≤ w4.heap.size := Nat.le_trans (Nat.le_trans hsz2 bA.size) hg1.size
                      clear hg1 hv1 RA bA Rg B2 Tb Fb
                      obtain ⟨a9, c9, rfl⟩ := row_shape R1
                      have t13 := Tb4 13 _ rfl
                      have f13 := Fb4.1 13
                      go_wp2_with fail
                      clear t13 f13
                      go_roundw
                      case rel => exact ⟨l + 1, m + 1, _, by omega, by omega, by go_num, Lib.hid (by rw [HF2.out, List.length_append, ← hmf.out]; rfl), by rw [HF2.out, flatL_append, flatL_one]; exact app_row R1 (Nat.lt_succ_self _) 13 _, by have := Tb4.set 13 (.slice a9 (m + 1) c9) (by simp); rw [set13] at this; exact this, Fb4.set _ _, BB1.setCell (p := ⟨tb, 13, none⟩) (by rw [HTB.out]; exact Nat.le_refl _) _, by simpa using hsz4⟩
                      case measure => simp [intOf]; omega
                  ·
                    obtain rfl : x.ng = l := by omega
                    have hlt2' : ¬ (x.ng : Int) < (x.ng : Int) := by omega
                    have hGt : x.B.G.take x.ng = x.B.G := by rw [HO.out.gn, List.take_length]
                    rw [hGt] at Rg hmf
                    clear hGt
                    obtain ⟨ga, gc, rfl, hg1, hg2, hg3, hg4⟩ := own_row_at Rg hmf.out
                    have HG4 := Lib.hid hg4
                    have HOK : Hid ((toldV x (x.B.G.filter (fun g : Gr => decide (fr ≤ g.u))) ga m gc).ok wr) := Lib.hid (told_ok (HO.out.keep B2) hg1 hmf.out hg2 hg3)
                    have hld3 : (load61 (.pointer (some ⟨tb, 0, none⟩))).run Try.prog wr = .ok (toldV x (x.B.G.filter (fun g : Gr => decide (fr ≤ g.u))) ga m gc).v wr := run_load61 (o := 0) (toldV x (x.B.G.filter (fun g : Gr => decide (fr ≤ g.u))) ga m gc) (fun j v hj => by rw [Nat.zero_add]; exact Tb j v hj)
                    have hTN : Hid (nbs [toldV x (x.B.G.filter (fun g : Gr => decide (fr ≤ g.u))) ga m gc] = [{ x.B with G := x.B.G.filter (fun g : Gr => decide (fr ≤ g.u)) }]) := Lib.hid rfl
                    have hTU : Hid ((toldV x (x.B.G.filter (fun g : Gr => decide (fr ≤ g.u))) ga m gc).B.U = x.B.U ∧ (toldV x (x.B.G.filter (fun g : Gr => decide (fr ≤ g.u))) ga m gc).ua = x.ua ∧ (toldV x (x.B.G.filter (fun g : Gr => decide (fr ≤ g.u))) ga m gc).B.G = x.B.G.filter (fun g : Gr => decide (fr ≤ g.u)) ∧ (toldV x (x.B.G.filter (fun g : Gr => decide (fr ≤ g.u))) ga m gc).ga = ga) := Lib.hid ⟨rfl, rfl, rfl, rfl⟩
                    clear hg1 hg2 hg3 hg4
                    obtain ⟨td, htd⟩ : ∃ td, toldV x (x.B.G.filter (fun g : Gr => decide (fr ≤ g.u))) ga m gc = td := ⟨_, rfl⟩
                    rw [htd] at HOK hld3 hTN hTU
                    clear htd
                    have RV := R
                    replace R := ownsRow_below R B2
                    have hBB := BB.size
                    have hB2 := B2.size
                    have BW := bstep BB B2
                    obtain ⟨oa, oc, rfl⟩ := row_shape R
                    obtain ⟨i0, hi9, hz0, hz1, hz2⟩ := info_parts info61
                    go_wp2_with (at_builtin; refine wpList_append_own_at _ rfl _ _ 27 rfl W5.heap.size 61 i0 _ 31 392 Try.underlying27 hi9 hz0 hz1 hz2 rfl (by decide) _ _ _ rfl (R.alloc _) ⟨wr.heap.size, 0, none⟩ 1 1 td.cs rfl rfl (fun j u hj => by rw [add0]; exact CAt.new _ td.cs _ j u hj) (nv_one _) (by unfold maxLen; omega) (by omega) (by simp; omega) ?_)
                    intro v1 w4 R1 hg1 hnn hv1
                    clear hld3 hnn
                    have RA := R.alloc (.cells td.cs.toArray 61)
                    have bA : Below wr.heap.size wr (wr.alloc (.cells td.cs.toArray 61)) := ball (Below.refl _ _) _
                    have BB1 := app_below (bstep BW bA) (Nat.le_refl _) RA hg1
                    have hun : ∀ b, (Value.slice oa q oc).ownBlock = some b → W5.heap.size ≤ b ∧ b < tb := fun b hb => by
                      have := RV.lt b hb; rw [HTB.out] at this; exact this
                    have KA1 : KeptAt (wr.alloc (.cells td.cs.toArray 61)) (.slice oa q oc) (L ++ [td]) := ((KA.out.keep B2).keep bA).snoc ⟨HOK.out.keep bA, by
                        rw [hTU.out.2.2.1, hTU.out.2.2.2]
                        rcases HG4.out with h | ⟨b, off, e, h1, h2⟩
                        · exact .inl h
                        · exact .inr ⟨b, off, e, Nat.lt_of_lt_of_le h2 bA.size, fun e' => by have := (hun b e').2; omega⟩, by
                        rw [hTU.out.1, hTU.out.2.1]
                        rcases HXW.out with h | ⟨b, off, e, h1⟩
                        · exact .inl h
                        · exact .inr ⟨b, off, e, Nat.lt_of_lt_of_le h1 (Nat.le_trans hBB (Nat.le_trans hB2 bA.size)), fun e' => by have := (hun b e').1; omega⟩⟩
                    have KA2 : Hid (KeptAt w4 v1 (L ++ [td])) := Lib.hid (KA1.app hg1 (by rw [World.size_alloc]; exact hv1))
                    clear KA1 hun hg1 hv1 RA bA R RV BB BW hi9 hz0 hz1 hz2
                    obtain ⟨a9, c9, rfl⟩ := row_shape R1
                    go_wp2_with fail
                    go_roundw
                    case rel => exact ⟨k + 1, q + 1, L ++ [td], by omega, by omega, by go_num, Lib.hid (by rw [List.length_append, ← hql.out]; rfl), Lib.hid (by rw [HLS.out, if_pos (by rw [HL.out]; rfl), ← hL.out, ← hTN.out]; simp [nbs]), BB1, by rw [flatL_append, flatL_one]; exact R1, KA2⟩
                    case measure => simp [intOf]; omega
              ·
                go_wp2_with fail
                go_roundw
                case rel => exact ⟨k + 1, q, L, by omega, by omega, by go_num, hql, Lib.hid (by rw [hL.out, HLS.out, HL.out]; simp), BB, R, KA⟩
                case measure => simp [intOf]; omega
          ·
            obtain rfl : n = k := by omega
            have hlt' : ¬ (n : Int) < (n : Int) := by omega
            obtain ⟨aL, cL, rfl, hl1, hl2, hl3⟩ := own_at nv_size R hql.out
            have HNS := Lib.hid (show NsAt wr aL L from ⟨hl1, fun y hy => (KA.out y hy).1⟩)
            have HLE : Hid (nbs L = latelyV (nbs N) fr) := Lib.hid (by rw [hL.out, hn.out, List.take_length])
            have hqm : q ≤ maxLen := Nat.le_trans hl2 hl3
            clear R KA hl1 hL
            go_upto_region 19 with (fail)
            have H2 := Lib.hid (H1.keep BB)
            obtain ⟨Y, hY⟩ : ∃ Y, yieldV t.T me fr (nbs N) = Y := ⟨_, rfl⟩
            have HY := Lib.hid hY
            have HY2 : Hid (yieldV t.T me fr (nbs L) = Y) := Lib.hid (by rw [HLE.out, yield_old]; exact hY)
            clear hY H1
            obtain ⟨W6, hW6⟩ : ∃ W6, W6 = wr := ⟨_, rfl⟩
            subst hW6
            refine wp_region_steps (by kernel_rfl) (by kernel_rfl) (fun d vs w' => ∃ r1 r2, J19 W6 t me fr (.slice a n cap) (.slice aL q cL) Y d vs r1 r2 w') ⟨default, default, J19.start⟩ ?hs ?hend
            case hs =>
              have g1 : ∀ (d : Dn) (vs : Vs) (w : World), (∃ r1 r2, J19 W6 t me fr (.slice a n cap) (.slice aL q cL) Y d vs r1 r2 w) → d 1 = true → vs 1 = .bool true := fun d vs w ⟨r1, r2, h⟩ hd => h.f1 hd
              refine ⟨stepJ_of rfl ?_, stepJ_of rfl ?_, stepJ_on 1 77 true rfl rfl (by show (77:Nat) < 90; decide) (by kernel_rfl) g1 ?_, stepJ_on 1 77 true rfl rfl (by show (77:Nat) < 90; decide) (by kernel_rfl) g1 ?_, stepJ_on 1 77 true rfl rfl (by show (77:Nat) < 90; decide) (by kernel_rfl) g1 ?_, stepJ_on 1 77 true rfl rfl (by show (77:Nat) < 90; decide) (by kernel_rfl) g1 ?_, stepJ_on 1 77 true rfl rfl (by show (77:Nat) < 90; decide) (by kernel_rfl) g1 ?_, stepJ_on 1 77 true rfl rfl (by show (77:Nat) < 90; decide) (by kernel_rfl) g1 ?_, stepJ_on 1 77 true rfl rfl (by show (77:Nat) < 90; decide) (by kernel_rfl) g1 ?_, stepJ_on 1 77 true rfl rfl (by show (77:Nat) < 90; decide) (by kernel_rfl) g1 ?_, stepJ_on 1 77 true rfl rfl (by show (77:Nat) < 90; decide) (by kernel_rfl) g1 ?_, stepJ_on 1 77 true rfl rfl (by show (77:Nat) < 90; decide) (by kernel_rfl) g1 ?_, stepJ_on 1 77 true rfl rfl (by show (77:Nat) < 90; decide) (by kernel_rfl) g1 ?_, stepJ_of rfl ?_, stepJ_of rfl ?_, trivial⟩
              all_goals clear g1
              all_goals rintro d vs w' ⟨r1, r2, hJ⟩ hd hp b' hb K hK
              ·
                have e5 : b'.tmps.getD 9 undef = .bool true := hb.old 9 (by kernel_rfl)
                go_simp
                exact hK _ _ _ rfl ⟨_, _, hJ.s0 hd⟩
              ·
                have p0 : d 0 = true := hp ⟨0, .data⟩ (by simp) rfl
                have g76 : b'.tmps.getD 76 undef = .bool true := hb.at 0 76 rfl (by show (76:Nat) < 90; decide) p0 (hJ.f0 p0)
                go_simp
                exact hK _ _ _ rfl ⟨_, _, hJ.s1 hd⟩
              ·
                have e5 : b'.tmps.getD 4 undef = .pointer (some ⟨w.heap.size, 0, none⟩) := hb.old 4 (by kernel_rfl)
                have Hc := H2.out.keep hJ.b
                have c0 := Hc.c 0 _ rfl
                have c1 := Hc.c 1 _ rfl
                have c2 := Hc.c 2 _ rfl
                go_simp
                exact hK _ _ _ rfl ⟨_, _, hJ.s2 hd⟩
              ·
                have e5 : b'.tmps.getD 1 undef = .int .i64 me := hb.old 1 (by kernel_rfl)
                go_simp
                exact hK _ _ _ rfl ⟨_, _, hJ.s3 hd⟩
              ·
                have e5 : b'.tmps.getD 2 undef = .slice a n cap := hb.old 2 (by kernel_rfl)
                go_simp
                exact hK _ _ _ rfl ⟨_, _, hJ.s4 hd⟩
              ·
                have e5 : b'.tmps.getD 3 undef = .int .i64 fr := hb.old 3 (by kernel_rfl)
                go_simp
                exact hK _ _ _ rfl ⟨_, _, hJ.s5 hd⟩
              ·
                have p2 : d 2 = true := hp ⟨2, .data⟩ (by simp) rfl
                have p3 : d 3 = true := hp ⟨3, .data⟩ (by simp) rfl
                have p4 : d 4 = true := hp ⟨4, .data⟩ (by simp) rfl
                have p5 : d 5 = true := hp ⟨5, .data⟩ (by simp) rfl
                have g78 : b'.tmps.getD 78 undef = t.v := hb.at 2 78 rfl (by show (78:Nat) < 90; decide) p2 (hJ.f2 p2)
                have g79 : b'.tmps.getD 79 undef = .int .i64 me := hb.at 3 79 rfl (by show (79:Nat) < 90; decide) p3 (hJ.f3 p3)
                have g80 : b'.tmps.getD 80 undef = .slice a n cap := hb.at 4 80 rfl (by show (80:Nat) < 90; decide) p4 (hJ.f4 p4)
                have g81 : b'.tmps.getD 81 undef = .int .i64 fr := hb.at 5 81 rfl (by show (81:Nat) < 90; decide) p5 (hJ.f5 p5)
                have Hc := H2.out.keep hJ.b
                go_simp
                refine (yield_at t me fr N n _ cap _ (Lib.hid Hc.o0) hn Hc.n hn2 W40).mono ?_
                rintro e u1 ⟨r, rfl, ok1, te1, bv⟩
                exact hK _ _ _ rfl ⟨_, _, (hJ.keep bv).s6 hd ok1 (te1.trans HY.out)⟩
              ·
                have e5 : b'.tmps.getD 4 undef = .pointer (some ⟨w.heap.size, 0, none⟩) := hb.old 4 (by kernel_rfl)
                have Hc := H2.out.keep hJ.b
                have c0 := Hc.c 0 _ rfl
                have c1 := Hc.c 1 _ rfl
                have c2 := Hc.c 2 _ rfl
                go_simp
                exact hK _ _ _ rfl ⟨_, _, hJ.s7 hd⟩
              ·
                have e5 : b'.tmps.getD 1 undef = .int .i64 me := hb.old 1 (by kernel_rfl)
                go_simp
                exact hK _ _ _ rfl ⟨_, _, hJ.s8 hd⟩
              ·
                have e5 : b'.tmps.getD 10 undef = .slice aL q cL := hb.old 10 (by kernel_rfl)
                go_simp
                exact hK _ _ _ rfl ⟨_, _, hJ.s9 hd⟩
              ·
                have e5 : b'.tmps.getD 3 undef = .int .i64 fr := hb.old 3 (by kernel_rfl)
                go_simp
                exact hK _ _ _ rfl ⟨_, _, hJ.s10 hd⟩
              ·
                have p7 : d 7 = true := hp ⟨7, .data⟩ (by simp) rfl
                have p8 : d 8 = true := hp ⟨8, .data⟩ (by simp) rfl
                have p9 : d 9 = true := hp ⟨9, .data⟩ (by simp) rfl
                have p10 : d 10 = true := hp ⟨10, .data⟩ (by simp) rfl
                have g83 : b'.tmps.getD 83 undef = t.v := hb.at 7 83 rfl (by show (83:Nat) < 90; decide) p7 (hJ.f7 p7)
                have g84 : b'.tmps.getD 84 undef = .int .i64 me := hb.at 8 84 rfl (by show (84:Nat) < 90; decide) p8 (hJ.f8 p8)
                have g85 : b'.tmps.getD 85 undef = .slice aL q cL := hb.at 9 85 rfl (by show (85:Nat) < 90; decide) p9 (hJ.f9 p9)
                have g86 : b'.tmps.getD 86 undef = .int .i64 fr := hb.at 10 86 rfl (by show (86:Nat) < 90; decide) p10 (hJ.f10 p10)
                have Hc := H2.out.keep hJ.b
                have M1 := HNS.out.keep hJ.b
                go_simp
                refine (yield_at t me fr L q aL cL _ (Lib.hid Hc.o0) hql M1 hqm W40).mono ?_
                rintro e u1 ⟨r, rfl, ok1, te1, bv⟩
                exact hK _ _ _ rfl ⟨_, _, (hJ.keep bv).s11 hd ok1 (te1.trans HY2.out)⟩
              ·
                have p6 : d 6 = true := hp ⟨6, .data⟩ (by simp) rfl
                have p11 : d 11 = true := hp ⟨11, .data⟩ (by simp) rfl
                have g82 : b'.tmps.getD 82 undef = r1.v := hb.at 6 82 rfl (by show (82:Nat) < 90; decide) p6 (hJ.f6 p6)
                have g87 : b'.tmps.getD 87 undef = r2.v := hb.at 11 87 rfl (by show (87:Nat) < 90; decide) p11 (hJ.f11 p11)
                go_simp
                refine (same_at r1 r2 _ (hJ.o6 p6).1 (hJ.o11 p11).1 true (same_eq ((hJ.o6 p6).2.trans (hJ.o11 p11).2.symm))).mono ?_
                rintro e u1 ⟨rfl, bv⟩
                exact hK _ _ _ rfl ⟨_, _, (hJ.keep bv).s12 hd⟩
              ·
                have p1 : d 1 = true := hp ⟨1, .data⟩ (by simp) rfl
                have p12 : d 12 = true := hp ⟨12, .data⟩ (by simp) rfl
                have g77 : b'.tmps.getD 77 undef = .bool true := hb.at 1 77 rfl (by show (77:Nat) < 90; decide) p1 (hJ.f1 p1)
                have g88 : b'.tmps.getD 88 undef = .bool true := hb.at 12 88 rfl (by show (88:Nat) < 90; decide) p12 (hJ.f12 p12)
                go_simp
                exact hK _ _ _ rfl ⟨_, _, hJ.s13 hd⟩
              ·
                have p13 : d 13 = true := hp ⟨13, .data⟩ (by simp) rfl
                have g89 : b'.tmps.getD 89 undef = .bool true := hb.at 13 89 rfl (by show (89:Nat) < 90; decide) p13 (hJ.f13 p13)
                go_simp
                exact hK _ _ _ rfl ⟨_, _, hJ.s14 hd⟩
            case hend =>
              rintro d vs w' hall ⟨r1, r2, hJ⟩
              have vv := hJ.f14 (hall 14 (by decide))
              simp only [allA, Act.put, List.setIfInBounds_toArray, List.set_cons_zero, List.set_cons_succ, vv]
              have BW6 := hJ.b
              clear hJ hall vv
              go_wp2_with fail
              go_ret
              exact ⟨rfl, bstep (bstep B0 BB) BW6⟩
end Go.Proofs.Ytleenbfldkmcaaa
