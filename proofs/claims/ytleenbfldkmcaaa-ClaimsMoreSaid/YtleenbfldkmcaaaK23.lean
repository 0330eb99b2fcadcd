/- Proved: the law that what remains after more beacons remains after some of them. Conditions: what came in lies in memory. -/
import Derived.Test.YtleenbfldkmcaaaK22b
import Derived.Test.YtleenbfldkmcaaaK23a
import Derived.Test.YtleenbfldkmcaaaK20
import Derived.Test.YtleenbfldkmcaaaK19
namespace Go.Proofs.Ytleenbfldkmcaaa
open Go.RowKit Go.Sort Go.BigFrame
set_option linter.unusedVariables false
set_option linter.unusedSimpArgs false
attribute [local go_sem] cell_alloc_old
/-- What came in, and the box of the table. -/
structure MB (k0 : Nat) (t : Tv) (N : List Nv) (a : Option Addr) (w : World) : Prop where
  c : CAt w k0 t.cs
  o0 : t.ok w
  n : NsAt w a N
theorem MB.ca {k0 : Nat} {t : Tv} {N : List Nv} {a : Option Addr} {w : World} (h : MB k0 t N a w) : w.cell? ⟨k0, 0, none⟩ = some (.slice t.ua t.nu t.uc) ∧ w.cell? ⟨k0, 1, none⟩ = some (.slice t.ga t.ng t.gc) ∧ w.cell? ⟨k0, 2, none⟩ = some (.slice t.aa t.na t.ac) := ⟨h.c 0 _ rfl, h.c 1 _ rfl, h.c 2 _ rfl⟩
theorem MB.keep {k0 : Nat} {t : Tv} {N : List Nv} {a : Option Addr} {w w' : World} (h : MB k0 t N a w) (hb : Below w.heap.size w w') : MB k0 t N a w' := ⟨h.c.keep hb, h.o0.keep hb, h.n.keep hb⟩

theorem ca_of {w : World} {k : Nat} {t : Tv} (h : CAt w k t.cs) : w.cell? ⟨k, 0, none⟩ = some (.slice t.ua t.nu t.uc) ∧ w.cell? ⟨k, 1, none⟩ = some (.slice t.ga t.ng t.gc) ∧ w.cell? ⟨k, 2, none⟩ = some (.slice t.aa t.na t.ac) := ⟨h 0 _ rfl, h 1 _ rfl, h 2 _ rfl⟩
theorem fewNB_len {N : List Nv} (h : fewNB N = true) : N.length ≤ 70 := by
  unfold fewNB at h
  simp only [Bool.and_eq_true, decide_eq_true_eq] at h
  omega

set_option maxRecDepth 100000 in
set_option maxHeartbeats 4000000 in
theorem more_at (t : Tv) (me fr le : Int) (N : List Nv) (n : Nat) (a : Option Addr) (cap : Nat) (w : World)
    (hn : Hid (n = N.length)) (ht : t.ok w) (hN : NsAt w a N) (hnc : n ≤ cap) (hcm : cap ≤ maxLen) (hl0 : 0 ≤ le) (hl1 : le ≤ 255) :
    Calls Try.prog 8 #[t.v, .int .i64 me, .slice a n cap, .int .i64 fr, .int .u8 le] w (Yes true w) := by
  have hn2 : n ≤ maxLen := Nat.le_trans hnc hcm
  obtain ⟨q1, hq1⟩ : ∃ q, fewB t = q := ⟨_, rfl⟩
  obtain ⟨q2, hq2⟩ : ∃ q, fewNB N = q := ⟨_, rfl⟩
  have HQ1 := Lib.hid hq1; have HQ2 := Lib.hid hq2
  clear hq1 hq2
  have bA : Below w.heap.size w (w.alloc (.cells #[.slice t.ua t.nu t.uc, .slice t.ga t.ng t.gc, .slice t.aa t.na t.ac] 26)) := ball (Below.refl _ _) _
  have HM : Hid (MB w.heap.size t N a (w.alloc (.cells #[.slice t.ua t.nu t.uc, .slice t.ga t.ng t.gc, .slice t.aa t.na t.ac] 26))) := Lib.hid ⟨CAt.new w [.slice t.ua t.nu t.uc, .slice t.ga t.ng t.gc, .slice t.aa t.na t.ac] 26, ht.keep bA, hN.keep bA⟩
  clear ht hN
  go_enter Try.func8, Try.ntmps8
  go_wp2_with fail
  refine (head_any _).mono ?_
  rintro e w1 ⟨rfl, b1⟩
  have H1 := HM.out.keep b1
  have BB := bstep bA b1
  clear b1 bA HM
  have c0 := H1.c 0 _ rfl
  have c1 := H1.c 1 _ rfl
  have c2 := H1.c 2 _ rfl
  go_wp2_with fail
  refine (few_at t q1 _ HQ1.out).mono ?_
  rintro e w2 ⟨rfl, b2⟩
  replace H1 := H1.keep b2
  replace BB := bstep BB b2
  clear b2 c0 c1 c2
  cases q1
  ·
    go_wp2_with fail
    go_ret
    exact ⟨rfl, BB⟩
  ·
    go_wp2_with fail
    refine (fewnear_at N n a cap _ hn H1.n hn2 q2 HQ2).mono ?_
    rintro e w3 ⟨rfl, b2⟩
    replace H1 := H1.keep b2
    replace BB := bstep BB b2
    clear b2
    cases q2
    ·
      go_wp2_with fail
      go_ret
      exact ⟨rfl, BB⟩
    ·
      by_cases h0 : n = 0
      ·
        have h0b : ((n : Int) == 0) = true := by simp [h0]
        go_wp2_with fail
        go_ret
        exact ⟨rfl, BB⟩
      ·
        have h0b : ((n : Int) == 0) = false := by simp; omega
        obtain ⟨k, hk⟩ : ∃ k : Nat, le.tmod n = k := ⟨(le.tmod n).toNat, by rw [Int.tmod_eq_emod_of_nonneg hl0]; have := Int.emod_nonneg le (b := (n : Int)) (by omega); omega⟩
        have hkn : k < n := by
          rw [Int.tmod_eq_emod_of_nonneg hl0] at hk; have := Int.emod_lt_of_pos le (b := (n : Int)) (by omega); omega

        obtain ⟨j, hj⟩ : ∃ j, j = k + 1 := ⟨_, rfl⟩
        have hij : (k : Int) + 1 = (j : Int) := by omega
        have hk1 : (k : Int) ≤ (n : Int) := by omega
        have hk2 : (k : Int) < (n : Int) := by omega
        have hk0 : (0 : Int) ≤ (k : Int) := by omega
        have hkc : (k : Int) ≤ (cap : Int) := by omega
        have hjn1 : (j : Int) ≤ (n : Int) := by omega
        have hjc : (j : Int) ≤ (cap : Int) := by omega
        have hf2 := fewNB_len HQ2.out
        have hn70 : n ≤ 70 := by have := hn.out; omega
        have hwj : IntKind.i64.wrap (j : Int) = (j : Int) := IntWalk.i64_in _ (by omega)
        have hjsub : (n : Int) - (j : Int) = ((n - j : Nat) : Int) := by omega
        have hnc' : (n : Int) ≤ (cap : Int) := by omega
        have HJ := Lib.hid hj; clear hj hf2
        obtain ⟨b, off, rfl, hc⟩ := H1.n.1.at (i := 0) (by rw [← hn.out]; omega)
        have CT := Lib.hid (cells_at nv_size (by decide) (H1.n.1.take k))
        have CD := Lib.hid (cells_at nv_size (by decide) (H1.n.1.drop (k + 1)))
        have hB3 := World.block_lt_of_cell? w3 ⟨b, off + 0 * 31 + 0, none⟩ (hc 0 (by rw [← hn.out]; omega) 0 _ rfl)
        simp only at hB3
        have HB := Lib.hid hB3
        clear hc hB3
        obtain ⟨i0, hi, hz0, hz1, hz2⟩ := info_parts info61
        have wfP : ∀ y ∈ N.take k ++ N.drop (k + 1), y ∈ N := fun y hy => by
          rcases List.mem_append.1 hy with hy | hy
          · exact List.mem_of_mem_take hy
          · exact List.mem_of_mem_drop hy
        have WF := Lib.hid wfP
        clear wfP
        go_upto_region 5 with (fail)
        go_cut [13] (fun sx wx => ∃ (a5 : Option Addr) (m5 c5 : Nat), sx = .slice a5 m5 c5 ∧ NsAt wx a5 (N.take k ++ N.drop (k + 1)) ∧ m5 = (N.take k ++ N.drop (k + 1)).length ∧ m5 ≤ maxLen ∧ Below w3.heap.size w3 wx)
        case first =>
          by_cases hce : cap = j
          ·
            have hce2 : (cap : Int) = (j : Int) := by omega
            have hnj : n = j := by have := HJ.out; omega
            subst hce; subst hnj
            go_region_law (first
              | (refine step_append_rest rfl (.tmp 40) (.tmp 43) 27 rfl w3.heap.size 61 i0 _ 31 392 Try.underlying27 hi hz0 hz1 hz2 rfl (by decide) (.slice (some ⟨w3.heap.size, 0, none⟩) 0 0) 0 [] (by rfl) (World.ownsRow_made w3 #[] 0 (Nat.le_refl _) (by decide) rfl) (some ⟨b, off, none⟩) k n (flatL Nv.cs (N.take k)) (by rfl) (by rw [flatL_len nv_size, List.length_take, ← hn.out, Nat.min_eq_left (by omega)]) (.inr ⟨_, _, rfl, fun j u hj => old1 (CT.out j u hj) _⟩) (flat_one nv_one _) (by unfold maxLen; omega) (by omega) (by simp) ?_; intro v4 w4 hown4 hgrow4)
              | (refine step_append_rest rfl (.tmp 44) (.tmp 48) 27 rfl w3.heap.size 61 i0 _ 31 392 Try.underlying27 hi hz0 hz1 hz2 rfl (by decide) v4 (0 + k) _ (by rfl) hown4 (some ⟨b, off, none⟩) 0 0 (flatL Nv.cs (N.drop (k + 1))) (by rfl) (by rw [flatL_len nv_size, List.length_drop, ← hn.out, ← HJ.out]; omega) (.inl rfl) (flat_one nv_one _) (by unfold maxLen; omega) (by omega) (by have := hgrow4.size; simp at this; omega) ?_; intro v5 w5 hown5 hgrow5))
            have B5 := ((Below.drew (ball (Below.refl _ w3) _)).trans hgrow4).trans hgrow5
            obtain ⟨m5, hm5⟩ : ∃ m5, m5 = 0 + k + 0 := ⟨_, rfl⟩
            rw [← hm5] at hown5
            have hlen5 : m5 = (N.take k ++ N.drop (k + 1)).length := by have := HJ.out; rw [List.length_append, List.length_drop, List.length_take, ← hn.out, Nat.min_eq_left (by omega)]; omega
            obtain ⟨a5, c5, rfl, hl5, hn5, hcm5⟩ := own_at nv_size (l := N.take k ++ N.drop (k + 1)) (by rw [flatL_append]; simpa using hown5) hlen5
            clear hown5 hgrow4 hgrow5 hown4
            have hns : NsAt w5 a5 (N.take k ++ N.drop (k + 1)) := ⟨hl5, fun y hy => (H1.n.2 y (WF.out y hy)).keep B5⟩
            have HM5 := Lib.hid hm5; have HL5 := Lib.hid hlen5
            clear hm5 hlen5
            go_wp2_with fail
            go_meet
            exact ⟨_, _, _, by rw [HM5.out], hns, HL5.out, Nat.le_trans hn5 hcm5, B5⟩
          ·
            have hce2 : ¬ (cap : Int) = (j : Int) := by omega
            go_region_law (first
              | (refine step_append_rest rfl (.tmp 40) (.tmp 43) 27 rfl w3.heap.size 61 i0 _ 31 392 Try.underlying27 hi hz0 hz1 hz2 rfl (by decide) (.slice (some ⟨w3.heap.size, 0, none⟩) 0 0) 0 [] (by rfl) (World.ownsRow_made w3 #[] 0 (Nat.le_refl _) (by decide) rfl) (some ⟨b, off, none⟩) k cap (flatL Nv.cs (N.take k)) (by rfl) (by rw [flatL_len nv_size, List.length_take, ← hn.out, Nat.min_eq_left (by omega)]) (.inr ⟨_, _, rfl, fun j u hj => old1 (CT.out j u hj) _⟩) (flat_one nv_one _) (by unfold maxLen; omega) (by omega) (by simp) ?_; intro v4 w4 hown4 hgrow4)
              | (refine step_append_rest rfl (.tmp 44) (.tmp 48) 27 rfl w3.heap.size 61 i0 _ 31 392 Try.underlying27 hi hz0 hz1 hz2 rfl (by decide) v4 (0 + k) _ (by rfl) hown4 (some ⟨b, off + j * 31, none⟩) (n - j) (cap - j) (flatL Nv.cs (N.drop (k + 1))) (by rfl) (by rw [flatL_len nv_size, List.length_drop, ← hn.out, ← HJ.out]) (.inr ⟨_, _, rfl, fun q u hq => (hgrow4.cell (p := ⟨b, off + j * 31 + q, none⟩) HB.out).trans (old1 (by rw [HJ.out]; exact CD.out q u hq) _)⟩) (flat_one nv_one _) (by unfold maxLen; omega) (by omega) (by have := hgrow4.size; simp at this; omega) ?_; intro v5 w5 hown5 hgrow5))
            have B5 := ((Below.drew (ball (Below.refl _ w3) _)).trans hgrow4).trans hgrow5
            obtain ⟨m5, hm5⟩ : ∃ m5, m5 = 0 + k + (n - j) := ⟨_, rfl⟩
            rw [← hm5] at hown5
            have hlen5 : m5 = (N.take k ++ N.drop (k + 1)).length := by have := HJ.out; rw [List.length_append, List.length_drop, List.length_take, ← hn.out, Nat.min_eq_left (by omega)]; omega
            obtain ⟨a5, c5, rfl, hl5, hn5, hcm5⟩ := own_at nv_size (l := N.take k ++ N.drop (k + 1)) (by rw [flatL_append]; simpa using hown5) hlen5
            clear hown5 hgrow4 hgrow5 hown4
            have hns : NsAt w5 a5 (N.take k ++ N.drop (k + 1)) := ⟨hl5, fun y hy => (H1.n.2 y (WF.out y hy)).keep B5⟩
            have HM5 := Lib.hid hm5; have HL5 := Lib.hid hlen5
            clear hm5 hlen5
            go_wp2_with fail
            go_meet
            exact ⟨_, _, _, by rw [HM5.out], hns, HL5.out, Nat.le_trans hn5 hcm5, B5⟩
        case rest =>
          obtain ⟨a5, m5, c5, rfl, hns, hm5, hmx, hB⟩ := hcut
          obtain ⟨W6, hW6⟩ : ∃ W6, W6 = wc := ⟨_, rfl⟩
          subst hW6
          replace H1 := H1.keep hB
          replace BB := bstep BB hB
          have HM5 := Lib.hid hm5
          clear hB CT CD HB hm5
          obtain ⟨M, hMM⟩ : ∃ M, N.take k ++ N.drop (k + 1) = M := ⟨_, rfl⟩
          rw [hMM] at hns
          have hm5' : m5 = M.length := by rw [← hMM]; exact HM5.out
          have HM := Lib.hid hm5'
          have SUBM := Lib.hid (show ∀ y ∈ M, y ∈ N from fun y hy => WF.out y (by rw [hMM]; exact hy))
          clear hMM HM5 WF hm5'
          have W40 := Lib.hid (few_40 HQ1.out)
          have hx0 := H1.c 0 _ rfl
          have hx1 := H1.c 1 _ rfl
          have hx2 := H1.c 2 _ rfl
          go_upto_region 6 with (fail)
          go_cut [14, 15] (fun s14 s15 wx => ∃ (r1 r2 : Tv) (p q : Nat), s14 = .pointer (some ⟨p, 0, none⟩) ∧ s15 = .pointer (some ⟨q, 0, none⟩) ∧ CAt wx p r1.cs ∧ CAt wx q r2.cs ∧ r1.ok wx ∧ r2.ok wx ∧ r1.T = yieldV t.T me fr (nbs N) ∧ r2.T = yieldV t.T me fr (nbs M) ∧ Below W6.heap.size W6 wx)
          case first =>
            obtain ⟨Y1, hY1⟩ : ∃ Y, yieldV t.T me fr (nbs N) = Y := ⟨_, rfl⟩
            obtain ⟨Y2, hY2⟩ : ∃ Y, yieldV t.T me fr (nbs M) = Y := ⟨_, rfl⟩
            have HY1 := Lib.hid hY1; have HY2 := Lib.hid hY2
            clear hY1 hY2 hx0 hx1 hx2
            refine wp_region_steps (by kernel_rfl) (by kernel_rfl) (fun d vs w' => ∃ r1 r2 p q, J6 W6 t me fr (some ⟨b, off, none⟩) n cap a5 m5 c5 Y1 Y2 d vs r1 r2 p q w') ⟨default, default, 0, 0, J6.start⟩ ?hs ?hend
            case hs =>
              refine ⟨stepJ_of rfl ?_, stepJ_of rfl ?_, stepJ_of rfl ?_, stepJ_of rfl ?_, stepJ_of rfl ?_, stepJ_of rfl ?_, stepJ_of rfl ?_, stepJ_of rfl ?_, stepJ_of rfl ?_, stepJ_of rfl ?_, stepJ_of rfl ?_, stepJ_of rfl ?_, stepJ_of rfl ?_, stepJ_of rfl ?_, trivial⟩
              all_goals rintro d vs w' ⟨r1, r2, p, q, hJ⟩ hd hp b' hb K hK
              ·
                have e5 : b'.tmps.getD 5 undef = .pointer (some ⟨w.heap.size, 0, none⟩) := hb.old 5 (by kernel_rfl)
                have Hc := H1.keep hJ.b
                have c0 := Hc.c 0 _ rfl
                have c1 := Hc.c 1 _ rfl
                have c2 := Hc.c 2 _ rfl
                go_simp
                exact hK _ _ _ rfl ⟨_, _, _, _, hJ.s0 hd⟩
              ·
                have e5 : b'.tmps.getD 1 undef = .int .i64 me := hb.old 1 (by kernel_rfl)
                go_simp
                exact hK _ _ _ rfl ⟨_, _, _, _, hJ.s1 hd⟩
              ·
                have e5 : b'.tmps.getD 2 undef = .slice (some ⟨b, off, none⟩) n cap := hb.old 2 (by kernel_rfl)
                go_simp
                exact hK _ _ _ rfl ⟨_, _, _, _, hJ.s2 hd⟩
              ·
                have e5 : b'.tmps.getD 3 undef = .int .i64 fr := hb.old 3 (by kernel_rfl)
                go_simp
                exact hK _ _ _ rfl ⟨_, _, _, _, hJ.s3 hd⟩
              ·
                have p0 : d 0 = true := hp ⟨0, .data⟩ (by simp) rfl
                have p1 : d 1 = true := hp ⟨1, .data⟩ (by simp) rfl
                have p2 : d 2 = true := hp ⟨2, .data⟩ (by simp) rfl
                have p3 : d 3 = true := hp ⟨3, .data⟩ (by simp) rfl
                have g50 : b'.tmps.getD 50 undef = t.v := hb.at 0 50 rfl (by show (50:Nat) < 87; decide) p0 (hJ.f0 p0)
                have g51 : b'.tmps.getD 51 undef = .int .i64 me := hb.at 1 51 rfl (by show (51:Nat) < 87; decide) p1 (hJ.f1 p1)
                have g52 : b'.tmps.getD 52 undef = .slice (some ⟨b, off, none⟩) n cap := hb.at 2 52 rfl (by show (52:Nat) < 87; decide) p2 (hJ.f2 p2)
                have g53 : b'.tmps.getD 53 undef = .int .i64 fr := hb.at 3 53 rfl (by show (53:Nat) < 87; decide) p3 (hJ.f3 p3)
                have Hc := H1.keep hJ.b
                go_simp
                refine (yield_at t me fr N n _ cap _ (Lib.hid Hc.o0) hn Hc.n hn2 W40).mono ?_
                rintro e u1 ⟨r, rfl, ok1, te1, bv⟩
                exact hK _ _ _ rfl ⟨_, _, _, _, (hJ.keep bv).s4 hd ok1 (te1.trans HY1.out)⟩
              ·
                have e5 : b'.tmps.getD 5 undef = .pointer (some ⟨w.heap.size, 0, none⟩) := hb.old 5 (by kernel_rfl)
                have Hc := H1.keep hJ.b
                have c0 := Hc.c 0 _ rfl
                have c1 := Hc.c 1 _ rfl
                have c2 := Hc.c 2 _ rfl
                go_simp
                exact hK _ _ _ rfl ⟨_, _, _, _, hJ.s5 hd⟩
              ·
                have e5 : b'.tmps.getD 1 undef = .int .i64 me := hb.old 1 (by kernel_rfl)
                go_simp
                exact hK _ _ _ rfl ⟨_, _, _, _, hJ.s6 hd⟩
              ·
                have e5 : b'.tmps.getD 13 undef = .slice a5 m5 c5 := hb.old 13 (by kernel_rfl)
                go_simp
                exact hK _ _ _ rfl ⟨_, _, _, _, hJ.s7 hd⟩
              ·
                have e5 : b'.tmps.getD 3 undef = .int .i64 fr := hb.old 3 (by kernel_rfl)
                go_simp
                exact hK _ _ _ rfl ⟨_, _, _, _, hJ.s8 hd⟩
              ·
                have p5 : d 5 = true := hp ⟨5, .data⟩ (by simp) rfl
                have p6 : d 6 = true := hp ⟨6, .data⟩ (by simp) rfl
                have p7 : d 7 = true := hp ⟨7, .data⟩ (by simp) rfl
                have p8 : d 8 = true := hp ⟨8, .data⟩ (by simp) rfl
                have g55 : b'.tmps.getD 55 undef = t.v := hb.at 5 55 rfl (by show (55:Nat) < 87; decide) p5 (hJ.f5 p5)
                have g56 : b'.tmps.getD 56 undef = .int .i64 me := hb.at 6 56 rfl (by show (56:Nat) < 87; decide) p6 (hJ.f6 p6)
                have g57 : b'.tmps.getD 57 undef = .slice a5 m5 c5 := hb.at 7 57 rfl (by show (57:Nat) < 87; decide) p7 (hJ.f7 p7)
                have g58 : b'.tmps.getD 58 undef = .int .i64 fr := hb.at 8 58 rfl (by show (58:Nat) < 87; decide) p8 (hJ.f8 p8)
                have Hc := H1.keep hJ.b
                have M1 := hns.keep hJ.b
                go_simp
                refine (yield_at t me fr M m5 a5 c5 _ (Lib.hid Hc.o0) HM M1 hmx W40).mono ?_
                rintro e u1 ⟨r, rfl, ok1, te1, bv⟩
                exact hK _ _ _ rfl ⟨_, _, _, _, (hJ.keep bv).s9 hd ok1 (te1.trans HY2.out)⟩
              ·
                go_simp
                exact hK _ _ _ rfl ⟨_, _, _, _, hJ.s10 hd⟩
              ·
                go_simp
                exact hK _ _ _ rfl ⟨_, _, _, _, hJ.s11 hd⟩
              ·
                have p4 : d 4 = true := hp ⟨4, .data⟩ (by simp) rfl
                have p10 : d 10 = true := hp ⟨10, .data⟩ (by simp) rfl
                have g54 : b'.tmps.getD 54 undef = r1.v := hb.at 4 54 rfl (by show (54:Nat) < 87; decide) p4 (hJ.f4 p4)
                have g14 : b'.tmps.getD 14 undef = .pointer (some ⟨p, 0, none⟩) := hb.at 10 14 rfl (by show (14:Nat) < 87; decide) p10 (hJ.f10 p10)
                have Z := hJ.z12 p10 hd
                have F := (hJ.o10 p10).2.2
                have z0 := Z 0 _ rfl
                have z1 := Z 1 _ rfl
                have z2 := Z 2 _ rfl
                have f0 := F.1 0
                have f1 := F.1 1
                have f2 := F.1 2
                go_simp
                exact hK _ _ _ rfl ⟨_, _, _, _, hJ.s12 hd p4 p10⟩
              ·
                have p9 : d 9 = true := hp ⟨9, .data⟩ (by simp) rfl
                have p11 : d 11 = true := hp ⟨11, .data⟩ (by simp) rfl
                have g59 : b'.tmps.getD 59 undef = r2.v := hb.at 9 59 rfl (by show (59:Nat) < 87; decide) p9 (hJ.f9 p9)
                have g15 : b'.tmps.getD 15 undef = .pointer (some ⟨q, 0, none⟩) := hb.at 11 15 rfl (by show (15:Nat) < 87; decide) p11 (hJ.f11 p11)
                have Z := hJ.z13 p11 hd
                have F := (hJ.o11 p11).2.2
                have z0 := Z 0 _ rfl
                have z1 := Z 1 _ rfl
                have z2 := Z 2 _ rfl
                have f0 := F.1 0
                have f1 := F.1 1
                have f2 := F.1 2
                go_simp
                exact hK _ _ _ rfl ⟨_, _, _, _, hJ.s13 hd p9 p11⟩
            case hend =>
              rintro d vs w' hall ⟨r1, r2, p, q, hJ⟩
              have v10 := hJ.f10 (hall 10 (by decide))
              have v11 := hJ.f11 (hall 11 (by decide))
              simp only [allA, Act.put, List.setIfInBounds_toArray, List.set_cons_zero, List.set_cons_succ, v10, v11]
              have HJ := Lib.hid hJ
              have HA := Lib.hid hall
              clear hJ hall v10 v11
              go_wp2_with fail
              go_meet
              exact ⟨r1, r2, p, q, rfl, rfl, HJ.out.f12 (HA.out 12 (by decide)), HJ.out.f13 (HA.out 13 (by decide)), (HJ.out.o4 (HA.out 4 (by decide))).1, (HJ.out.o9 (HA.out 9 (by decide))).1, (HJ.out.o4 (HA.out 4 (by decide))).2.trans HY1.out.symm, (HJ.out.o9 (HA.out 9 (by decide))).2.trans HY2.out.symm, HJ.out.b⟩
          case rest =>
            obtain ⟨r1, r2, p, q, rfl, rfl, Tp, Tq, ok1, ok2, te1, te2, hB⟩ := hcut
            obtain ⟨W7, hW7⟩ : ∃ W7, W7 = wc := ⟨_, rfl⟩
            subst hW7
            replace BB := bstep BB hB
            clear hB H1 hns
            have hsub : ∀ n ∈ nbs M, n ∈ nbs N := fun y hy => by
              obtain ⟨z, hz, rfl⟩ := List.mem_map.1 hy
              exact List.mem_map.2 ⟨z, SUBM.out z hz, rfl⟩
            have hUU : Hid (∀ u ∈ r1.T.U, u ∈ r2.T.U) := Lib.hid (by rw [te1, te2]; exact (yield_more hsub).1)
            have hGG : Hid (∀ u ∈ r1.T.G, u ∈ r2.T.G) := Lib.hid (by rw [te1, te2]; exact (yield_more hsub).2)
            clear hsub te1 te2
            obtain ⟨T1, ua, nu, uc, ga, ng, gc, aa, na, ac⟩ := r1
            have hu := ok1.um; have hu2 := ok1.uc; have hg := ok1.gm; have hg2 := ok1.gc
            unfold maxLen at hu hg
            simp only at hu hu2 hg hg2 hUU hGG
            have OK1 := Lib.hid ok1; have OK2 := Lib.hid ok2
            clear ok1 ok2
            have p0 := Tp 0 _ rfl
            go_wp2_with fail
            clear p0
            go_loopw [63] (fun i wr => ∃ z : Nat, z ≤ nu ∧ i = .int .i64 z ∧ Below W7.heap.size W7 wr) (fun i _ => nu - (intOf i).toNat)
            case atStart => exact ⟨0, Nat.zero_le _, rfl, Below.refl _ _⟩
            case round =>
              obtain ⟨z, hz, rfl, B1⟩ := hrel
              by_cases hlt : z < nu
              ·
                have hlt' : (z : Int) < (nu : Int) := by omega
                have hz0 : (0 : Int) ≤ (z : Int) := by omega
                have hzl : z < T1.U.length := by have := OK1.out.un; simp only at this; omega
                obtain ⟨b2, o2, e1, d0, d1, d2, d3⟩ := OK1.out.u.us B1 (i := z) hzl
                simp only at e1
                have hym : T1.U.getD z default ∈ T1.U := getD_mem hzl
                obtain ⟨y, hy⟩ : ∃ y, T1.U.getD z default = y := ⟨_, rfl⟩
                simp only [hy] at d0 d1 d2 d3
                rw [hy] at hym
                have HYM := Lib.hid (hUU.out y hym)
                subst e1
                clear hy hym hzl
                go_upto_region 10 with (fail)
                clear d0 d1 d2 d3
                have Ty := CAt.new wr [.int .i64 y.s, .int .i64 y.o, .int .i64 y.p, .int .i64 y.t] 43
                have bA : Below wr.heap.size wr (wr.alloc (.cells #[.int .i64 y.s, .int .i64 y.o, .int .i64 y.p, .int .i64 y.t] 43)) := ball (Below.refl _ _) _
                obtain ⟨V, hV⟩ : ∃ V, wr.alloc (.cells #[.int .i64 y.s, .int .i64 y.o, .int .i64 y.p, .int .i64 y.t] 43) = V := ⟨_, rfl⟩
                rw [hV] at Ty bA ⊢
                clear hV
                replace B1 := bstep B1 bA
                have Tv2 := Tq.keep B1
                have q0 := Tv2 0 _ rfl
                have q1 := Tv2 1 _ rfl
                have q2 := Tv2 2 _ rfl
                have y0 := Ty 0 _ rfl
                have y1 := Ty 1 _ rfl
                have y2 := Ty 2 _ rfl
                have y3 := Ty 3 _ rfl
                go_wp2_with fail
                refine (holdsU_at r2 y ⟨0, 0, 0, 0, 0⟩ _ (Lib.hid (OK2.out.keep B1)) true (Lib.hid (by simpa using HYM.out))).mono ?_
                rintro e w4 ⟨rfl, b4⟩
                clear q0 q1 q2 y0 y1 y2 y3
                go_wp2_with fail
                go_roundw
                case rel => exact ⟨z + 1, by omega, by go_num, bstep B1 b4⟩
                case measure => simp [intOf]; omega
              ·
                obtain rfl : nu = z := by omega
                have hlt' : ¬ (nu : Int) < (nu : Int) := by omega
                have p1 := (Tp.keep B1) 1 _ rfl
                go_wp2_with fail
                clear p1
                go_loopw [76] (fun i wr => ∃ z : Nat, z ≤ ng ∧ i = .int .i64 z ∧ Below W7.heap.size W7 wr) (fun i _ => ng - (intOf i).toNat)
                case atStart => exact ⟨0, Nat.zero_le _, rfl, B1⟩
                case round =>
                  obtain ⟨z, hz, rfl, B1⟩ := hrel
                  by_cases hlt : z < ng
                  ·
                    have hlt' : (z : Int) < (ng : Int) := by omega
                    have hz0 : (0 : Int) ≤ (z : Int) := by omega
                    have hzl : z < T1.G.length := by have := OK1.out.gn; simp only at this; omega
                    obtain ⟨b2, o2, e1, d0, d1, d2, d3, d4⟩ := OK1.out.g.gr B1 (i := z) hzl
                    simp only at e1
                    have hym : T1.G.getD z default ∈ T1.G := getD_mem hzl
                    obtain ⟨y, hy⟩ : ∃ y, T1.G.getD z default = y := ⟨_, rfl⟩
                    simp only [hy] at d0 d1 d2 d3 d4
                    rw [hy] at hym
                    have HYM := Lib.hid (hGG.out y hym)
                    subst e1
                    clear hy hym hzl
                    go_upto_region 16 with (fail)
                    clear d0 d1 d2 d3 d4
                    have Ty := CAt.new wr [.int .i64 y.s, .int .i64 y.o, .int .i64 y.p, .int .i64 y.t, .int .i64 y.u] 63
                    have bA : Below wr.heap.size wr (wr.alloc (.cells #[.int .i64 y.s, .int .i64 y.o, .int .i64 y.p, .int .i64 y.t, .int .i64 y.u] 63)) := ball (Below.refl _ _) _
                    obtain ⟨V, hV⟩ : ∃ V, wr.alloc (.cells #[.int .i64 y.s, .int .i64 y.o, .int .i64 y.p, .int .i64 y.t, .int .i64 y.u] 63) = V := ⟨_, rfl⟩
                    rw [hV] at Ty bA ⊢
                    clear hV
                    replace B1 := bstep B1 bA
                    have Tv2 := Tq.keep B1
                    have q0 := Tv2 0 _ rfl
                    have q1 := Tv2 1 _ rfl
                    have q2 := Tv2 2 _ rfl
                    have y0 := Ty 0 _ rfl
                    have y1 := Ty 1 _ rfl
                    have y2 := Ty 2 _ rfl
                    have y3 := Ty 3 _ rfl
                    have y4 := Ty 4 _ rfl
                    go_wp2_with fail
                    refine (holdsG_at r2 ⟨0, 0, 0, 0⟩ y _ (Lib.hid (OK2.out.keep B1)) true (Lib.hid (by simpa using HYM.out))).mono ?_
                    rintro e w4 ⟨rfl, b4⟩
                    clear q0 q1 q2 y0 y1 y2 y3 y4
                    go_wp2_with fail
                    go_roundw
                    case rel => exact ⟨z + 1, by omega, by go_num, bstep B1 b4⟩
                    case measure => simp [intOf]; omega
                  ·
                    obtain rfl : ng = z := by omega
                    have hlt2 : ¬ (ng : Int) < (ng : Int) := by omega
                    go_wp2_with fail
                    go_ret
                    exact ⟨rfl, bstep BB B1⟩
end Go.Proofs.Ytleenbfldkmcaaa
