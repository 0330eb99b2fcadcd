/- Proved: the law that giving up again changes nothing, nor does another order of what was heard. Conditions: what came in lies in memory. -/
import Derived.Test.YtleenbfldkmcaaaK24c
import Derived.Test.YtleenbfldkmcaaaK20
import Derived.Test.YtleenbfldkmcaaaK19
namespace Go.Proofs.Ytleenbfldkmcaaa
open Go.RowKit Go.Sort Go.BigFrame
set_option linter.unusedVariables false
set_option linter.unusedSimpArgs false
attribute [local go_sem] cell_alloc_old
attribute [local go_sem ↓] exec_load61
/-- What came in, the box of the table, the box of what remained. -/
structure MR (k0 : Nat) (t : Tv) (N : List Nv) (a : Option Addr) (p : Nat) (r : Tv) (w : World) : Prop where
  c : CAt w k0 t.cs
  o0 : t.ok w
  n : NsAt w a N
  c2 : CAt w p r.cs
  o2 : r.ok w
theorem MR.keep {k0 p : Nat} {t r : Tv} {N : List Nv} {a : Option Addr} {w w' : World} (h : MR k0 t N a p r w) (hb : Below w.heap.size w w') : MR k0 t N a p r w' := ⟨h.c.keep hb, h.o0.keep hb, h.n.keep hb, h.c2.keep hb, h.o2.keep hb⟩
theorem MR.ca {k0 p : Nat} {t r : Tv} {N : List Nv} {a : Option Addr} {w : World} (h : MR k0 t N a p r w) : w.cell? ⟨k0, 0, none⟩ = some (.slice t.ua t.nu t.uc) ∧ w.cell? ⟨k0, 1, none⟩ = some (.slice t.ga t.ng t.gc) ∧ w.cell? ⟨k0, 2, none⟩ = some (.slice t.aa t.na t.ac) ∧ w.cell? ⟨p, 0, none⟩ = some (.slice r.ua r.nu r.uc) ∧ w.cell? ⟨p, 1, none⟩ = some (.slice r.ga r.ng r.gc) ∧ w.cell? ⟨p, 2, none⟩ = some (.slice r.aa r.na r.ac) := ⟨h.c 0 _ rfl, h.c 1 _ rfl, h.c 2 _ rfl, h.c2 0 _ rfl, h.c2 1 _ rfl, h.c2 2 _ rfl⟩
structure MA (k0 : Nat) (t : Tv) (N : List Nv) (a : Option Addr) (w : World) : Prop where
  c : CAt w k0 t.cs
  o0 : t.ok w
  n : NsAt w a N
theorem MA.keep {k0 : Nat} {t : Tv} {N : List Nv} {a : Option Addr} {w w' : World} (h : MA k0 t N a w) (hb : Below w.heap.size w w') : MA k0 t N a w' := ⟨h.c.keep hb, h.o0.keep hb, h.n.keep hb⟩
theorem fewNB_70 {N : List Nv} (h : fewNB N = true) : N.length ≤ 70 := by
  unfold fewNB at h
  simp only [Bool.and_eq_true, decide_eq_true_eq] at h
  omega

set_option maxRecDepth 100000 in
set_option maxHeartbeats 4000000 in
theorem again_at (t : Tv) (me fr le : Int) (N : List Nv) (n : Nat) (a : Option Addr) (cap : Nat) (w : World)
    (hn : Hid (n = N.length)) (ht : t.ok w) (hN : NsAt w a N) (hnc : n ≤ cap) (hcm : cap ≤ maxLen) (hl0 : 0 ≤ le) (hl1 : le ≤ 255) :
    Calls Try.prog 6 #[t.v, .int .i64 me, .slice a n cap, .int .i64 fr, .int .u8 le] w (Yes true w) := by
  have hn2 : n ≤ maxLen := Nat.le_trans hnc hcm
  obtain ⟨q1, hq1⟩ : ∃ q, fewB t = q := ⟨_, rfl⟩
  obtain ⟨q2, hq2⟩ : ∃ q, fewNB N = q := ⟨_, rfl⟩
  have HQ1 := Lib.hid hq1; have HQ2 := Lib.hid hq2
  clear hq1 hq2
  have bA : Below w.heap.size w (w.alloc (.cells #[.slice t.ua t.nu t.uc, .slice t.ga t.ng t.gc, .slice t.aa t.na t.ac] 26)) := ball (Below.refl _ _) _
  have HM : Hid (MA w.heap.size t N a (w.alloc (.cells #[.slice t.ua t.nu t.uc, .slice t.ga t.ng t.gc, .slice t.aa t.na t.ac] 26))) := Lib.hid ⟨CAt.new w [.slice t.ua t.nu t.uc, .slice t.ga t.ng t.gc, .slice t.aa t.na t.ac] 26, ht.keep bA, hN.keep bA⟩
  clear ht hN
  go_enter Try.func6, Try.ntmps6
  go_wp2_with fail
  refine (head_any _).mono ?_
  rintro e w1 ⟨rfl, b1⟩
  have H1 := HM.out.keep b1
  have BB := bstep bA b1
  clear b1 bA HM
  have c0 := H1.c 0 _ rfl
  have c1 := H1.c 1 _ rfl
  have c2 := H1.c 2 _ rfl
  go_wp2_with fail
  refine (few_at t q1 _ HQ1.out).mono ?_
  rintro e w2 ⟨rfl, b2⟩
  replace H1 := H1.keep b2
  replace BB := bstep BB b2
  clear b2 c0 c1 c2
  cases q1
  ·
    go_wp2_with fail
    go_ret
    exact ⟨rfl, BB⟩
  ·
    go_wp2_with fail
    refine (fewnear_at N n a cap _ hn H1.n hn2 q2 HQ2).mono ?_
    rintro e w3 ⟨rfl, b2⟩
    replace H1 := H1.keep b2
    replace BB := bstep BB b2
    clear b2
    cases q2
    ·
      go_wp2_with fail
      go_ret
      exact ⟨rfl, BB⟩
    ·
      have W40 := Lib.hid (few_40 HQ1.out)
      have d0 := H1.c 0 _ rfl
      have d1 := H1.c 1 _ rfl
      have d2 := H1.c 2 _ rfl
      go_wp2_with fail
      clear d0 d1 d2
      refine (yield_at t me fr N n a cap _ (Lib.hid H1.o0) hn H1.n hn2 W40).mono ?_
      rintro e w4 ⟨⟨R, ua, nu, uc, ga, ng, gc, aa, na, ac⟩, rfl, ok1, te1, b4⟩
      have R40 := Lib.hid (yield_len H1.o0 ok1 te1 W40.out)
      replace H1 := H1.keep b4
      replace BB := bstep BB b4
      clear b4
      have TE := Lib.hid te1
      clear te1
      go_upto_region 5 with (fail)
      have Tr := CAt.new w4 [.slice ua nu uc, .slice ga ng gc, .slice aa na ac] 26
      have bA : Below w4.heap.size w4 (w4.alloc (.cells #[.slice ua nu uc, .slice ga ng gc, .slice aa na ac] 26)) := ball (Below.refl _ _) _
      obtain ⟨p, hp⟩ : ∃ p, w4.heap.size = p := ⟨_, rfl⟩
      have H2 : MR w.heap.size t N a p ⟨R, ua, nu, uc, ga, ng, gc, aa, na, ac⟩ (w4.alloc (.cells #[.slice ua nu uc, .slice ga ng gc, .slice aa na ac] 26)) := ⟨H1.c.keep bA, H1.o0.keep bA, H1.n.keep bA, by rw [← hp]; exact Tr, ok1.keep bA⟩
      obtain ⟨W5, hW5⟩ : ∃ W5, w4.alloc (.cells #[.slice ua nu uc, .slice ga ng gc, .slice aa na ac] 26) = W5 := ⟨_, rfl⟩
      rw [hW5] at H2 bA ⊢
      rw [hp] at ⊢
      replace BB := bstep BB bA
      clear hW5 bA Tr H1 ok1 hp
      obtain ⟨z0, hz0⟩ : ∃ z0, ((n : Int) == 0) = z0 := ⟨_, rfl⟩

      go_cut [42] (fun sx wx => sx = .bool z0 ∧ Below W5.heap.size W5 wx)
      case first =>
        cases z0
        all_goals
          go_region_held3 (fun w' => w'.cell? ⟨w.heap.size, 0, none⟩ = some (.slice t.ua t.nu t.uc) ∧ w'.cell? ⟨w.heap.size, 1, none⟩ = some (.slice t.ga t.ng t.gc) ∧ w'.cell? ⟨w.heap.size, 2, none⟩ = some (.slice t.aa t.na t.ac) ∧ w'.cell? ⟨p, 0, none⟩ = some (.slice ua nu uc) ∧ w'.cell? ⟨p, 1, none⟩ = some (.slice ga ng gc) ∧ w'.cell? ⟨p, 2, none⟩ = some (.slice aa na ac))
            (first | exact G2.ca | exact (G2.keep (Below.drew (Below.refl _ _))).ca | exact G1.ca | exact (G1.keep (Below.drew (Below.refl _ _))).ca | exact H2.ca | exact (H2.keep (Below.drew (Below.refl _ _))).ca)
            (first
              | (have _ := H2
                 fail_if_success (have _ := G1)
                 go_at_call 15
                 refine (yield_at ⟨R, ua, nu, uc, ga, ng, gc, aa, na, ac⟩ me fr N n _ cap _ (Lib.hid (H2.o2.keep (by first | exact Below.refl _ _ | exact Below.drew (Below.refl _ _) | exact ball (Below.refl _ _) _ | exact Below.drew (ball (Below.refl _ _) _) | exact ball (Below.drew (Below.refl _ _)) _))) hn (H2.n.keep (by first | exact Below.refl _ _ | exact Below.drew (Below.refl _ _) | exact ball (Below.refl _ _) _ | exact Below.drew (ball (Below.refl _ _) _) | exact ball (Below.drew (Below.refl _ _)) _)) hn2 R40).mono ?_
                 rintro e u1 ⟨⟨rT, y1, y2, y3, y4, y5, y6, y7, y8, y9⟩, rfl, ok1, te1, v⟩
                 have G1 := H2.keep (bstep (by first | exact Below.refl _ _ | exact Below.drew (Below.refl _ _) | exact ball (Below.refl _ _) _ | exact Below.drew (ball (Below.refl _ _) _) | exact ball (Below.drew (Below.refl _ _)) _) v)
                 have LG1 : Below W5.heap.size W5 u1 := bstep (bstep (Below.refl _ W5) (by first | exact Below.refl _ _ | exact Below.drew (Below.refl _ _) | exact ball (Below.refl _ _) _ | exact Below.drew (ball (Below.refl _ _) _) | exact ball (Below.drew (Below.refl _ _)) _)) v
                 clear v)
              | (have _ := G1
                 fail_if_success (have _ := G2)
                 go_at_call 14
                 refine (same_at ⟨_, _, _, _, _, _, _, _, _, _⟩ ⟨R, ua, nu, uc, ga, ng, gc, aa, na, ac⟩ _ (ok1.keep (by first | exact Below.refl _ _ | exact Below.drew (Below.refl _ _) | exact ball (Below.refl _ _) _ | exact Below.drew (ball (Below.refl _ _) _) | exact ball (Below.drew (Below.refl _ _)) _)) (G1.o2.keep (by first | exact Below.refl _ _ | exact Below.drew (Below.refl _ _) | exact ball (Below.refl _ _) _ | exact Below.drew (ball (Below.refl _ _) _) | exact ball (Below.drew (Below.refl _ _)) _)) true (same_eq (te1.trans (by rw [TE.out]; exact yield_again _ _ _ _)))).mono ?_
                 rintro e u2 ⟨rfl, v⟩
                 have G2 := G1.keep (bstep (by first | exact Below.refl _ _ | exact Below.drew (Below.refl _ _) | exact ball (Below.refl _ _) _ | exact Below.drew (ball (Below.refl _ _) _) | exact ball (Below.drew (Below.refl _ _)) _) v)
                 have LG2 : Below W5.heap.size W5 u2 := bstep (bstep LG1 (by first | exact Below.refl _ _ | exact Below.drew (Below.refl _ _) | exact ball (Below.refl _ _) _ | exact Below.drew (ball (Below.refl _ _) _) | exact ball (Below.drew (Below.refl _ _)) _)) v
                 clear v))
          all_goals go_wp2_with fail
          all_goals go_meet
          all_goals exact ⟨rfl, by first | exact LG2 | exact bstep (Below.drew (Below.refl _ _)) LG2⟩
      case rest =>
        obtain ⟨rfl, hB⟩ := hcut
        obtain ⟨W6, hW6⟩ : ∃ W6, W6 = wc := ⟨_, rfl⟩
        subst hW6
        replace BB := bstep BB hB
        replace H2 := H2.keep hB
        clear hB
        cases z0
        ·
          have h0 : ¬ n = 0 := by intro e; subst e; simp at hz0
          obtain ⟨k, hk⟩ : ∃ k : Nat, le.tmod n = k := ⟨(le.tmod n).toNat, by rw [Int.tmod_eq_emod_of_nonneg hl0]; have := Int.emod_nonneg le (b := (n : Int)) (by omega); omega⟩
          have hkn : k < n := by
            rw [Int.tmod_eq_emod_of_nonneg hl0] at hk; have := Int.emod_lt_of_pos le (b := (n : Int)) (by omega); omega
          have hk1 : (k : Int) ≤ (n : Int) := by omega
          have hk2 : (k : Int) < (n : Int) := by omega
          have hk0 : (0 : Int) ≤ (k : Int) := by omega
          have hkc : (k : Int) ≤ (cap : Int) := by omega
          have hkc' : ¬ (cap : Int) = (k : Int) := by omega
          have hkc'' : ¬ cap = k := by omega
          have hnc' : (n : Int) ≤ (cap : Int) := by omega
          have hsub : (n : Int) - (k : Int) = ((n - k : Nat) : Int) := by omega
          have hf2 := fewNB_70 HQ2.out
          have hn70 : n ≤ 70 := by have := hn.out; omega
          clear hf2
          obtain ⟨b, off, rfl, hc⟩ := H2.n.1.at (i := 0) (by rw [← hn.out]; omega)
          have hkl : k < N.length := by rw [← hn.out]; exact hkn
          obtain ⟨x, hx⟩ : ∃ x, N.getD k default = x := ⟨_, rfl⟩
          have hck := hc k hkl
          rw [hx] at hck
          have CX := Lib.hid (show CellsAt W6 b (off + k * 31) x.cs from fun j u hj => hck j u hj)
          have CT := Lib.hid (cells_at nv_size (by decide) (H2.n.1.take k))
          have CD := Lib.hid (cells_at nv_size (by decide) (H2.n.1.drop k))
          have hB3 := World.block_lt_of_cell? W6 ⟨b, off + 0 * 31 + 0, none⟩ (hc 0 (by rw [← hn.out]; omega) 0 _ rfl)
          simp only at hB3
          have HB := Lib.hid hB3
          have hldB : Hid (∀ V, Below W6.heap.size W6 V → (load61 (.pointer (some ⟨b, off + k * 31, none⟩))).run Try.prog V = .ok x.v V) := Lib.hid (fun V hV => run_load61 x (CX.out.keep hV))
          obtain ⟨i0, hi, hz0', hz1, hz2⟩ := info_parts info61
          have HX := Lib.hid hx
          clear hc hB3 hx hck
          go_upto_region 8 with (fail)
          go_cut [14] (fun sx wx => ∃ (a5 : Option Addr) (m5 c5 : Nat), sx = .slice a5 m5 c5 ∧ NsAt wx a5 ((N.drop k ++ N.take k) ++ [x]) ∧ m5 = ((N.drop k ++ N.take k) ++ [x]).length ∧ m5 ≤ maxLen ∧ Below W6.heap.size W6 wx)
          case first =>
            obtain ⟨C4, hC4⟩ : ∃ C, flatL Nv.cs (N.drop k) = C := ⟨_, rfl⟩
            obtain ⟨T5, hT5⟩ : ∃ C, flatL Nv.cs (N.take k) = C := ⟨_, rfl⟩
            have CD4 : Hid (CellsAt W6 b (off + k * 31) C4 ∧ C4.length = (n - k) * 31 ∧ ∀ u ∈ C4, u.oneCell' = true) := Lib.hid (by
              rw [← hC4]; exact ⟨CD.out, by rw [flatL_len nv_size, List.length_drop, ← hn.out], flat_one nv_one _⟩)
            have CT5 : Hid (CellsAt W6 b off T5 ∧ T5.length = k * 31 ∧ ∀ u ∈ T5, u.oneCell' = true) := Lib.hid (by
              rw [← hT5]; exact ⟨CT.out, by rw [flatL_len nv_size, List.length_take, ← hn.out, Nat.min_eq_left (by omega)], flat_one nv_one _⟩)
            have HC4 := Lib.hid hC4; have HT5 := Lib.hid hT5
            clear hC4 hT5 CD CT
            refine wp_region_steps (by kernel_rfl) (by kernel_rfl) (fun d vs w' => ∃ v0 v4 v5 v6 g, J8 W6 (.slice (some ⟨b, off, none⟩) n cap) (.slice (some ⟨b, off + k * 31, none⟩) (n - k : Nat) (cap - k)) (.slice (some ⟨b, off, none⟩) k cap) (.pointer (some ⟨b, off + k * 31, none⟩)) k x (0 + (n - k)) (0 + (n - k) + k) ([] ++ C4) ([] ++ C4 ++ T5) d vs v0 v4 v5 v6 g w') ⟨undef, undef, undef, undef, 0, J8.start⟩ ?hs ?hend
            case hs =>
              refine ⟨stepJ_of rfl ?_, stepJ_of rfl ?_, stepJ_of rfl ?_, stepJ_of rfl ?_, ?s4, stepJ_of rfl ?_, stepJ_of rfl ?_, stepJ_of rfl ?_, ?s8, stepJ_of rfl ?_, stepJ_of rfl ?_, stepJ_of rfl ?_, stepJ_of rfl ?_, stepJ_of rfl ?_, ?s14, stepJ_of rfl ?_, trivial⟩
              all_goals rintro d vs w' ⟨v0, v4, v5, v6, g, hJ⟩ hd hp b' hb K hK
              ·
                go_simp
                exact hK _ _ _ rfl ⟨_, _, _, _, _, hJ.s0 hd⟩
              ·
                have e5 : b'.tmps.getD 2 undef = .slice (some ⟨b, off, none⟩) n cap := hb.old 2 (by kernel_rfl)
                go_simp
                exact hK _ _ _ rfl ⟨_, _, _, _, _, hJ.s1 hd⟩
              ·
                have e5 : b'.tmps.getD 13 undef = .int .i64 k := hb.old 13 (by kernel_rfl)
                go_simp
                exact hK _ _ _ rfl ⟨_, _, _, _, _, hJ.s2 hd⟩
              ·
                have p1 : d 1 = true := hp ⟨1, .data⟩ (by simp) rfl
                have p2 : d 2 = true := hp ⟨2, .data⟩ (by simp) rfl
                have g55 : b'.tmps.getD 55 undef = .slice (some ⟨b, off, none⟩) n cap := hb.at 1 55 rfl (by show (55:Nat) < 79; decide) p1 (hJ.f1 p1)
                have g56 : b'.tmps.getD 56 undef = .int .i64 k := hb.at 2 56 rfl (by show (56:Nat) < 79; decide) p2 (hJ.f2 p2)
                go_simp
                exact hK _ _ _ rfl ⟨_, _, _, _, _, hJ.s3 hd⟩
              ·
                have p0 : d 0 = true := hp ⟨0, .data⟩ (by simp) rfl
                have p3 : d 3 = true := hp ⟨3, .data⟩ (by simp) rfl
                have g54 : b'.tmps.getD 54 undef = v0 := hb.at 0 54 rfl (by show (54:Nat) < 79; decide) p0 (hJ.f0 p0)
                have g57 : b'.tmps.getD 57 undef = .slice (some ⟨b, off + k * 31, none⟩) (n - k : Nat) (cap - k) := hb.at 3 57 rfl (by show (57:Nat) < 79; decide) p3 (hJ.f3 p3)
                refine step_append_grown rfl (.tmp 54) (.tmp 57) 27 rfl W6.heap.size 61 i0 _ 31 392 Try.underlying27 hi hz0' hz1 hz2 rfl (by decide) v0 (0) [] g54 (hJ.o0 p0 hd) b (off + k * 31) (n - k) (cap - k) (C4) g57 (CD4.out.2.1) (CD4.out.1.keep hJ.b) (CD4.out.2.2) (by unfold maxLen; omega) (by omega) hJ.b.size ?_
                intro v' w1 own' grow' blk' B'
                exact hK _ _ _ rfl ⟨_, _, _, _, _, hJ.s4 hd p0 B' grow' blk' own'⟩
              ·
                have e5 : b'.tmps.getD 2 undef = .slice (some ⟨b, off, none⟩) n cap := hb.old 2 (by kernel_rfl)
                go_simp
                exact hK _ _ _ rfl ⟨_, _, _, _, _, hJ.s5 hd⟩
              ·
                have e5 : b'.tmps.getD 13 undef = .int .i64 k := hb.old 13 (by kernel_rfl)
                go_simp
                exact hK _ _ _ rfl ⟨_, _, _, _, _, hJ.s6 hd⟩
              ·
                have p5 : d 5 = true := hp ⟨5, .data⟩ (by simp) rfl
                have p6 : d 6 = true := hp ⟨6, .data⟩ (by simp) rfl
                have g59 : b'.tmps.getD 59 undef = .slice (some ⟨b, off, none⟩) n cap := hb.at 5 59 rfl (by show (59:Nat) < 79; decide) p5 (hJ.f5 p5)
                have g60 : b'.tmps.getD 60 undef = .int .i64 k := hb.at 6 60 rfl (by show (60:Nat) < 79; decide) p6 (hJ.f6 p6)
                go_simp
                exact hK _ _ _ rfl ⟨_, _, _, _, _, hJ.s7 hd⟩
              ·
                have p4 : d 4 = true := hp ⟨4, .data⟩ (by simp) rfl
                have p7 : d 7 = true := hp ⟨7, .data⟩ (by simp) rfl
                have g58 : b'.tmps.getD 58 undef = v4 := hb.at 4 58 rfl (by show (58:Nat) < 79; decide) p4 (hJ.f4 p4)
                have g61 : b'.tmps.getD 61 undef = .slice (some ⟨b, off, none⟩) k cap := hb.at 7 61 rfl (by show (61:Nat) < 79; decide) p7 (hJ.f7 p7)
                refine step_append_grown rfl (.tmp 58) (.tmp 61) 27 rfl W6.heap.size 61 i0 _ 31 392 Try.underlying27 hi hz0' hz1 hz2 rfl (by decide) v4 (0 + (n - k)) ([] ++ C4) g58 (hJ.o4 p4 hd) b (off) (k) (cap) (T5) g61 (CT5.out.2.1) (CT5.out.1.keep hJ.b) (CT5.out.2.2) (by unfold maxLen; omega) (by omega) hJ.b.size ?_
                intro v' w1 own' grow' blk' B'
                exact hK _ _ _ rfl ⟨_, _, _, _, _, hJ.s8 hd p4 B' grow' blk' own'⟩
              ·
                have e5 : b'.tmps.getD 2 undef = .slice (some ⟨b, off, none⟩) n cap := hb.old 2 (by kernel_rfl)
                go_simp
                exact hK _ _ _ rfl ⟨_, _, _, _, _, hJ.s9 hd⟩
              ·
                have e5 : b'.tmps.getD 13 undef = .int .i64 k := hb.old 13 (by kernel_rfl)
                go_simp
                exact hK _ _ _ rfl ⟨_, _, _, _, _, hJ.s10 hd⟩
              ·
                have p9 : d 9 = true := hp ⟨9, .data⟩ (by simp) rfl
                have p10 : d 10 = true := hp ⟨10, .data⟩ (by simp) rfl
                have g63 : b'.tmps.getD 63 undef = .slice (some ⟨b, off, none⟩) n cap := hb.at 9 63 rfl (by show (63:Nat) < 79; decide) p9 (hJ.f9 p9)
                have g64 : b'.tmps.getD 64 undef = .int .i64 k := hb.at 10 64 rfl (by show (64:Nat) < 79; decide) p10 (hJ.f10 p10)
                go_simp
                exact hK _ _ _ rfl ⟨_, _, _, _, _, hJ.s11 hd⟩
              ·
                have p11 : d 11 = true := hp ⟨11, .data⟩ (by simp) rfl
                have g65 : b'.tmps.getD 65 undef = .pointer (some ⟨b, off + k * 31, none⟩) := hb.at 11 65 rfl (by show (65:Nat) < 79; decide) p11 (hJ.f11 p11)
                have hl1 := hldB.out w' hJ.b
                go_simp
                exact hK _ _ _ rfl ⟨_, _, _, _, _, hJ.s12 hd⟩
              ·
                have p12 : d 12 = true := hp ⟨12, .data⟩ (by simp) rfl
                have g66 : b'.tmps.getD 66 undef = x.v := hb.at 12 66 rfl (by show (66:Nat) < 79; decide) p12 (hJ.f12 p12)
                have k66 : b'.tmps[66]?.getD undef = .agg #[.int .i64 x.B.f, .int .i64 x.B.h, .int .i64 x.x1, .int .i64 x.x2, .int .i64 x.x3, .int .i64 x.x4, .int .i64 x.x5, .int .i64 x.x6, .int .i64 x.x7, .int .i64 x.x8, .int .i64 x.x9, .int .i64 x.x10, .slice x.ua x.nu x.uc, .slice x.ga x.ng x.gc, .slice x.s0.a x.s0.n x.s0.c, .slice x.s1.a x.s1.n x.s1.c, .bool x.f0, .slice x.s2.a x.s2.n x.s2.c, .slice x.s3.a x.s3.n x.s3.c, .slice x.s4.a x.s4.n x.s4.c, .int .i64 x.z0, .int .i64 x.z1, .int .u64 x.z2, .int .i64 x.z3, .int .i64 x.z4, .int .i64 x.z5, .int .i64 x.z6, .int .i64 x.z7, .slice x.s5.a x.s5.n x.s5.c, .slice x.s6.a x.s6.n x.s6.c, .bool x.f1] := by rw [← Array.getD_eq_getD_getElem?]; exact g66
                clear g66
                go_simp
                exact hK _ _ _ rfl ⟨_, _, _, _, _, hJ.s13 hd⟩
              ·
                have p8 : d 8 = true := hp ⟨8, .data⟩ (by simp) rfl
                have p13 : d 13 = true := hp ⟨13, .data⟩ (by simp) rfl
                have g62 : b'.tmps.getD 62 undef = v5 := hb.at 8 62 rfl (by show (62:Nat) < 79; decide) p8 (hJ.f8 p8)
                have g67 : b'.tmps.getD 67 undef = .slice (some ⟨g, 0, none⟩) 1 1 := hb.at 13 67 rfl (by show (67:Nat) < 79; decide) p13 (hJ.f13 p13)
                refine step_append_grown rfl (.tmp 62) (.tmp 67) 27 rfl W6.heap.size 61 i0 _ 31 392 Try.underlying27 hi hz0' hz1 hz2 rfl (by decide) v5 (0 + (n - k) + k) ([] ++ C4 ++ T5) g62 (hJ.o8 p8 hd) g (0) (1) (1) (x.cs) g67 (nv_size x) ((hJ.o13 p13).1) (nv_one _) (by unfold maxLen; omega) (by omega) hJ.b.size ?_
                intro v' w1 own' grow' blk' B'
                exact hK _ _ _ rfl ⟨_, _, _, _, _, hJ.s14 hd p8 p13 B' grow' blk' own'⟩
              ·
                have p14 : d 14 = true := hp ⟨14, .data⟩ (by simp) rfl
                have g68 : b'.tmps.getD 68 undef = v6 := hb.at 14 68 rfl (by show (68:Nat) < 79; decide) p14 (hJ.f14 p14)
                go_simp
                exact hK _ _ _ rfl ⟨_, _, _, _, _, hJ.s15 hd p14⟩
            case hend =>
              rintro d vs w6 hall ⟨v0, v4, v5, v6, g, hJ⟩
              have vv := hJ.f15 (hall 15 (by decide))
              simp only [allA, Act.put, List.setIfInBounds_toArray, List.set_cons_zero, List.set_cons_succ, vv]
              have own6 := hJ.o14 (hall 14 (by decide))
              have BW6 := hJ.b
              clear hJ hall vv
              obtain ⟨m5, hm5⟩ : ∃ m5, m5 = 0 + (n - k) + k + 1 := ⟨_, rfl⟩
              rw [← hm5] at own6
              have hlen5 : m5 = ((N.drop k ++ N.take k) ++ [x]).length := by
                rw [List.length_append, List.length_append, List.length_drop, List.length_take, ← hn.out, Nat.min_eq_left (by omega)]; simp; omega
              obtain ⟨a5, c5, rfl, hl5, hn5, hcm5⟩ := own_at nv_size (l := (N.drop k ++ N.take k) ++ [x]) (by rw [flatL_three, HC4.out, HT5.out]; simpa using own6) hlen5
              have hns : NsAt w6 a5 ((N.drop k ++ N.take k) ++ [x]) := ⟨hl5, fun y hy => (H2.n.2 y (by
                rw [List.mem_append, List.mem_append, List.mem_singleton] at hy
                rcases hy with (hy | hy) | hy
                · exact List.mem_of_mem_drop hy
                · exact List.mem_of_mem_take hy
                · rw [hy, ← HX.out]; exact getD_mem hkl)).keep BW6⟩
              have HM5 := Lib.hid hm5; have HL5 := Lib.hid hlen5
              clear hm5 hlen5 own6
              go_wp2_with fail
              go_meet
              exact ⟨_, _, _, rfl, hns, HL5.out, Nat.le_trans hn5 hcm5, BW6⟩
          case rest =>
            obtain ⟨a5, m5, c5, rfl, hns, hm5, hmx, hB⟩ := hcut
            obtain ⟨W7, hW7⟩ : ∃ W7, W7 = wc := ⟨_, rfl⟩
            subst hW7
            replace H2 := H2.keep hB
            replace BB := bstep BB hB
            obtain ⟨M, hMM⟩ : ∃ M, (N.drop k ++ N.take k) ++ [x] = M := ⟨_, rfl⟩
            rw [hMM] at hns hm5
            have HM := Lib.hid hm5
            have HY : Hid (yieldV t.T me fr (nbs M) = R) := Lib.hid (by
              rw [TE.out, ← hMM, ← HX.out]
              have e : nbs ((N.drop k ++ N.take k) ++ [N.getD k default]) = ((nbs N).drop k ++ (nbs N).take k) ++ [(nbs N).getD k default] := by
                rw [nbs_at hkl]; simp [nbs, List.map_drop, List.map_take]
              rw [e]
              exact yield_turned _ _ _ _ (by rw [nbs_len]; exact hkl))
            clear hB hm5 hMM
            go_upto_region 9 with (fail)
            go_region_held3 (fun w' => w'.cell? ⟨w.heap.size, 0, none⟩ = some (.slice t.ua t.nu t.uc) ∧ w'.cell? ⟨w.heap.size, 1, none⟩ = some (.slice t.ga t.ng t.gc) ∧ w'.cell? ⟨w.heap.size, 2, none⟩ = some (.slice t.aa t.na t.ac) ∧ w'.cell? ⟨p, 0, none⟩ = some (.slice ua nu uc) ∧ w'.cell? ⟨p, 1, none⟩ = some (.slice ga ng gc) ∧ w'.cell? ⟨p, 2, none⟩ = some (.slice aa na ac))
              (first | exact G2.ca | exact (G2.keep (Below.drew (Below.refl _ _))).ca | exact G1.ca | exact (G1.keep (Below.drew (Below.refl _ _))).ca | exact H2.ca | exact (H2.keep (Below.drew (Below.refl _ _))).ca)
              (first
                | (have _ := H2
                   fail_if_success (have _ := G1)
                   go_at_call 15
                   refine (yield_at t me fr M m5 a5 c5 _ (Lib.hid (H2.o0.keep (by first | exact Below.refl _ _ | exact Below.drew (Below.refl _ _) | exact ball (Below.refl _ _) _ | exact Below.drew (ball (Below.refl _ _) _) | exact ball (Below.drew (Below.refl _ _)) _))) HM (hns.keep (by first | exact Below.refl _ _ | exact Below.drew (Below.refl _ _) | exact ball (Below.refl _ _) _ | exact Below.drew (ball (Below.refl _ _) _) | exact ball (Below.drew (Below.refl _ _)) _)) hmx W40).mono ?_
                   rintro e u1 ⟨⟨rT, y1, y2, y3, y4, y5, y6, y7, y8, y9⟩, rfl, ok1, te1, v⟩
                   have G1 := H2.keep (bstep (by first | exact Below.refl _ _ | exact Below.drew (Below.refl _ _) | exact ball (Below.refl _ _) _ | exact Below.drew (ball (Below.refl _ _) _) | exact ball (Below.drew (Below.refl _ _)) _) v)
                   have LG1 : Below W7.heap.size W7 u1 := bstep (bstep (Below.refl _ W7) (by first | exact Below.refl _ _ | exact Below.drew (Below.refl _ _) | exact ball (Below.refl _ _) _ | exact Below.drew (ball (Below.refl _ _) _) | exact ball (Below.drew (Below.refl _ _)) _)) v
                   clear v)
                | (have _ := G1
                   fail_if_success (have _ := G2)
                   go_at_call 14
                   refine (same_at ⟨_, _, _, _, _, _, _, _, _, _⟩ ⟨R, ua, nu, uc, ga, ng, gc, aa, na, ac⟩ _ (ok1.keep (by first | exact Below.refl _ _ | exact Below.drew (Below.refl _ _) | exact ball (Below.refl _ _) _ | exact Below.drew (ball (Below.refl _ _) _) | exact ball (Below.drew (Below.refl _ _)) _)) (G1.o2.keep (by first | exact Below.refl _ _ | exact Below.drew (Below.refl _ _) | exact ball (Below.refl _ _) _ | exact Below.drew (ball (Below.refl _ _) _) | exact ball (Below.drew (Below.refl _ _)) _)) true (same_eq (te1.trans HY.out))).mono ?_
                   rintro e u2 ⟨rfl, v⟩
                   have G2 := G1.keep (bstep (by first | exact Below.refl _ _ | exact Below.drew (Below.refl _ _) | exact ball (Below.refl _ _) _ | exact Below.drew (ball (Below.refl _ _) _) | exact ball (Below.drew (Below.refl _ _)) _) v)
                   have LG2 : Below W7.heap.size W7 u2 := bstep (bstep LG1 (by first | exact Below.refl _ _ | exact Below.drew (Below.refl _ _) | exact ball (Below.refl _ _) _ | exact Below.drew (ball (Below.refl _ _) _) | exact ball (Below.drew (Below.refl _ _)) _)) v
                   clear v))
            all_goals go_wp2_with fail
            all_goals go_ret
            all_goals exact ⟨rfl, bstep BB LG2⟩
        ·
          have h0 : n = 0 := by simpa using hz0
          subst h0
          go_wp2_with fail
          go_ret
          exact ⟨rfl, BB⟩
end Go.Proofs.Ytleenbfldkmcaaa
