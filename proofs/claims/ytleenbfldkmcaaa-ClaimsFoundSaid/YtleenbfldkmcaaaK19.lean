/- Proved: the law that both functions return what the reference returns. Conditions: what came in lies in memory. -/
import Derived.Test.YtleenbfldkmcaaaK17
import Derived.Test.YtleenbfldkmcaaaK18
namespace Go.Proofs.Ytleenbfldkmcaaa
open Go.RowKit Go.Sort Go.BigFrame
set_option linter.unusedVariables false
set_option linter.unusedSimpArgs false
attribute [local go_sem] cell_alloc_old
/-- What came in, and the box of the table. -/
structure MS (k0 : Nat) (t : Tv) (N : List Nv) (a : Option Addr) (H : List (List Bool)) (a2 : Option Addr) (T : List Tv) (a3 : Option Addr) (w : World) : Prop where
  c : CAt w k0 t.cs
  o0 : t.ok w
  n : NsAt w a N
  h : TabAt w a2 H
  tt : TsAt w a3 T
theorem MS.keep {k0 : Nat} {t : Tv} {N : List Nv} {a : Option Addr} {H : List (List Bool)} {a2 : Option Addr} {T : List Tv} {a3 : Option Addr} {w w' : World} (h : MS k0 t N a H a2 T a3 w) (hb : Below w.heap.size w w') : MS k0 t N a H a2 T a3 w' := ⟨h.c.keep hb, h.o0.keep hb, h.n.keep hb, h.h.keep hb, h.tt.keep hb⟩
theorem MS.ca {k0 : Nat} {t : Tv} {N : List Nv} {a : Option Addr} {H : List (List Bool)} {a2 : Option Addr} {T : List Tv} {a3 : Option Addr} {w : World} (h : MS k0 t N a H a2 T a3 w) : w.cell? ⟨k0, 0, none⟩ = some (.slice t.ua t.nu t.uc) ∧ w.cell? ⟨k0, 1, none⟩ = some (.slice t.ga t.ng t.gc) ∧ w.cell? ⟨k0, 2, none⟩ = some (.slice t.aa t.na t.ac) :=
  ⟨h.c 0 _ rfl, h.c 1 _ rfl, h.c 2 _ rfl⟩
theorem few_40 {t : Tv} (h : fewB t = true) : t.nu ≤ 1000 ∧ t.ng ≤ 1000 := by
  unfold fewB at h
  simp only [Bool.and_eq_true, decide_eq_true_eq] at h
  omega
theorem few_tabs {H : List (List Bool)} {T : List Tv} (h : fewTB H T = true) : T.length ≤ 12 ∧ H.length ≤ 20 ∧ ∀ x ∈ T, x.ng ≤ 1000 ∧ x.nu ≤ 1000 := by
  unfold fewTB at h
  simp only [Bool.and_eq_true, decide_eq_true_eq] at h
  obtain ⟨h1, -, h2, h3⟩ := h
  refine ⟨by omega, by omega, fun x hx => ?_⟩
  obtain ⟨i, hi, rfl⟩ := List.getElem_of_mem hx
  have := tabsTo_iff.1 h1 i hi
  rw [List.getD_eq_getElem?_getD, List.getElem?_eq_getElem hi] at this
  have := few_40 this
  simp only [Option.getD_some] at this
  omega
theorem lists_eq (l : List Cz) : Hid (decide (l = l) = true) := Lib.hid (by simp)
theorem same_eq {a b : Tb} (h : a = b) : sameB a b = true := by simp [sameB, h]

set_option maxRecDepth 100000 in
set_option maxHeartbeats 4000000 in
theorem matches_at (t : Tv) (me fr : Int) (N : List Nv) (n : Nat) (a : Option Addr) (cap : Nat) (H : List (List Bool)) (m : Nat) (a2 : Option Addr) (ca2 : Nat) (T : List Tv) (k : Nat) (a3 : Option Addr) (ca3 : Nat) (w : World)
    (hn : Hid (n = N.length)) (hm : Hid (m = H.length)) (hk : Hid (k = T.length)) (ht : t.ok w) (hN : NsAt w a N) (hH : TabAt w a2 H) (hT : TsAt w a3 T) (hn2 : n ≤ maxLen) (hm2 : m ≤ maxLen) (hk2 : k ≤ maxLen) :
    Calls Try.prog 3 #[t.v, .int .i64 me, .slice a n cap, .int .i64 fr, .slice a2 m ca2, .slice a3 k ca3] w (Yes true w) := by
  obtain ⟨q1, hq1⟩ : ∃ q, fewB t = q := ⟨_, rfl⟩
  obtain ⟨q2, hq2⟩ : ∃ q, fewNB N = q := ⟨_, rfl⟩
  obtain ⟨q3, hq3⟩ : ∃ q, fewTB H T = q := ⟨_, rfl⟩
  have HQ1 := Lib.hid hq1; have HQ2 := Lib.hid hq2; have HQ3 := Lib.hid hq3
  clear hq1 hq2 hq3
  have bA : Below w.heap.size w (w.alloc (.cells #[.slice t.ua t.nu t.uc, .slice t.ga t.ng t.gc, .slice t.aa t.na t.ac] 26)) := ball (Below.refl _ _) _
  have HM : Hid (MS w.heap.size t N a H a2 T a3 (w.alloc (.cells #[.slice t.ua t.nu t.uc, .slice t.ga t.ng t.gc, .slice t.aa t.na t.ac] 26))) := Lib.hid ⟨CAt.new w [.slice t.ua t.nu t.uc, .slice t.ga t.ng t.gc, .slice t.aa t.na t.ac] 26, ht.keep bA, hN.keep bA, hH.keep bA, hT.keep bA⟩
  clear ht hN hH hT
  by_cases hf : fr < -1152921504606846976
  all_goals
    go_enter Try.func3, Try.ntmps3
    go_wp2_with fail
    refine (head_any _).mono ?_
    rintro e w1 ⟨rfl, b1⟩
    have H1 := HM.out.keep b1
    have BB := bstep bA b1
    clear b1 bA HM
    have c0 := H1.c 0 _ rfl
    have c1 := H1.c 1 _ rfl
    have c2 := H1.c 2 _ rfl
  ·
    go_wp2_with fail
    go_ret
    exact ⟨rfl, BB⟩
  ·
    go_wp2_with fail
    refine (few_at t q1 _ HQ1.out).mono ?_
    rintro e w2 ⟨rfl, b2⟩
    replace H1 := H1.keep b2
    replace BB := bstep BB b2
    clear b2 c0 c1 c2
    cases q1
    ·
      go_wp2_with fail
      go_ret
      exact ⟨rfl, BB⟩
    ·
      go_wp2_with fail
      refine (fewnear_at N n a cap _ hn H1.n hn2 q2 HQ2).mono ?_
      rintro e w3 ⟨rfl, b2⟩
      replace H1 := H1.keep b2
      replace BB := bstep BB b2
      clear b2
      cases q2
      ·
        go_wp2_with fail
        go_ret
        exact ⟨rfl, BB⟩
      ·
        go_wp2_with fail
        refine (fewt_at H T m k a2 a3 ca2 ca3 _ hm hk H1.h H1.tt hm2 hk2 q3 HQ3).mono ?_
        rintro e w4 ⟨rfl, b2⟩
        replace H1 := H1.keep b2
        replace BB := bstep BB b2
        clear b2
        cases q3
        ·
          go_wp2_with fail
          go_ret
          exact ⟨rfl, BB⟩
        ·
          obtain ⟨CV, hCV⟩ : ∃ CV, clashV H (tbs T) fr = CV := ⟨_, rfl⟩
          go_upto_region 4 with (fail)
          go_region_held3 (fun w' => w'.cell? ⟨w.heap.size, 0, none⟩ = some (.slice t.ua t.nu t.uc) ∧ w'.cell? ⟨w.heap.size, 1, none⟩ = some (.slice t.ga t.ng t.gc) ∧ w'.cell? ⟨w.heap.size, 2, none⟩ = some (.slice t.aa t.na t.ac))
            (first | exact G6.ca | exact (G6.keep (Below.drew (Below.refl _ _))).ca | exact G5.ca | exact (G5.keep (Below.drew (Below.refl _ _))).ca | exact G4.ca | exact (G4.keep (Below.drew (Below.refl _ _))).ca | exact G3.ca | exact (G3.keep (Below.drew (Below.refl _ _))).ca | exact G2.ca | exact (G2.keep (Below.drew (Below.refl _ _))).ca | exact G1.ca | exact (G1.keep (Below.drew (Below.refl _ _))).ca | exact H1.ca | exact (H1.keep (Below.drew (Below.refl _ _))).ca)
            (first
              | (have _ := H1
                 fail_if_success (have _ := G1)
                 go_at_call 15
                 refine (yield_at t me fr N n a cap _ (Lib.hid (H1.o0.keep (by first | exact Below.refl _ _ | exact Below.drew (Below.refl _ _) | exact ball (Below.refl _ _) _ | exact Below.drew (ball (Below.refl _ _) _) | exact ball (Below.drew (Below.refl _ _)) _))) hn (H1.n.keep (by first | exact Below.refl _ _ | exact Below.drew (Below.refl _ _) | exact ball (Below.refl _ _) _ | exact Below.drew (ball (Below.refl _ _) _) | exact ball (Below.drew (Below.refl _ _)) _)) hn2 (Lib.hid (few_40 HQ1.out))).mono ?_
                 rintro e u1 ⟨⟨rT, y1, y2, y3, y4, y5, y6, y7, y8, y9⟩, rfl, ok1, te1, v⟩
                 have G1 := H1.keep (bstep (by first | exact Below.refl _ _ | exact Below.drew (Below.refl _ _) | exact ball (Below.refl _ _) _ | exact Below.drew (ball (Below.refl _ _) _) | exact ball (Below.drew (Below.refl _ _)) _) v)
                 have LG1 := bstep (bstep (Below.refl _ _) (by first | exact Below.refl _ _ | exact Below.drew (Below.refl _ _) | exact ball (Below.refl _ _) _ | exact Below.drew (ball (Below.refl _ _) _) | exact ball (Below.drew (Below.refl _ _)) _)) v
                 clear v)
              | (have _ := G1
                 fail_if_success (have _ := G2)
                 go_at_call 16
                 refine (ryield_at t me fr N n a cap _ (Lib.hid (G1.o0.keep (by first | exact Below.refl _ _ | exact Below.drew (Below.refl _ _) | exact ball (Below.refl _ _) _ | exact Below.drew (ball (Below.refl _ _) _) | exact ball (Below.drew (Below.refl _ _)) _))) hn (G1.n.keep (by first | exact Below.refl _ _ | exact Below.drew (Below.refl _ _) | exact ball (Below.refl _ _) _ | exact Below.drew (ball (Below.refl _ _) _) | exact ball (Below.drew (Below.refl _ _)) _)) hn2 (Lib.hid (few_40 HQ1.out))).mono ?_
                 rintro e u2 ⟨⟨sT, x1, x2, x3, x4, x5, x6, x7, x8, x9⟩, rfl, ok2, te2, v⟩
                 replace ok1 := ok1.keep (bstep (by first | exact Below.refl _ _ | exact Below.drew (Below.refl _ _) | exact ball (Below.refl _ _) _ | exact Below.drew (ball (Below.refl _ _) _) | exact ball (Below.drew (Below.refl _ _)) _) v)
                 have G2 := G1.keep (bstep (by first | exact Below.refl _ _ | exact Below.drew (Below.refl _ _) | exact ball (Below.refl _ _) _ | exact Below.drew (ball (Below.refl _ _) _) | exact ball (Below.drew (Below.refl _ _)) _) v)
                 have LG2 := bstep (bstep LG1 (by first | exact Below.refl _ _ | exact Below.drew (Below.refl _ _) | exact ball (Below.refl _ _) _ | exact Below.drew (ball (Below.refl _ _) _) | exact ball (Below.drew (Below.refl _ _)) _)) v
                 clear v)
              | (have _ := G2
                 fail_if_success (have _ := G3)
                 go_at_call 14
                 refine (same_at ⟨_, _, _, _, _, _, _, _, _, _⟩ ⟨_, _, _, _, _, _, _, _, _, _⟩ _ (ok1.keep (by first | exact Below.refl _ _ | exact Below.drew (Below.refl _ _) | exact ball (Below.refl _ _) _ | exact Below.drew (ball (Below.refl _ _) _) | exact ball (Below.drew (Below.refl _ _)) _)) (ok2.keep (by first | exact Below.refl _ _ | exact Below.drew (Below.refl _ _) | exact ball (Below.refl _ _) _ | exact Below.drew (ball (Below.refl _ _) _) | exact ball (Below.drew (Below.refl _ _)) _)) true (same_eq (te1.trans te2.symm))).mono ?_
                 rintro e u3 ⟨rfl, v⟩
                 have G3 := G2.keep (bstep (by first | exact Below.refl _ _ | exact Below.drew (Below.refl _ _) | exact ball (Below.refl _ _) _ | exact Below.drew (ball (Below.refl _ _) _) | exact ball (Below.drew (Below.refl _ _)) _) v)
                 have LG3 := bstep (bstep LG2 (by first | exact Below.refl _ _ | exact Below.drew (Below.refl _ _) | exact ball (Below.refl _ _) _ | exact Below.drew (ball (Below.refl _ _) _) | exact ball (Below.drew (Below.refl _ _)) _)) v
                 clear v)
              | (have _ := G3
                 fail_if_success (have _ := G4)
                 go_at_call 18
                 refine (clash_at H T fr m k a2 a3 ca2 ca3 _ hm hk (G3.h.keep (by first | exact Below.refl _ _ | exact Below.drew (Below.refl _ _) | exact ball (Below.refl _ _) _ | exact Below.drew (ball (Below.refl _ _) _) | exact ball (Below.drew (Below.refl _ _)) _)) (G3.tt.keep (by first | exact Below.refl _ _ | exact Below.drew (Below.refl _ _) | exact ball (Below.refl _ _) _ | exact Below.drew (ball (Below.refl _ _) _) | exact ball (Below.drew (Below.refl _ _)) _)) (by have := few_tabs HQ3.out; have := hk.out; omega) (Lib.hid (few_tabs HQ3.out).2.2)).mono ?_
                 rintro e u4 ⟨r1, r2, r3, rfl, h1, h2, h3, h4, v⟩
                 rw [hCV] at h1 h2
                 replace h2 := Lib.hid h2
                 have G4 := G3.keep (bstep (by first | exact Below.refl _ _ | exact Below.drew (Below.refl _ _) | exact ball (Below.refl _ _) _ | exact Below.drew (ball (Below.refl _ _) _) | exact ball (Below.drew (Below.refl _ _)) _) v)
                 have LG4 := bstep (bstep LG3 (by first | exact Below.refl _ _ | exact Below.drew (Below.refl _ _) | exact ball (Below.refl _ _) _ | exact Below.drew (ball (Below.refl _ _) _) | exact ball (Below.drew (Below.refl _ _)) _)) v
                 clear v)
              | (have _ := G4
                 fail_if_success (have _ := G5)
                 go_at_call 19
                 refine (rclash_at H T fr m k a2 a3 ca2 ca3 _ hm hk (G4.h.keep (by first | exact Below.refl _ _ | exact Below.drew (Below.refl _ _) | exact ball (Below.refl _ _) _ | exact Below.drew (ball (Below.refl _ _) _) | exact ball (Below.drew (Below.refl _ _)) _)) (G4.tt.keep (by first | exact Below.refl _ _ | exact Below.drew (Below.refl _ _) | exact ball (Below.refl _ _) _ | exact Below.drew (ball (Below.refl _ _) _) | exact ball (Below.drew (Below.refl _ _)) _)) (by have := few_tabs HQ3.out; have := hm.out; omega) (by have := few_tabs HQ3.out; have := hk.out; omega) (Lib.hid fun x hx => ((few_tabs HQ3.out).2.2 x hx).1)).mono ?_
                 rintro e u5 ⟨g1, g2, g3, rfl, i1, i2, i3, i4, v⟩
                 replace h1 := h1.keep (bstep (by first | exact Below.refl _ _ | exact Below.drew (Below.refl _ _) | exact ball (Below.refl _ _) _ | exact Below.drew (ball (Below.refl _ _) _) | exact ball (Below.drew (Below.refl _ _)) _) v)
                 rw [hCV] at i1 i2
                 replace i2 := Lib.hid i2
                 have G5 := G4.keep (bstep (by first | exact Below.refl _ _ | exact Below.drew (Below.refl _ _) | exact ball (Below.refl _ _) _ | exact Below.drew (ball (Below.refl _ _) _) | exact ball (Below.drew (Below.refl _ _)) _) v)
                 have LG5 := bstep (bstep LG4 (by first | exact Below.refl _ _ | exact Below.drew (Below.refl _ _) | exact ball (Below.refl _ _) _ | exact Below.drew (ball (Below.refl _ _) _) | exact ball (Below.drew (Below.refl _ _)) _)) v
                 clear v)
              | (have _ := G5
                 fail_if_success (have _ := G6)
                 go_at_call 17
                 refine (sameC_at CV CV r2 g2 r1 g1 r3 g3 _ h2 i2 (h1.keep (by first | exact Below.refl _ _ | exact Below.drew (Below.refl _ _) | exact ball (Below.refl _ _) _ | exact Below.drew (ball (Below.refl _ _) _) | exact ball (Below.drew (Below.refl _ _)) _)) (i1.keep (by first | exact Below.refl _ _ | exact Below.drew (Below.refl _ _) | exact ball (Below.refl _ _) _ | exact Below.drew (ball (Below.refl _ _) _) | exact ball (Below.drew (Below.refl _ _)) _)) (Nat.le_trans h3 h4) (Nat.le_trans i3 i4) true (lists_eq CV)).mono ?_
                 rintro e u6 ⟨rfl, v⟩
                 have G6 := G5.keep (bstep (by first | exact Below.refl _ _ | exact Below.drew (Below.refl _ _) | exact ball (Below.refl _ _) _ | exact Below.drew (ball (Below.refl _ _) _) | exact ball (Below.drew (Below.refl _ _)) _) v)
                 have LG6 := bstep (bstep LG5 (by first | exact Below.refl _ _ | exact Below.drew (Below.refl _ _) | exact ball (Below.refl _ _) _ | exact Below.drew (ball (Below.refl _ _) _) | exact ball (Below.drew (Below.refl _ _)) _)) v
                 clear v))
          all_goals go_wp2_with fail
          all_goals go_ret
          all_goals exact ⟨rfl, bstep (bstep BB (by first | exact Below.refl _ _ | exact Below.drew (Below.refl _ _) | exact ball (Below.refl _ _) _ | exact Below.drew (ball (Below.refl _ _) _) | exact ball (Below.drew (Below.refl _ _)) _)) LG6⟩
end Go.Proofs.Ytleenbfldkmcaaa
