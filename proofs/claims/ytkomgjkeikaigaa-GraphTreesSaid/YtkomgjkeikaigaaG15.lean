/- Proved: that the law GraphReaching of the statements returns true for every input. Conditions: the list lies in memory. -/
import Derived.Test.YtkomgjkeikaigaaG14
namespace Go.Proofs.Ytkomgjkeikaigaa
open Go.RowKit Go.Sort Go.BigFrame
set_option linter.unusedVariables false
set_option linter.unusedSimpArgs false
attribute [local go_sem] cell_alloc_old

set_option maxRecDepth 100000 in
set_option maxHeartbeats 4000000 in
theorem lawReaching (l : List Int) (root : Int) (b : Option Addr) (cap : Nat) (w : World) (hP : IntsAt .i64 w b l) (hm : l.length ≤ maxLen) : Calls Try.prog 8 #[.slice b l.length cap, .int .i64 root] w (Yes true w) := by
  have hm' := hm
  unfold maxLen at hm
  obtain ⟨n, hn⟩ : ∃ n, n = l.length := ⟨_, rfl⟩
  rw [← hn] at hm hm' ⊢
  have HN := Lib.hid hn; clear hn
  by_cases h60 : (60 : Int) < (n : Int)
  · have e : reachL l root = [] := by unfold reachL; rw [if_neg (by rw [← HN.out]; omega)]
    have HE := Lib.hid e; clear e
    go_enter Try.func8, Try.ntmps8
    go_wp2_with fail
    refine (head_any w).mono ?_
    rintro e w1 ⟨rfl, b1⟩
    replace hP := hP.keep b1
    have BB := b1
    clear b1
    go_wp2_with fail
    refine (reaches_at l n b cap root w1 HN.out hP hm').mono ?_
    rintro e w2 ⟨a1, c1, rfl, _, _, _, b2⟩
    replace hP := hP.keep b2
    replace BB := bstep BB b2
    clear b2
    rw [HE.out]
    go_wp2_with fail
    go_ret
    exact ⟨rfl, BB⟩
  have h60' : l.length ≤ 60 := by rw [← HN.out]; omega
  have H60 := Lib.hid h60'; clear h60'
  have hd60 : decide ((60 : Int) < (n : Int)) = false := by simp; omega
  have hlr : (reachL l root).length = n := by rw [reachL_len (by rw [← HN.out]; omega), HN.out]
  have hll := loopL_len l
  obtain ⟨R, hR⟩ : ∃ R, reachL l root = R := ⟨_, rfl⟩
  obtain ⟨L, hL⟩ : ∃ L, loopL l = L := ⟨_, rfl⟩
  rw [hR] at hlr
  rw [hL, ← HN.out] at hll
  obtain ⟨q, hq⟩ : ∃ q, q = L.length := ⟨_, rfl⟩
  rw [← hq] at hll
  have hqm : q ≤ maxLen := by unfold maxLen; omega
  have HR := Lib.hid hR; have HL := Lib.hid hL; have HQ := Lib.hid hq; have HLR := Lib.hid hlr
  clear hR hL hq hlr
  go_enter Try.func8, Try.ntmps8
  go_wp2_with fail
  refine (head_any w).mono ?_
  rintro e w1 ⟨rfl, b1⟩
  replace hP := hP.keep b1
  have BB := b1
  clear b1
  go_wp2_with fail
  refine (reaches_at l n b cap root w1 HN.out hP hm').mono ?_
  rintro e w2 ⟨ar, cr, rfl, hB, _, _, b2⟩
  replace hP := hP.keep b2
  replace BB := bstep BB b2
  clear b2
  rw [HR.out] at hB ⊢
  rw [HLR.out]
  go_wp2_with fail
  refine (loop_at l n b cap w2 HN.out hP hm').mono ?_
  rintro e w3 ⟨al, cl, rfl, hI, _, _, b3⟩
  replace hP := hP.keep b3
  replace hB := hB.keep b3
  replace BB := bstep BB b3
  clear b3
  rw [HL.out] at hI ⊢
  rw [← HQ.out]
  go_wp2_with fail
  go_loopw [5, 8] (fun u j wr => ∃ k : Nat, k ≤ n ∧ j = .int .i64 k ∧ u = .bool true ∧ Below w.heap.size w wr ∧ IntsAt .i64 wr b l ∧ BoolsAt wr ar R ∧ IntsAt .i64 wr al L) (fun _ j _ => n - (intOf j).toNat)
  case atStart => exact ⟨0, Nat.zero_le _, rfl, rfl, BB, hP, hB, hI⟩
  case round =>
    clear BB hP hB hI
    obtain ⟨i, hin, rfl, rfl, BB, hP, hB, hI⟩ := hrel
    by_cases hlt : i < n
    · have hi' : (i : Int) < (n : Int) := by omega
      have hi0 : (0 : Int) ≤ (i : Int) := by omega
      have hir : inR l (i : Int) := ⟨hi0, by rw [← HN.out]; exact hi'⟩
      have HIR := Lib.hid hir; clear hir
      obtain ⟨b3, o3, ha3, hc3⟩ := bools_at hB (i := i) (by rw [HLR.out]; exact hlt)
      have d3 := hc3 i (by rw [HLR.out]; exact hlt)
      have hri : R.getD i false = (decide (inR l root) && reachB l root i) := by rw [← HR.out]; exact reachL_at H60.out (by rw [← HN.out]; exact hlt)
      have hhas := has_loop H60.out (x := (i : Int)) hi0 (by rw [← HN.out]; exact hi')
      rw [HL.out] at hhas
      obtain ⟨y, hy⟩ : ∃ y, meets l i i = y := ⟨_, rfl⟩
      rw [hy] at hhas
      have HH := Lib.hid hhas; have HY := Lib.hid hy
      clear hhas hy
      have hsr := step_range l i
      have hstep := fun hg => reach_step (l := l) (root := root) (i := (i : Int)) hg
      obtain ⟨r, hr⟩ : ∃ r, stepI l i = r := ⟨_, rfl⟩
      rw [hr] at hsr hstep
      have HS := Lib.hid hr; have HSR := Lib.hid hsr; have HST := Lib.hid hstep
      clear hr hsr hstep
      obtain ⟨x, hx⟩ : ∃ x, R.getD i false = x := ⟨_, rfl⟩
      rw [hx] at d3 hri
      have HRI := Lib.hid hri
      clear hri hx
      have HC3 := Lib.hid hc3
      clear hc3
      subst ha3
      by_cases hroot : inR l root
      ·
        have HROOT := Lib.hid hroot
        have hr0 : 0 ≤ root := hroot.1
        have hrn : root < (n : Int) := by rw [HN.out]; exact hroot.2
        have hd1 : decide (0 ≤ root) = true := by simp [hr0]
        have hd2 : decide (root < (n : Int)) = true := by simp [hrn]
        have hx2 : x = reachB l root i := by rw [HRI.out, decide_eq_true HROOT.out, Bool.true_and]
        have HX := Lib.hid hx2
        clear hx2 hroot
        by_cases hie : (i : Int) = root
        ·
          have hxt : x = true := by rw [HX.out, HST.out HROOT.out, beq_iff_eq.2 hie]; rfl
          have hieb : ((i : Int) == root) = true := by simp [hie]
          have HIE := Lib.hid hie; clear hie
          subst hxt
          cases y
          ·
            go_wp2_with fail
            refine (step_at l n b cap i _ wr HN.out hP hm' HS.out).mono ?_
            rintro e w51 ⟨rfl, b51⟩
            replace d3 := keep1 b51 d3
            replace hP := hP.keep b51
            replace hB := hB.keep b51
            replace hI := hI.keep b51
            replace BB := bstep BB b51
            clear b51
            go_wp2_with fail
            refine (has_at L q al cl i false w51 HQ.out hI hqm HH.out).mono ?_
            rintro e w52 ⟨rfl, b52⟩
            replace d3 := keep1 b52 d3
            replace hP := hP.keep b52
            replace hB := hB.keep b52
            replace hI := hI.keep b52
            replace BB := bstep BB b52
            clear b52
            go_wp2_with fail
            go_roundw
            case rel => exact ⟨i + 1, by omega, by go_num, by first | rfl | simp, BB, hP, hB, hI⟩
            case measure => simp [intOf]; omega
          ·
            go_wp2_with fail
            refine (step_at l n b cap i _ wr HN.out hP hm' HS.out).mono ?_
            rintro e w51 ⟨rfl, b51⟩
            replace d3 := keep1 b51 d3
            replace hP := hP.keep b51
            replace hB := hB.keep b51
            replace hI := hI.keep b51
            replace BB := bstep BB b51
            clear b51
            go_wp2_with fail
            refine (has_at L q al cl i true w51 HQ.out hI hqm HH.out).mono ?_
            rintro e w52 ⟨rfl, b52⟩
            replace d3 := keep1 b52 d3
            replace hP := hP.keep b52
            replace hB := hB.keep b52
            replace hI := hI.keep b52
            replace BB := bstep BB b52
            clear b52
            go_wp2_with fail
            refine (has_at L q al cl root true w52 HQ.out hI hqm (by rw [← HL.out, has_loop H60.out HROOT.out.1 HROOT.out.2]; exact reach_loop HROOT.out HY.out HX.out.symm)).mono ?_
            rintro e w53 ⟨rfl, b53⟩
            replace hP := hP.keep b53
            replace hB := hB.keep b53
            replace hI := hI.keep b53
            replace BB := bstep BB b53
            clear b53
            go_wp2_with fail
            go_roundw
            case rel => exact ⟨i + 1, by omega, by go_num, by first | rfl | simp, BB, hP, hB, hI⟩
            case measure => simp [intOf]; omega
        ·
          have hieb : ((i : Int) == root) = false := by simp [hie]
          have HIE := Lib.hid hie; clear hie
          by_cases hrr : 0 ≤ r
          ·
            have hrr2 := (HSR.out.resolve_left (by omega)).2
            have hrn2 : r < (n : Int) := by rw [HN.out]; exact hrr2.2
            clear hrr2
            obtain ⟨v, rfl⟩ : ∃ v : Nat, r = v := ⟨r.toNat, by omega⟩
            have hd3 : decide (0 ≤ (v : Int)) = true := by simp
            have d4 := HC3.out v (by rw [HLR.out]; omega)
            have hrv : R.getD v false = reachB l root v := by rw [← HR.out, reachL_at H60.out (by rw [← HN.out]; omega), decide_eq_true HROOT.out, Bool.true_and]
            have hxv : x = R.getD v false := by rw [HX.out, HST.out HROOT.out, hrv, hieb, Bool.false_or, hd3, Bool.true_and]
            rw [← hxv] at d4
            clear hxv hrv
            cases x
            ·
              cases y
              ·
                go_wp2_with fail
                refine (step_at l n b cap i _ wr HN.out hP hm' HS.out).mono ?_
                rintro e w51 ⟨rfl, b51⟩
                replace d3 := keep1 b51 d3; replace d4 := keep1 b51 d4
                replace hP := hP.keep b51
                replace hB := hB.keep b51
                replace hI := hI.keep b51
                replace BB := bstep BB b51
                clear b51
                go_wp2_with fail
                refine (has_at L q al cl i false w51 HQ.out hI hqm HH.out).mono ?_
                rintro e w52 ⟨rfl, b52⟩
                replace d3 := keep1 b52 d3; replace d4 := keep1 b52 d4
                replace hP := hP.keep b52
                replace hB := hB.keep b52
                replace hI := hI.keep b52
                replace BB := bstep BB b52
                clear b52
                go_wp2_with fail
                go_roundw
                case rel => exact ⟨i + 1, by omega, by go_num, by first | rfl | simp, BB, hP, hB, hI⟩
                case measure => simp [intOf]; omega
              ·
                go_wp2_with fail
                refine (step_at l n b cap i _ wr HN.out hP hm' HS.out).mono ?_
                rintro e w51 ⟨rfl, b51⟩
                replace d3 := keep1 b51 d3; replace d4 := keep1 b51 d4
                replace hP := hP.keep b51
                replace hB := hB.keep b51
                replace hI := hI.keep b51
                replace BB := bstep BB b51
                clear b51
                go_wp2_with fail
                refine (has_at L q al cl i true w51 HQ.out hI hqm HH.out).mono ?_
                rintro e w52 ⟨rfl, b52⟩
                replace d3 := keep1 b52 d3; replace d4 := keep1 b52 d4
                replace hP := hP.keep b52
                replace hB := hB.keep b52
                replace hI := hI.keep b52
                replace BB := bstep BB b52
                clear b52
                go_wp2_with fail
                go_roundw
                case rel => exact ⟨i + 1, by omega, by go_num, by first | rfl | simp, BB, hP, hB, hI⟩
                case measure => simp [intOf]; omega
            ·
              cases y
              ·
                go_wp2_with fail
                refine (step_at l n b cap i _ wr HN.out hP hm' HS.out).mono ?_
                rintro e w51 ⟨rfl, b51⟩
                replace d3 := keep1 b51 d3; replace d4 := keep1 b51 d4
                replace hP := hP.keep b51
                replace hB := hB.keep b51
                replace hI := hI.keep b51
                replace BB := bstep BB b51
                clear b51
                go_wp2_with fail
                refine (has_at L q al cl i false w51 HQ.out hI hqm HH.out).mono ?_
                rintro e w52 ⟨rfl, b52⟩
                replace d3 := keep1 b52 d3; replace d4 := keep1 b52 d4
                replace hP := hP.keep b52
                replace hB := hB.keep b52
                replace hI := hI.keep b52
                replace BB := bstep BB b52
                clear b52
                go_wp2_with fail
                go_roundw
                case rel => exact ⟨i + 1, by omega, by go_num, by first | rfl | simp, BB, hP, hB, hI⟩
                case measure => simp [intOf]; omega
              ·
                go_wp2_with fail
                refine (step_at l n b cap i _ wr HN.out hP hm' HS.out).mono ?_
                rintro e w51 ⟨rfl, b51⟩
                replace d3 := keep1 b51 d3; replace d4 := keep1 b51 d4
                replace hP := hP.keep b51
                replace hB := hB.keep b51
                replace hI := hI.keep b51
                replace BB := bstep BB b51
                clear b51
                go_wp2_with fail
                refine (has_at L q al cl i true w51 HQ.out hI hqm HH.out).mono ?_
                rintro e w52 ⟨rfl, b52⟩
                replace d3 := keep1 b52 d3; replace d4 := keep1 b52 d4
                replace hP := hP.keep b52
                replace hB := hB.keep b52
                replace hI := hI.keep b52
                replace BB := bstep BB b52
                clear b52
                go_wp2_with fail
                refine (has_at L q al cl root true w52 HQ.out hI hqm (by rw [← HL.out, has_loop H60.out HROOT.out.1 HROOT.out.2]; exact reach_loop HROOT.out HY.out HX.out.symm)).mono ?_
                rintro e w53 ⟨rfl, b53⟩
                replace hP := hP.keep b53
                replace hB := hB.keep b53
                replace hI := hI.keep b53
                replace BB := bstep BB b53
                clear b53
                go_wp2_with fail
                go_roundw
                case rel => exact ⟨i + 1, by omega, by go_num, by first | rfl | simp, BB, hP, hB, hI⟩
                case measure => simp [intOf]; omega
          ·
            have hd3 : decide (0 ≤ r) = false := by simp; omega
            have hxf : x = false := by rw [HX.out, HST.out HROOT.out, hieb, hd3]; rfl
            subst hxf
            cases y
            ·
              go_wp2_with fail
              refine (step_at l n b cap i _ wr HN.out hP hm' HS.out).mono ?_
              rintro e w51 ⟨rfl, b51⟩
              replace d3 := keep1 b51 d3
              replace hP := hP.keep b51
              replace hB := hB.keep b51
              replace hI := hI.keep b51
              replace BB := bstep BB b51
              clear b51
              go_wp2_with fail
              refine (has_at L q al cl i false w51 HQ.out hI hqm HH.out).mono ?_
              rintro e w52 ⟨rfl, b52⟩
              replace d3 := keep1 b52 d3
              replace hP := hP.keep b52
              replace hB := hB.keep b52
              replace hI := hI.keep b52
              replace BB := bstep BB b52
              clear b52
              go_wp2_with fail
              go_roundw
              case rel => exact ⟨i + 1, by omega, by go_num, by first | rfl | simp, BB, hP, hB, hI⟩
              case measure => simp [intOf]; omega
            ·
              go_wp2_with fail
              refine (step_at l n b cap i _ wr HN.out hP hm' HS.out).mono ?_
              rintro e w51 ⟨rfl, b51⟩
              replace d3 := keep1 b51 d3
              replace hP := hP.keep b51
              replace hB := hB.keep b51
              replace hI := hI.keep b51
              replace BB := bstep BB b51
              clear b51
              go_wp2_with fail
              refine (has_at L q al cl i true w51 HQ.out hI hqm HH.out).mono ?_
              rintro e w52 ⟨rfl, b52⟩
              replace d3 := keep1 b52 d3
              replace hP := hP.keep b52
              replace hB := hB.keep b52
              replace hI := hI.keep b52
              replace BB := bstep BB b52
              clear b52
              go_wp2_with fail
              go_roundw
              case rel => exact ⟨i + 1, by omega, by go_num, by first | rfl | simp, BB, hP, hB, hI⟩
              case measure => simp [intOf]; omega
      ·
        have hxf : x = false := by rw [HRI.out, decide_eq_false hroot, Bool.false_and]
        subst hxf
        have hieb : ((i : Int) == root) = false := by simp; intro e; exact hroot (e ▸ HIR.out)
        have HROOT := Lib.hid hroot; clear hroot
        by_cases hrr : 0 ≤ r
        ·
          have hrr2 := (HSR.out.resolve_left (by omega)).2
          have hrn2 : r < (n : Int) := by rw [HN.out]; exact hrr2.2
          clear hrr2
          obtain ⟨v, rfl⟩ : ∃ v : Nat, r = v := ⟨r.toNat, by omega⟩
          have hd3 : decide (0 ≤ (v : Int)) = true := by simp
          have d4 := HC3.out v (by rw [HLR.out]; omega)
          have hrv : R.getD v false = false := by rw [← HR.out, reachL_at H60.out (by rw [← HN.out]; omega), decide_eq_false HROOT.out, Bool.false_and]
          rw [hrv] at d4
          clear hrv
          by_cases hr0 : 0 ≤ root
          ·
            have hrn : ¬ root < (n : Int) := fun h => HROOT.out ⟨hr0, by rw [← HN.out]; exact h⟩
            have hd2 : decide (root < (n : Int)) = false := by simp; omega
            have hd1 : decide (0 ≤ root) = true := by simp [hr0]
            go_wp2_with fail
            refine (step_at l n b cap i _ wr HN.out hP hm' HS.out).mono ?_
            rintro e w51 ⟨rfl, b51⟩
            replace d3 := keep1 b51 d3; replace d4 := keep1 b51 d4
            replace hP := hP.keep b51
            replace hB := hB.keep b51
            replace hI := hI.keep b51
            replace BB := bstep BB b51
            clear b51
            go_wp2_with fail
            refine (has_at L q al cl i y w51 HQ.out hI hqm HH.out).mono ?_
            rintro e w52 ⟨rfl, b52⟩
            replace d3 := keep1 b52 d3; replace d4 := keep1 b52 d4
            replace hP := hP.keep b52
            replace hB := hB.keep b52
            replace hI := hI.keep b52
            replace BB := bstep BB b52
            clear b52
            go_wp2_with fail
            go_roundw
            case rel => exact ⟨i + 1, by omega, by go_num, by first | rfl | simp, BB, hP, hB, hI⟩
            case measure => simp [intOf]; omega
          ·
            have hd1 : decide (0 ≤ root) = false := by simp; omega
            go_wp2_with fail
            refine (step_at l n b cap i _ wr HN.out hP hm' HS.out).mono ?_
            rintro e w51 ⟨rfl, b51⟩
            replace d3 := keep1 b51 d3; replace d4 := keep1 b51 d4
            replace hP := hP.keep b51
            replace hB := hB.keep b51
            replace hI := hI.keep b51
            replace BB := bstep BB b51
            clear b51
            go_wp2_with fail
            refine (has_at L q al cl i y w51 HQ.out hI hqm HH.out).mono ?_
            rintro e w52 ⟨rfl, b52⟩
            replace d3 := keep1 b52 d3; replace d4 := keep1 b52 d4
            replace hP := hP.keep b52
            replace hB := hB.keep b52
            replace hI := hI.keep b52
            replace BB := bstep BB b52
            clear b52
            go_wp2_with fail
            go_roundw
            case rel => exact ⟨i + 1, by omega, by go_num, by first | rfl | simp, BB, hP, hB, hI⟩
            case measure => simp [intOf]; omega
        ·
          have hd3 : decide (0 ≤ r) = false := by simp; omega
          by_cases hr0 : 0 ≤ root
          ·
            have hrn : ¬ root < (n : Int) := fun h => HROOT.out ⟨hr0, by rw [← HN.out]; exact h⟩
            have hd2 : decide (root < (n : Int)) = false := by simp; omega
            have hd1 : decide (0 ≤ root) = true := by simp [hr0]
            go_wp2_with fail
            refine (step_at l n b cap i _ wr HN.out hP hm' HS.out).mono ?_
            rintro e w51 ⟨rfl, b51⟩
            replace d3 := keep1 b51 d3
            replace hP := hP.keep b51
            replace hB := hB.keep b51
            replace hI := hI.keep b51
            replace BB := bstep BB b51
            clear b51
            go_wp2_with fail
            refine (has_at L q al cl i y w51 HQ.out hI hqm HH.out).mono ?_
            rintro e w52 ⟨rfl, b52⟩
            replace d3 := keep1 b52 d3
            replace hP := hP.keep b52
            replace hB := hB.keep b52
            replace hI := hI.keep b52
            replace BB := bstep BB b52
            clear b52
            go_wp2_with fail
            go_roundw
            case rel => exact ⟨i + 1, by omega, by go_num, by first | rfl | simp, BB, hP, hB, hI⟩
            case measure => simp [intOf]; omega
          ·
            have hd1 : decide (0 ≤ root) = false := by simp; omega
            go_wp2_with fail
            refine (step_at l n b cap i _ wr HN.out hP hm' HS.out).mono ?_
            rintro e w51 ⟨rfl, b51⟩
            replace d3 := keep1 b51 d3
            replace hP := hP.keep b51
            replace hB := hB.keep b51
            replace hI := hI.keep b51
            replace BB := bstep BB b51
            clear b51
            go_wp2_with fail
            refine (has_at L q al cl i y w51 HQ.out hI hqm HH.out).mono ?_
            rintro e w52 ⟨rfl, b52⟩
            replace d3 := keep1 b52 d3
            replace hP := hP.keep b52
            replace hB := hB.keep b52
            replace hI := hI.keep b52
            replace BB := bstep BB b52
            clear b52
            go_wp2_with fail
            go_roundw
            case rel => exact ⟨i + 1, by omega, by go_num, by first | rfl | simp, BB, hP, hB, hI⟩
            case measure => simp [intOf]; omega
    · have hi' : ¬ (i : Int) < (n : Int) := by omega
      go_wp2_with fail
      go_ret
      exact ⟨rfl, BB⟩
end Go.Proofs.Ytkomgjkeikaigaa
