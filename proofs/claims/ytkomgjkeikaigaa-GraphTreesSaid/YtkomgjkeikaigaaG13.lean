/- Proved: that the law GraphLoops of the statements returns true for every input. Conditions: the list lies in memory. -/
import Derived.Test.YtkomgjkeikaigaaG12
namespace Go.Proofs.Ytkomgjkeikaigaa
open Go.RowKit Go.Sort Go.BigFrame
set_option linter.unusedVariables false
set_option linter.unusedSimpArgs false
attribute [local go_sem] cell_alloc_old

theorem loopL_mem {l : List Int} (h : l.length ≤ 60) {x : Int} : x ∈ loopL l ↔ 0 ≤ x ∧ x < (l.length : Int) ∧ meets l x x = true := by
  unfold loopL; rw [if_pos h]; exact loopTo_mem
theorem has_loop {l : List Int} (h : l.length ≤ 60) {x : Int} (h0 : 0 ≤ x) (h1 : x < (l.length : Int)) : hasB (loopL l) x = meets l x x := by
  rw [Bool.eq_iff_iff]
  unfold hasB
  rw [List.any_eq_true]
  constructor
  · rintro ⟨y, hy, e⟩
    rw [beq_iff_eq] at e; subst e
    exact ((loopL_mem h).1 hy).2.2
  · intro hm; exact ⟨x, (loopL_mem h).2 ⟨h0, h1, hm⟩, by simp⟩
theorem loopL_sorted (l : List Int) : (loopL l).Pairwise (· < ·) := by
  unfold loopL; split
  · exact loopTo_sorted _
  · exact List.Pairwise.nil
theorem loopL_len (l : List Int) : (loopL l).length ≤ l.length := by
  unfold loopL; split
  · exact loopTo_len _
  · simp

set_option maxRecDepth 100000 in
set_option maxHeartbeats 4000000 in
theorem lawLoops (l : List Int) (b : Option Addr) (cap : Nat) (w : World) (hP : IntsAt .i64 w b l) (hm : l.length ≤ maxLen) : Calls Try.prog 4 #[.slice b l.length cap] w (Yes true w) := by
  have hm' := hm
  unfold maxLen at hm
  obtain ⟨n, hn⟩ : ∃ n, n = l.length := ⟨_, rfl⟩
  rw [← hn] at hm hm' ⊢
  have HN := Lib.hid hn; clear hn
  by_cases h60 : (60 : Int) < (n : Int)
  · have e : loopL l = [] := by unfold loopL; rw [if_neg (by rw [← HN.out]; omega)]
    have HE := Lib.hid e; clear e
    go_enter Try.func4, Try.ntmps4
    go_wp2_with fail
    refine (head_any w).mono ?_
    rintro e w1 ⟨rfl, b1⟩
    replace hP := hP.keep b1
    have BB := b1
    clear b1
    go_wp2_with fail
    refine (loop_at l n b cap w1 HN.out hP hm').mono ?_
    rintro e w2 ⟨a1, c1, rfl, h1, _, m1, b2⟩
    replace hP := hP.keep b2
    replace BB := bstep BB b2
    clear b2
    rw [HE.out] at h1 ⊢
    go_wp2_with fail
    go_ret
    exact ⟨rfl, BB⟩
  have h60' : l.length ≤ 60 := by rw [← HN.out]; omega
  have H60 := Lib.hid h60'
  have hll := loopL_len l
  rw [← HN.out] at hll
  have hls := loopL_sorted l
  obtain ⟨L, hL⟩ : ∃ L, loopL l = L := ⟨_, rfl⟩
  rw [hL] at hll hls
  obtain ⟨q, hq⟩ : ∃ q, q = L.length := ⟨_, rfl⟩
  rw [← hq] at hll
  have HL := Lib.hid hL; have HQ := Lib.hid hq; have HS := Lib.hid hls
  clear hL hq hls h60'
  go_enter Try.func4, Try.ntmps4
  go_wp2_with fail
  refine (head_any w).mono ?_
  rintro e w1 ⟨rfl, b1⟩
  replace hP := hP.keep b1
  have BB := b1
  clear b1
  go_wp2_with fail
  refine (loop_at l n b cap w1 HN.out hP hm').mono ?_
  rintro e w2 ⟨a1, c1, rfl, h1, _, m1, b2⟩
  replace hP := hP.keep b2
  replace BB := bstep BB b2
  clear b2
  rw [HL.out] at h1 ⊢
  rw [← HQ.out]
  have hqm : q ≤ maxLen := by unfold maxLen; omega
  go_wp2_with fail
  go_loopw [3, 5] (fun u j wr => ∃ k : Nat, k ≤ q ∧ j = .int .i64 k ∧ u = .bool true ∧ Below w.heap.size w wr ∧ IntsAt .i64 wr b l ∧ IntsAt .i64 wr a1 L) (fun _ j _ => q - (intOf j).toNat)
  case atStart => exact ⟨0, Nat.zero_le _, rfl, rfl, BB, hP, h1⟩
  case round =>
    clear BB hP h1
    obtain ⟨k, hk, rfl, rfl, BB, hP, h1⟩ := hrel
    by_cases hlt : k < q
    · have hlt' : (k : Int) < (q : Int) := by omega
      by_cases h0 : k = 0
      · subst h0
        go_wp2_with fail
        refine wp_region_quiet_below (by kernel_rfl) (by kernel_rfl) ?_
        repeat (go_big_quiet_step (fail))
        refine wpQuiet_nil ?_
        intro _ hw'
        obtain ⟨⟨dq, osq⟩, hw''⟩ := hw'
        subst hw''
        have bq := below_regrown wr dq osq
        go_wp2_with fail
        go_roundw
        case rel => exact ⟨1, by omega, by go_num, rfl, bstep BB bq, hP.keep bq, h1.keep bq⟩
        case measure => simp [intOf]; omega
      · obtain ⟨i, rfl⟩ : ∃ i, k = i + 1 := ⟨k - 1, by omega⟩
        obtain ⟨b1, o1, ha, hc⟩ := ints_at h1 (i := i) (by rw [← HQ.out]; omega)
        have HA := Lib.hid ha
        have d1 := hc i (by rw [← HQ.out]; omega)
        have d2 := hc (i + 1) (by rw [← HQ.out]; omega)
        have hgt : L.getD i 0 < L.getD (i + 1) 0 := by
          have hi1 : i < L.length := by rw [← HQ.out]; omega
          have hi2 : i + 1 < L.length := by rw [← HQ.out]; omega
          rw [List.getD_eq_getElem?_getD, List.getD_eq_getElem?_getD, List.getElem?_eq_getElem hi1, List.getElem?_eq_getElem hi2]
          exact List.pairwise_iff_getElem.1 HS.out i (i + 1) hi1 hi2 (by omega)
        obtain ⟨x, hx⟩ : ∃ x, L.getD i 0 = x := ⟨_, rfl⟩
        obtain ⟨z, hz⟩ : ∃ z, L.getD (i + 1) 0 = z := ⟨_, rfl⟩
        rw [hx] at d1 hgt; rw [hz] at d2 hgt
        obtain ⟨k, hk'⟩ : ∃ k, k = i + 1 := ⟨_, rfl⟩
        rw [← hk'] at d2 hlt hlt' hk ⊢
        have e0 : ((k : Int) == 0) = false := by simp; omega
        have e1 : (k : Int) - 1 = (i : Int) := by omega
        have e2 : IntKind.i64.wrap ((k : Int) - 1) = (i : Int) := by rw [e1]; exact IntWalk.i64_in _ (by omega)
        have hk0 : (0 : Int) ≤ (k : Int) := by omega
        have hi0 : (0 : Int) ≤ (i : Int) := by omega
        have hi1 : (i : Int) < (q : Int) := by omega
        have HK := Lib.hid hk'
        have kd1 := cell_regrown d1; have kd2 := cell_regrown d2
        clear hx hz hc hk' h0
        subst ha
        go_wp2_with fail
        refine wp_region_quiet_below (by kernel_rfl) (by kernel_rfl) ?_
        repeat (go_big_quiet_step (fail))
        refine wpQuiet_nil ?_
        intro _ hw'
        obtain ⟨⟨dq, osq⟩, hw''⟩ := hw'
        subst hw''
        have bq := below_regrown wr dq osq
        clear d1 d2 kd1 kd2
        go_wp2_with fail
        go_roundw
        case rel => exact ⟨k + 1, by omega, by go_num, by simp [hgt], bstep BB bq, hP.keep bq, h1.keep bq⟩
        case measure => simp [intOf]; omega
    · have hkq : q = k := by omega
      have HKQ := Lib.hid hkq
      have hlt' : ¬ (k : Int) < (q : Int) := by omega
      clear hkq
      go_wp2_with fail
      go_loopw [3, 6] (fun u j wz => ∃ i : Nat, i ≤ n ∧ j = .int .i64 i ∧ u = .bool true ∧ Below w.heap.size w wz ∧ IntsAt .i64 wz b l ∧ IntsAt .i64 wz a1 L) (fun _ j _ => n - (intOf j).toNat)
      case atStart => exact ⟨0, Nat.zero_le _, rfl, rfl, BB, hP, h1⟩
      case round =>
        clear BB hP h1
        obtain ⟨i, hin, rfl, rfl, BB, hP, h1⟩ := hrel
        by_cases hlt : i < n
        · have hi' : (i : Int) < (n : Int) := by omega
          have hi0 : (0 : Int) ≤ (i : Int) := by omega
          have hir : inR l (i : Int) := ⟨hi0, by rw [← HN.out]; exact hi'⟩
          have hhas := has_loop H60.out (x := (i : Int)) hi0 (by rw [← HN.out]; exact hi')
          rw [HL.out] at hhas
          obtain ⟨y, hy⟩ : ∃ y, meets l i i = y := ⟨_, rfl⟩
          rw [hy] at hhas
          have HH := Lib.hid hhas; have HY := Lib.hid hy; have HIR := Lib.hid hir
          clear hhas hy hir
          cases y
          ·
            go_wp2_with fail
            refine (has_at L q a1 c1 i false wr HQ.out h1 hqm HH.out).mono ?_
            rintro e w51 ⟨rfl, b51⟩
            replace hP := hP.keep b51
            replace h1 := h1.keep b51
            replace BB := bstep BB b51
            clear b51
            go_wp2_with fail
            refine (meets_at l n b cap i i false w51 HN.out hP hm' HY.out).mono ?_
            rintro e w52 ⟨rfl, b52⟩
            replace hP := hP.keep b52
            replace h1 := h1.keep b52
            replace BB := bstep BB b52
            clear b52
            go_wp2_with fail
            go_roundw
            case rel => exact ⟨i + 1, by omega, by go_num, by first | rfl | simp, BB, hP, h1⟩
            case measure => simp [intOf]; omega
          ·
            go_wp2_with fail
            refine (has_at L q a1 c1 i true wr HQ.out h1 hqm HH.out).mono ?_
            rintro e w51 ⟨rfl, b51⟩
            replace hP := hP.keep b51
            replace h1 := h1.keep b51
            replace BB := bstep BB b51
            clear b51
            go_wp2_with fail
            refine (meets_at l n b cap i i true w51 HN.out hP hm' HY.out).mono ?_
            rintro e w52 ⟨rfl, b52⟩
            replace hP := hP.keep b52
            replace h1 := h1.keep b52
            replace BB := bstep BB b52
            clear b52
            go_wp2_with fail
            obtain ⟨hr1, hr2⟩ := meets_next HIR.out HY.out
            obtain ⟨r, hr⟩ : ∃ r, stepI l i = r := ⟨_, rfl⟩
            rw [hr] at hr1 hr2
            have HR := Lib.hid hr; have HR1 := Lib.hid hr1; have HR2 := Lib.hid hr2; clear hr hr1 hr2
            refine (step_at l n b cap i r w52 HN.out hP hm' HR.out).mono ?_
            rintro e w53 ⟨rfl, b53⟩
            replace hP := hP.keep b53
            replace h1 := h1.keep b53
            replace BB := bstep BB b53
            clear b53
            go_wp2_with fail
            refine (has_at L q a1 c1 r true w53 HQ.out h1 hqm (by rw [← HL.out, has_loop H60.out HR1.out.1 HR1.out.2]; exact HR2.out)).mono ?_
            rintro e w54 ⟨rfl, b54⟩
            replace hP := hP.keep b54
            replace h1 := h1.keep b54
            replace BB := bstep BB b54
            clear b54
            go_wp2_with fail
            go_roundw
            case rel => exact ⟨i + 1, by omega, by go_num, by first | rfl | simp, BB, hP, h1⟩
            case measure => simp [intOf]; omega
        · have hin' : ¬ (i : Int) < (n : Int) := by omega
          go_wp2_with fail
          go_ret
          exact ⟨rfl, BB⟩
end Go.Proofs.Ytkomgjkeikaigaa
