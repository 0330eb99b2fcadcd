/- Proved: that the law GraphNoLoops of the statements returns true for every input. Conditions: the lists lie in memory. -/
import Derived.Test.YtkomgjkeikaigaaG13
namespace Go.Proofs.Ytkomgjkeikaigaa
open Go.RowKit Go.Sort Go.BigFrame
set_option linter.unusedVariables false
set_option linter.unusedSimpArgs false
attribute [local go_sem] cell_alloc_old

theorem reachL_at {l : List Int} {root : Int} (h : l.length ≤ 60) {i : Nat} (hi : i < l.length) : (reachL l root).getD i false = (decide (inR l root) && reachB l root i) := by
  unfold reachL; rw [if_pos h, List.getD_eq_getElem?_getD, List.getElem?_map, List.getElem?_range hi]; rfl

set_option maxRecDepth 100000 in
set_option maxHeartbeats 4000000 in
theorem lawNoLoops (l m : List Int) (b c : Option Addr) (cap cap2 : Nat) (w : World) (hP : IntsAt .i64 w b l) (hM : IntsAt .i64 w c m) (hm : l.length ≤ maxLen) (hm2 : m.length ≤ maxLen) : Calls Try.prog 5 #[.slice b l.length cap, .slice c m.length cap2] w (Yes true w) := by
  have hm' := hm
  unfold maxLen at hm hm2
  obtain ⟨n, hn⟩ : ∃ n, n = l.length := ⟨_, rfl⟩
  obtain ⟨q, hq⟩ : ∃ q, q = m.length := ⟨_, rfl⟩
  rw [← hn] at hm hm' ⊢
  rw [← hq] at hm2 ⊢
  have HN := Lib.hid hn; have HQ := Lib.hid hq; clear hn hq
  by_cases h60 : (60 : Int) < (n : Int)
  ·
    go_enter Try.func5, Try.ntmps5
    go_wp2_with fail
    refine (head_any w).mono ?_
    rintro e w1 ⟨rfl, b1⟩
    have BB := b1
    clear b1
    go_wp2_with fail
    go_ret
    exact ⟨rfl, BB⟩
  by_cases hqn : (q : Int) < (n : Int)
  ·
    go_enter Try.func5, Try.ntmps5
    go_wp2_with fail
    refine (head_any w).mono ?_
    rintro e w1 ⟨rfl, b1⟩
    have BB := b1
    clear b1
    go_wp2_with fail
    go_ret
    exact ⟨rfl, BB⟩
  have h60' : l.length ≤ 60 := by rw [← HN.out]; omega
  have H60 := Lib.hid h60'; clear h60'
  have hqn2 : ¬ q < n := by omega
  have hqn3 : decide (q < n) = false := by simp; omega
  have hd60 : decide ((60 : Int) < (n : Int)) = false := by simp; omega
  go_enter Try.func5, Try.ntmps5
  go_wp2_with fail
  refine (head_any w).mono ?_
  rintro e w1 ⟨rfl, b1⟩
  replace hP := hP.keep b1
  replace hM := hM.keep b1
  have BB := b1
  clear b1
  go_wp2_with fail
  go_loopw [6] (fun j wr => ∃ k : Nat, k ≤ n ∧ j = .int .i64 k ∧ (∀ j : Nat, j < k → 0 ≤ stepI l j → m.getD (stepI l j).toNat 0 < m.getD j 0) ∧ Below w.heap.size w wr ∧ IntsAt .i64 wr b l ∧ IntsAt .i64 wr c m) (fun j _ => n - (intOf j).toNat)
  case atStart => exact ⟨0, Nat.zero_le _, rfl, fun j hj => absurd hj (Nat.not_lt_zero _), BB, hP, hM⟩
  case round =>
    clear BB hP hM
    obtain ⟨k, hk, rfl, hf, BB, hP, hM⟩ := hrel
    have HF := Lib.hid hf; clear hf
    by_cases hlt : k < n
    · have hlt' : (k : Int) < (n : Int) := by omega
      have hk0 : (0 : Int) ≤ (k : Int) := by omega
      have hsr := step_range l k
      obtain ⟨r, hr⟩ : ∃ r, stepI l k = r := ⟨_, rfl⟩
      rw [hr] at hsr
      have HR := Lib.hid hr; clear hr
      by_cases hr0 : 0 ≤ r
      · have hrr := (hsr.resolve_left (by omega)).2
        have hrn : r < (n : Int) := by rw [HN.out]; exact hrr.2
        clear hrr hsr
        obtain ⟨t, rfl⟩ : ∃ t : Nat, r = t := ⟨r.toNat, by omega⟩
        have htq : (t : Int) < (q : Int) := by omega
        have hkq : (k : Int) < (q : Int) := by omega
        obtain ⟨b1, o1, ha, hc⟩ := ints_at hM (i := t) (by rw [← HQ.out]; omega)
        have d1 := hc t (by rw [← HQ.out]; omega)
        have d2 := hc k (by rw [← HQ.out]; omega)
        obtain ⟨x, hx⟩ : ∃ x, m.getD t 0 = x := ⟨_, rfl⟩
        obtain ⟨z, hz⟩ : ∃ z, m.getD k 0 = z := ⟨_, rfl⟩
        rw [hx] at d1; rw [hz] at d2
        have HX := Lib.hid hx; have HZ := Lib.hid hz
        clear hx hz hc
        subst ha
        by_cases hxz : x < z
        ·
          have hd1 : decide (z ≤ x) = false := by simp; omega
          have hd0 : decide (0 ≤ (t : Int)) = true := by simp
          go_wp2_with fail
          refine (step_at l n b cap k t wr HN.out hP hm' HR.out).mono ?_
          rintro e w21 ⟨rfl, b21⟩
          replace d1 := keep1 b21 d1; replace d2 := keep1 b21 d2
          replace hP := hP.keep b21
          replace hM := hM.keep b21
          replace BB := bstep BB b21
          clear b21
          have kd1 := cell_regrown d1; have kd2 := cell_regrown d2
          go_wp2_with fail
          refine wp_region_quiet_below (by kernel_rfl) (by kernel_rfl) ?_
          repeat (go_big_quiet_step (fail))
          refine wpQuiet_nil ?_
          intro _ hw'
          obtain ⟨⟨dq, osq⟩, hw''⟩ := hw'
          subst hw''
          have bq := below_regrown w21 dq osq
          clear d1 d2 kd1 kd2
          go_wp2_with fail
          go_roundw
          case rel =>
            refine ⟨k + 1, by omega, by go_num, fun j hj h0 => ?_, bstep BB bq, hP.keep bq, hM.keep bq⟩
            rcases Nat.lt_or_ge j k with h1 | h1
            · exact HF.out j h1 h0
            · rw [show j = k by omega, HR.out, Int.toNat_natCast, HX.out, HZ.out]; exact hxz
          case measure => simp [intOf]; omega
        ·
          have hd1 : decide (z ≤ x) = true := by simp; omega
          have hd0 : decide (0 ≤ (t : Int)) = true := by simp
          go_wp2_with fail
          refine (step_at l n b cap k t wr HN.out hP hm' HR.out).mono ?_
          rintro e w21 ⟨rfl, b21⟩
          replace d1 := keep1 b21 d1; replace d2 := keep1 b21 d2
          replace hP := hP.keep b21
          replace hM := hM.keep b21
          replace BB := bstep BB b21
          clear b21
          have kd1 := cell_regrown d1; have kd2 := cell_regrown d2
          go_wp2_with fail
          refine wp_region_quiet_below (by kernel_rfl) (by kernel_rfl) ?_
          repeat (go_big_quiet_step (fail))
          refine wpQuiet_nil ?_
          intro _ hw'
          obtain ⟨⟨dq, osq⟩, hw''⟩ := hw'
          subst hw''
          have bq := below_regrown w21 dq osq
          clear d1 d2 kd1 kd2
          go_wp2_with fail
          go_ret
          exact ⟨rfl, bstep BB bq⟩
      · clear hsr
        have hd0 : decide (0 ≤ r) = false := by simp; omega
        go_wp2_with fail
        refine (step_at l n b cap k r wr HN.out hP hm' HR.out).mono ?_
        rintro e w31 ⟨rfl, b31⟩
        replace hP := hP.keep b31
        replace hM := hM.keep b31
        replace BB := bstep BB b31
        clear b31
        go_wp2_with fail
        refine wp_region_quiet_below (by kernel_rfl) (by kernel_rfl) ?_
        repeat (go_big_quiet_step (fail))
        refine wpQuiet_nil ?_
        intro _ hw'
        obtain ⟨⟨dq, osq⟩, hw''⟩ := hw'
        subst hw''
        have bq := below_regrown w31 dq osq
        go_wp2_with fail
        go_roundw
        case rel =>
          refine ⟨k + 1, by omega, by go_num, fun j hj h0 => ?_, bstep BB bq, hP.keep bq, hM.keep bq⟩
          rcases Nat.lt_or_ge j k with h1 | h1
          · exact HF.out j h1 h0
          · have e : j = k := by omega
            rw [e, HR.out] at h0; omega
        case measure => simp [intOf]; omega
    · have hkn : n = k := by omega
      have hlt' : ¬ (k : Int) < (n : Int) := by omega
      have hfall : ∀ i, inR l i → 0 ≤ stepI l i → (fun i : Int => m.getD i.toNat 0) (stepI l i) < (fun i : Int => m.getD i.toNat 0) i := fun i hi h0 => by
        have hi1 := hi.1; have hi2 := hi.2
        have e : ((i.toNat : Nat) : Int) = i := by omega
        have := HF.out i.toNat (by rw [← hkn, HN.out]; omega) (by rw [e]; exact h0)
        rw [e] at this; exact this
      have HFALL := Lib.hid hfall
      have HKN := Lib.hid hkn
      clear hfall hkn hlt
      go_wp2_with fail
      go_loopw [5, 8] (fun u j wr => ∃ k : Nat, k ≤ n ∧ j = .int .i64 k ∧ u = .bool true ∧ Below w.heap.size w wr ∧ IntsAt .i64 wr b l) (fun _ j _ => n - (intOf j).toNat)
      case atStart => exact ⟨0, Nat.zero_le _, rfl, rfl, BB, hP⟩
      case round =>
        clear BB hP hM
        obtain ⟨i, hin, rfl, rfl, BB, hP⟩ := hrel
        by_cases hlt : i < n
        · have hi' : (i : Int) < (n : Int) := by omega
          have hi0 : (0 : Int) ≤ (i : Int) := by omega
          have hir : inR l (i : Int) := ⟨hi0, by rw [← HN.out]; exact hi'⟩
          have HIR := Lib.hid hir; clear hir
          go_wp2_with fail
          go_loopw [9, 10] (fun x j wz => ∃ d : Nat, d ≤ n ∧ j = .int .i64 d ∧ (∃ z : Int, x = .int .i64 z ∧ itr l i d = z ∧ inR l z) ∧ Below w.heap.size w wz ∧ IntsAt .i64 wz b l) (fun _ j _ => n - (intOf j).toNat)
          case atStart => exact ⟨0, Nat.zero_le _, rfl, ⟨_, rfl, rfl, HIR.out⟩, BB, hP⟩
          case round =>
            clear BB hP
            obtain ⟨d, hdn, rfl, ⟨z, rfl, hz, hzr⟩, BB, hP⟩ := hrel
            have HZ := Lib.hid hz; have HZR := Lib.hid hzr; clear hz hzr
            have hdl : d < n := by
              refine Classical.byContradiction fun hd => ?_
              have e : d = l.length := by rw [← HN.out]; omega
              have h1 := fall_ends HFALL.out (i := (i : Int))
              rw [← e, HZ.out] at h1; exact h1 HZR.out
            have hd' : (d : Int) < (n : Int) := by omega
            have hd0 : (0 : Int) ≤ (d : Int) := by omega
            have hsr := step_range l z
            obtain ⟨r, hr⟩ : ∃ r, stepI l z = r := ⟨_, rfl⟩
            rw [hr] at hsr
            have HR := Lib.hid hr; have HSR := Lib.hid hsr; clear hr hsr
            by_cases hr0 : 0 ≤ r
            ·
              go_wp2_with fail
              refine (step_at l n b cap z r wr HN.out hP hm' HR.out).mono ?_
              rintro e w61 ⟨rfl, b61⟩
              replace hP := hP.keep b61
              replace BB := bstep BB b61
              clear b61
              go_wp2_with fail
              refine (step_at l n b cap z r w61 HN.out hP hm' HR.out).mono ?_
              rintro e w62 ⟨rfl, b62⟩
              replace hP := hP.keep b62
              replace BB := bstep BB b62
              clear b62
              go_wp2_with fail
              go_roundw
              case rel => exact ⟨d + 1, by omega, by go_num, ⟨r, rfl, by rw [itr, HZ.out]; exact HR.out, (HSR.out.resolve_left (by omega)).2⟩, BB, hP⟩
              case measure => simp [intOf]; omega
            ·
              go_wp2_with fail
              refine (step_at l n b cap z r wr HN.out hP hm' HR.out).mono ?_
              rintro e w81 ⟨rfl, b81⟩
              replace hP := hP.keep b81
              replace BB := bstep BB b81
              clear b81
              go_wp2_with fail
              refine (reaches_at l n b cap z w81 HN.out hP hm').mono ?_
              rintro e w82 ⟨ar, cr, rfl, hR, _, _, b82⟩
              replace hP := hP.keep b82
              replace BB := bstep BB b82
              clear b82
              have hlr : (reachL l z).length = n := by rw [reachL_len H60.out, HN.out]
              rw [hlr]
              go_wp2_with fail
              refine (step_at l n b cap z r w82 HN.out hP hm' HR.out).mono ?_
              rintro e w83 ⟨rfl, b83⟩
              replace hP := hP.keep b83
              replace hR := hR.keep b83
              replace BB := bstep BB b83
              clear b83
              obtain ⟨b3, o3, ha3, hc3⟩ := bools_at hR (i := i) (by rw [hlr]; exact hlt)
              have d3 := hc3 i (by rw [hlr]; exact hlt)
              have e3 : (reachL l z).getD i false = true := by
                rw [reachL_at H60.out (by rw [← HN.out]; exact hlt), decide_eq_true HZR.out, Bool.true_and]
                exact (reach_iff HZR.out).2 ⟨d, HZ.out⟩
              rw [e3] at d3
              clear hc3 e3
              subst ha3
              go_wp2_with fail
              go_roundw
              case rel => exact ⟨i + 1, by omega, by go_num, by first | rfl | simp, BB, hP⟩
              case measure => simp [intOf]; omega
        · have hi' : ¬ (i : Int) < (n : Int) := by omega
          go_wp2_with fail
          refine (loop_at l n b cap wr HN.out hP hm').mono ?_
          rintro e w91 ⟨al, cl, rfl, _, _, _, b91⟩
          replace hP := hP.keep b91
          replace BB := bstep BB b91
          clear b91
          rw [fall_loop HFALL.out]
          go_wp2_with fail
          go_ret
          exact ⟨rfl, BB⟩
end Go.Proofs.Ytkomgjkeikaigaa
