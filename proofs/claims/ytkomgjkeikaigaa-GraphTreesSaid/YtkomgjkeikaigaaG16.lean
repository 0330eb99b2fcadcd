/- Proved: that the law GraphDepths of the statements returns true for every input. Conditions: the table lies in memory. -/
import Derived.Test.YtkomgjkeikaigaaG15
namespace Go.Proofs.Ytkomgjkeikaigaa
open Go.RowKit Go.Sort Go.BigFrame
set_option linter.unusedVariables false
set_option linter.unusedSimpArgs false
attribute [local go_sem] cell_alloc_old

theorem depth_bd {h : Tab} {root : Nat} {o : List Int} (hv : Valid h) (hr : root < h.length) (D : DepthOk h root o) {i : Nat} (hi : i < h.length) : at' o i ≤ 60 := by
  rw [depth_unique hv D (ref_depth hv hr)]
  have := (level_ok hv hr (h.length - 1)).rng i hi
  have := hv.1
  omega
theorem okD_true {h : Tab} {t : Nat} (hv : Valid h) (ht : t < h.length) : okD h (t : Int) = true := by
  unfold okD; rw [valid_true hv, decide_eq_true (by omega), decide_eq_true (by omega)]; rfl

set_option maxRecDepth 100000 in
set_option maxHeartbeats 4000000 in
theorem lawDepths (h : Tab) (a : Option Addr) (cap : Nat) (root : Int) (w : World) (hH : TabAt w a h) (hm : h.length ≤ maxLen) : Calls Try.prog 6 #[.slice a h.length cap, .int .i64 root] w (Yes true w) := by
  obtain ⟨n, hn⟩ : ∃ n, n = h.length := ⟨_, rfl⟩
  rw [← hn] at hm ⊢
  have HN := Lib.hid hn; clear hn
  have hm2 := hm
  unfold maxLen at hm2
  cases hv : validB h
  ·
    have HV := Lib.hid hv; clear hv
    go_enter Try.func6, Try.ntmps6
    go_wp2_with fail
    refine (head_any w).mono ?_
    rintro e w1 ⟨rfl, b1⟩
    have BB := b1
    clear b1
    have hH0 := hH
    replace hH := hH.keep BB
    go_wp2_with fail
    refine (few_at h n 0 a none cap 0 _ HN.out hH hm (by simp [maxLen])).mono ?_
    rintro e w2 ⟨y, rfl, b2⟩
    replace BB := bstep BB b2
    replace hH := hH.keep b2
    clear b2
    cases y
    ·
      go_wp2_with fail
      refine (rvalid_at h n a cap false w2 HN.out hH hm HV.out).mono ?_
      rintro e w3 ⟨rfl, b3⟩
      replace BB := bstep BB b3
      clear b3
      go_wp2_with fail
      go_ret
      exact ⟨rfl, BB⟩
    ·
      go_wp2_with fail
      refine (rvalid_at h n a cap false w2 HN.out hH hm HV.out).mono ?_
      rintro e w3 ⟨rfl, b3⟩
      replace BB := bstep BB b3
      clear b3
      go_wp2_with fail
      go_ret
      exact ⟨rfl, BB⟩
  ·
    have hV := valid_of hv
    have HV := Lib.hid hv; have HVD := Lib.hid hV
    have h60 : n ≤ 60 := by rw [HN.out]; exact hV.1
    clear hv hV
    by_cases hr : 0 ≤ root ∧ root < (n : Int)
    ·
      obtain ⟨t, rfl⟩ : ∃ t : Nat, root = t := ⟨root.toNat, by omega⟩
      have htn : t < n := by omega
      have ht1 : (t : Int) < (n : Int) := by omega
      have ht0 : (0 : Int) ≤ (t : Int) := by omega
      clear hr
      have D := ref_depth HVD.out (root := t) (by rw [← HN.out]; exact htn)
      obtain ⟨o, ho⟩ : ∃ o, levelTo h (startD h t) (h.length - 1) = o := ⟨_, rfl⟩
      rw [ho] at D
      have hbd : ∀ i, i < n → at' o i ≤ 60 := fun i hi => depth_bd HVD.out (by rw [← HN.out]; exact htn) D (by rw [← HN.out]; exact hi)
      have hol : o.length = n := by rw [D.len, HN.out]
      have DD := Lib.hid D; have HBD := Lib.hid hbd; have HOL := Lib.hid hol
      clear D hbd hol ho
      go_enter Try.func6, Try.ntmps6
      go_wp2_with fail
      refine (head_any w).mono ?_
      rintro e w1 ⟨rfl, b1⟩
      have BB := b1
      clear b1
      have hH0 := Lib.hid hH
      replace hH := hH.keep BB
      go_wp2_with fail
      refine (few_at h n 0 a none cap 0 _ HN.out hH hm (by simp [maxLen])).mono ?_
      rintro e w2 ⟨y, rfl, b2⟩
      replace BB := bstep BB b2
      replace hH := hH.keep b2
      clear b2
      cases y
      ·
        go_wp2_with fail
        refine (rvalid_at h n a cap true w2 HN.out hH hm HV.out).mono ?_
        rintro e w3 ⟨rfl, b3⟩
        replace hH := hH.keep b3
        replace BB := bstep BB b3
        clear b3
        go_wp2_with fail
        go_ret
        exact ⟨rfl, BB⟩
      ·
        go_wp2_with fail
        refine (rvalid_at h n a cap true w2 HN.out hH hm HV.out).mono ?_
        rintro e w3 ⟨rfl, b3⟩
        replace hH := hH.keep b3
        replace BB := bstep BB b3
        clear b3
        go_wp2_with fail
        refine (depths_at h n a cap t w3 HN.out hH hm o 0 (.inl ⟨okD_true HVD.out (by rw [← HN.out]; exact htn), by rw [Int.toNat_natCast]; exact depth_eq HVD.out DD.out, rfl⟩)).mono ?_
        rintro e w4 ⟨ad, cd, rfl, hd, _, _, b4⟩
        replace BB := bstep BB b4
        clear b4
        clear hH
        rw [HOL.out]
        go_wp2_with fail
        obtain ⟨b, off, rfl, hT⟩ := tab_at hH0.out (i := t) (by rw [← HN.out]; exact htn)
        have HT := Lib.hid hT; clear hT hH0
        go_loopw [5, 10] (fun u j wr => ∃ k : Nat, k ≤ n ∧ j = .int .i64 k ∧ u = .bool true ∧ Below w.heap.size w wr ∧ IntsAt .i64 wr ad o) (fun _ j _ => n - (intOf j).toNat)
        case atStart => exact ⟨0, Nat.zero_le _, rfl, rfl, BB, hd⟩
        case round =>
          clear BB hd
          obtain ⟨i, hin, rfl, rfl, BB, hd⟩ := hrel
          by_cases hlt : i < n
          · have hi' : (i : Int) < (n : Int) := by omega
            have hi0 : (0 : Int) ≤ (i : Int) := by omega
            go_wp2_with fail
            go_loopw [5, 11, 12] (fun u v j wz => ∃ k : Nat, k ≤ n ∧ j = .int .i64 k ∧ u = .bool true ∧ (∃ nr : Bool, v = .bool nr ∧ ∀ j, j < k → hb h i j = true → at' o j = at' o i - 1 → 0 ≤ at' o j → nr = true) ∧ Below w.heap.size w wz ∧ IntsAt .i64 wz ad o) (fun _ _ j _ => n - (intOf j).toNat)
            case atStart => exact ⟨0, Nat.zero_le _, rfl, rfl, ⟨false, rfl, fun j hj => absurd hj (Nat.not_lt_zero _)⟩, BB, hd⟩
            case round =>
              clear BB hd
              obtain ⟨k, hkn, rfl, rfl, ⟨nr, rfl, hnr⟩, BB, hd⟩ := hrel
              have HNR := Lib.hid hnr; clear hnr
              by_cases hlt2 : k < n
              · have hk' : (k : Int) < (n : Int) := by omega
                have hk0 : (0 : Int) ≤ (k : Int) := by omega
                obtain ⟨rb, roff, rc, d1, d2⟩ := row_cell HT.out BB (i := i) (k := k) (by rw [← HN.out]; exact hlt) (by rw [HVD.out.2.1 i (by rw [← HN.out]; exact hlt), ← HN.out]; exact hlt2)
                rw [HVD.out.2.1 i (by rw [← HN.out]; exact hlt), ← HN.out] at d1
                obtain ⟨b1, o1, ha1, hc⟩ := ints_at hd (i := i) (by rw [HOL.out]; exact hlt)
                have ci : wr.cell? ⟨b1, o1 + i, none⟩ = some (.int .i64 (at' o i)) := hc i (by rw [HOL.out]; exact hlt)
                have ck : wr.cell? ⟨b1, o1 + k, none⟩ = some (.int .i64 (at' o k)) := hc k (by rw [HOL.out]; exact hlt2)
                have hx0 := DD.out.rng i (by rw [← HN.out]; exact hlt)
                have hz0 := DD.out.rng k (by rw [← HN.out]; exact hlt2)
                have hx1 := HBD.out i hlt
                have hz1 := HBD.out k hlt2
                have hn1 := DD.out.near i (by rw [← HN.out]; exact hlt) k (by rw [← HN.out]; exact hlt2)
                have hn2 := DD.out.near k (by rw [← HN.out]; exact hlt2) i (by rw [← HN.out]; exact hlt)
                rw [HVD.out.2.2.1 k (by rw [← HN.out]; exact hlt2) i (by rw [← HN.out]; exact hlt)] at hn2
                obtain ⟨u, hu⟩ : ∃ u, hb h i k = u := ⟨_, rfl⟩
                rw [hu] at d2 hn1 hn2
                have HU := Lib.hid hu; clear hu
                obtain ⟨x, hx⟩ : ∃ x, at' o i = x := ⟨_, rfl⟩
                obtain ⟨z, hz⟩ : ∃ z, at' o k = z := ⟨_, rfl⟩
                rw [hx] at ci hx0 hx1 hn1 hn2
                rw [hz] at ck hz0 hz1 hn1 hn2
                have HX := Lib.hid hx; have HZ := Lib.hid hz
                have HN1 := Lib.hid hn1; have HN2 := Lib.hid hn2
                clear hx hz hc hn1 hn2
                subst ha1
                cases u
                ·
                  go_wp2_with fail
                  go_roundw
                  case rel => exact ⟨k + 1, by omega, by go_num, by first | rfl | simp, ⟨nr, by first | rfl | simp, fun j hj h1 h2 h3 => by 
                    rcases Nat.lt_or_ge j k with h4 | h4
                    · exact HNR.out j h4 h1 h2 h3
                    · rw [show j = k by omega, HU.out] at h1; cases h1⟩, BB, hd⟩
                  case measure => simp [intOf]; omega
                ·
                  have kci := cell_regrown ci; have kck := cell_regrown ck
                  have hw0 : IntKind.i64.wrap (x - 1) = x - 1 := IntWalk.i64_in _ (by omega)
                  by_cases hxn : x < 0
                  ·
                    have hzn : z < 0 := Classical.byContradiction fun h => by have := (HN2.out rfl (by omega)).1; omega
                    have e1 : decide (x < 0) = true := by simp [hxn]
                    have e2 : decide (z < 0) = true := by simp [hzn]
                    have e3 : (z == x - 1) = false := by simp; omega
                    cases nr
                    ·
                      go_wp2_with fail
                      refine wp_region_quiet_below (by kernel_rfl) (by kernel_rfl) ?_
                      repeat (go_big_quiet_step (fail))
                      refine wpQuiet_nil ?_
                      intro _ hw'
                      obtain ⟨⟨dq, osq⟩, hw''⟩ := hw'
                      subst hw''
                      have bq0 := below_regrown wr dq osq
                      replace BB := bstep BB bq0
                      replace hd := hd.keep bq0
                      replace ci := keep1 bq0 ci; replace ck := keep1 bq0 ck
                      have kci := cell_regrown ci; have kck := cell_regrown ck
                      obtain ⟨WW0, hWW0⟩ : ∃ W, grow (redrawn wr dq) osq = W := ⟨_, rfl⟩
                      rw [hWW0] at BB hd ci ck kci kck ⊢
                      clear hWW0 bq0 dq osq
                      go_wp2_with fail
                      refine wp_region_quiet_below (by kernel_rfl) (by kernel_rfl) ?_
                      repeat (go_big_quiet_step (fail))
                      refine wpQuiet_nil ?_
                      intro _ hw'
                      obtain ⟨⟨dq, osq⟩, hw''⟩ := hw'
                      subst hw''
                      have bq1 := below_regrown WW0 dq osq
                      replace BB := bstep BB bq1
                      replace hd := hd.keep bq1
                      replace ci := keep1 bq1 ci; replace ck := keep1 bq1 ck
                      have kci := cell_regrown ci; have kck := cell_regrown ck
                      obtain ⟨WW1, hWW1⟩ : ∃ W, grow (redrawn WW0 dq) osq = W := ⟨_, rfl⟩
                      rw [hWW1] at BB hd ci ck kci kck ⊢
                      clear hWW1 bq1 dq osq
                      go_wp2_with fail
                      go_roundw
                      case rel => exact ⟨k + 1, by omega, by go_num, by first | rfl | simp, ⟨false, by first | rfl | simp, fun j hj h1 h2 h3 => by 
                        rcases Nat.lt_or_ge j k with h4 | h4
                        · exact HNR.out j h4 h1 h2 h3
                        · rw [show j = k by omega, HZ.out] at h3; omega⟩, BB, hd⟩
                      case measure => simp [intOf]; omega
                    ·
                      go_wp2_with fail
                      refine wp_region_quiet_below (by kernel_rfl) (by kernel_rfl) ?_
                      repeat (go_big_quiet_step (fail))
                      refine wpQuiet_nil ?_
                      intro _ hw'
                      obtain ⟨⟨dq, osq⟩, hw''⟩ := hw'
                      subst hw''
                      have bq0 := below_regrown wr dq osq
                      replace BB := bstep BB bq0
                      replace hd := hd.keep bq0
                      replace ci := keep1 bq0 ci; replace ck := keep1 bq0 ck
                      have kci := cell_regrown ci; have kck := cell_regrown ck
                      obtain ⟨WW0, hWW0⟩ : ∃ W, grow (redrawn wr dq) osq = W := ⟨_, rfl⟩
                      rw [hWW0] at BB hd ci ck kci kck ⊢
                      clear hWW0 bq0 dq osq
                      go_wp2_with fail
                      refine wp_region_quiet_below (by kernel_rfl) (by kernel_rfl) ?_
                      repeat (go_big_quiet_step (fail))
                      refine wpQuiet_nil ?_
                      intro _ hw'
                      obtain ⟨⟨dq, osq⟩, hw''⟩ := hw'
                      subst hw''
                      have bq1 := below_regrown WW0 dq osq
                      replace BB := bstep BB bq1
                      replace hd := hd.keep bq1
                      replace ci := keep1 bq1 ci; replace ck := keep1 bq1 ck
                      have kci := cell_regrown ci; have kck := cell_regrown ck
                      obtain ⟨WW1, hWW1⟩ : ∃ W, grow (redrawn WW0 dq) osq = W := ⟨_, rfl⟩
                      rw [hWW1] at BB hd ci ck kci kck ⊢
                      clear hWW1 bq1 dq osq
                      go_wp2_with fail
                      go_roundw
                      case rel => exact ⟨k + 1, by omega, by go_num, by first | rfl | simp, ⟨true, by first | rfl | simp, fun j hj h1 h2 h3 => by rfl⟩, BB, hd⟩
                      case measure => simp [intOf]; omega
                  ·
                    have hzn : 0 ≤ z := (HN1.out rfl (by omega)).1
                    have hxp : 0 ≤ x := by omega
                    have hd1 : z ≤ x + 1 := (HN1.out rfl hxp).2
                    have hd2 : x ≤ z + 1 := (HN2.out rfl hzn).2
                    have e1 : decide (x < 0) = false := by simp; omega
                    have e2 : decide (0 ≤ x) = true := by simp [hxp]
                    have e3 : decide (0 ≤ z) = true := by simp [hzn]
                    have hw1 : IntKind.i64.wrap (x - z) = x - z := IntWalk.i64_in _ (by omega)
                    have hw2 : IntKind.i64.wrap (z - x) = z - x := IntWalk.i64_in _ (by omega)
                    have e4 : decide (x - z ≤ 1) = true := by simp; omega
                    have e5 : decide (z - x ≤ 1) = true := by simp; omega
                    cases nr
                    ·
                      by_cases hzx : z = x - 1
                      ·
                        have e6 : (z == x - 1) = true := by simp [hzx]
                        have HZX := Lib.hid hzx; clear hzx
                        go_wp2_with fail
                        refine wp_region_quiet_below (by kernel_rfl) (by kernel_rfl) ?_
                        repeat (go_big_quiet_step (fail))
                        refine wpQuiet_nil ?_
                        intro _ hw'
                        obtain ⟨⟨dq, osq⟩, hw''⟩ := hw'
                        subst hw''
                        have bq0 := below_regrown wr dq osq
                        replace BB := bstep BB bq0
                        replace hd := hd.keep bq0
                        replace ci := keep1 bq0 ci; replace ck := keep1 bq0 ck
                        have kci := cell_regrown ci; have kck := cell_regrown ck
                        obtain ⟨WW0, hWW0⟩ : ∃ W, grow (redrawn wr dq) osq = W := ⟨_, rfl⟩
                        rw [hWW0] at BB hd ci ck kci kck ⊢
                        clear hWW0 bq0 dq osq
                        go_wp2_with fail
                        refine wp_region_quiet_below (by kernel_rfl) (by kernel_rfl) ?_
                        repeat (go_big_quiet_step (fail))
                        refine wpQuiet_nil ?_
                        intro _ hw'
                        obtain ⟨⟨dq, osq⟩, hw''⟩ := hw'
                        subst hw''
                        have bq1 := below_regrown WW0 dq osq
                        replace BB := bstep BB bq1
                        replace hd := hd.keep bq1
                        replace ci := keep1 bq1 ci; replace ck := keep1 bq1 ck
                        have kci := cell_regrown ci; have kck := cell_regrown ck
                        obtain ⟨WW1, hWW1⟩ : ∃ W, grow (redrawn WW0 dq) osq = W := ⟨_, rfl⟩
                        rw [hWW1] at BB hd ci ck kci kck ⊢
                        clear hWW1 bq1 dq osq
                        go_wp2_with fail
                        go_roundw
                        case rel => exact ⟨k + 1, by omega, by go_num, by first | rfl | simp, ⟨true, by first | rfl | simp, fun j hj h1 h2 h3 => by rfl⟩, BB, hd⟩
                        case measure => simp [intOf]; omega
                      ·
                        have e6 : (z == x - 1) = false := by simp [hzx]
                        have HZX := Lib.hid hzx; clear hzx
                        go_wp2_with fail
                        refine wp_region_quiet_below (by kernel_rfl) (by kernel_rfl) ?_
                        repeat (go_big_quiet_step (fail))
                        refine wpQuiet_nil ?_
                        intro _ hw'
                        obtain ⟨⟨dq, osq⟩, hw''⟩ := hw'
                        subst hw''
                        have bq0 := below_regrown wr dq osq
                        replace BB := bstep BB bq0
                        replace hd := hd.keep bq0
                        replace ci := keep1 bq0 ci; replace ck := keep1 bq0 ck
                        have kci := cell_regrown ci; have kck := cell_regrown ck
                        obtain ⟨WW0, hWW0⟩ : ∃ W, grow (redrawn wr dq) osq = W := ⟨_, rfl⟩
                        rw [hWW0] at BB hd ci ck kci kck ⊢
                        clear hWW0 bq0 dq osq
                        go_wp2_with fail
                        refine wp_region_quiet_below (by kernel_rfl) (by kernel_rfl) ?_
                        repeat (go_big_quiet_step (fail))
                        refine wpQuiet_nil ?_
                        intro _ hw'
                        obtain ⟨⟨dq, osq⟩, hw''⟩ := hw'
                        subst hw''
                        have bq1 := below_regrown WW0 dq osq
                        replace BB := bstep BB bq1
                        replace hd := hd.keep bq1
                        replace ci := keep1 bq1 ci; replace ck := keep1 bq1 ck
                        have kci := cell_regrown ci; have kck := cell_regrown ck
                        obtain ⟨WW1, hWW1⟩ : ∃ W, grow (redrawn WW0 dq) osq = W := ⟨_, rfl⟩
                        rw [hWW1] at BB hd ci ck kci kck ⊢
                        clear hWW1 bq1 dq osq
                        go_wp2_with fail
                        go_roundw
                        case rel => exact ⟨k + 1, by omega, by go_num, by first | rfl | simp, ⟨false, by first | rfl | simp, fun j hj h1 h2 h3 => by 
                          rcases Nat.lt_or_ge j k with h4 | h4
                          · exact HNR.out j h4 h1 h2 h3
                          · rw [show j = k by omega, HZ.out, HX.out] at h2; exact absurd h2 HZX.out⟩, BB, hd⟩
                        case measure => simp [intOf]; omega
                    ·
                      go_wp2_with fail
                      refine wp_region_quiet_below (by kernel_rfl) (by kernel_rfl) ?_
                      repeat (go_big_quiet_step (fail))
                      refine wpQuiet_nil ?_
                      intro _ hw'
                      obtain ⟨⟨dq, osq⟩, hw''⟩ := hw'
                      subst hw''
                      have bq0 := below_regrown wr dq osq
                      replace BB := bstep BB bq0
                      replace hd := hd.keep bq0
                      replace ci := keep1 bq0 ci; replace ck := keep1 bq0 ck
                      have kci := cell_regrown ci; have kck := cell_regrown ck
                      obtain ⟨WW0, hWW0⟩ : ∃ W, grow (redrawn wr dq) osq = W := ⟨_, rfl⟩
                      rw [hWW0] at BB hd ci ck kci kck ⊢
                      clear hWW0 bq0 dq osq
                      go_wp2_with fail
                      refine wp_region_quiet_below (by kernel_rfl) (by kernel_rfl) ?_
                      repeat (go_big_quiet_step (fail))
                      refine wpQuiet_nil ?_
                      intro _ hw'
                      obtain ⟨⟨dq, osq⟩, hw''⟩ := hw'
                      subst hw''
                      have bq1 := below_regrown WW0 dq osq
                      replace BB := bstep BB bq1
                      replace hd := hd.keep bq1
                      replace ci := keep1 bq1 ci; replace ck := keep1 bq1 ck
                      have kci := cell_regrown ci; have kck := cell_regrown ck
                      obtain ⟨WW1, hWW1⟩ : ∃ W, grow (redrawn WW0 dq) osq = W := ⟨_, rfl⟩
                      rw [hWW1] at BB hd ci ck kci kck ⊢
                      clear hWW1 bq1 dq osq
                      go_wp2_with fail
                      go_roundw
                      case rel => exact ⟨k + 1, by omega, by go_num, by first | rfl | simp, ⟨true, by first | rfl | simp, fun j hj h1 h2 h3 => by rfl⟩, BB, hd⟩
                      case measure => simp [intOf]; omega
              ·
                have hkn2 : n = k := by omega
                have HK := Lib.hid hkn2
                have hlt3 : ¬ (k : Int) < (n : Int) := by omega
                clear hkn2 hlt2
                obtain ⟨b1, o1, ha1, hc⟩ := ints_at hd (i := i) (by rw [HOL.out]; exact hlt)
                have ci : wr.cell? ⟨b1, o1 + i, none⟩ = some (.int .i64 (at' o i)) := hc i (by rw [HOL.out]; exact hlt)
                have hx0 := DD.out.rng i (by rw [← HN.out]; exact hlt)
                have hzr := DD.out.zero i (by rw [← HN.out]; exact hlt)
                have hnr : 0 < at' o i → nr = true := fun hp => by
                  obtain ⟨j, hj, h1, h2⟩ := DD.out.pred i (by rw [← HN.out]; exact hlt) hp
                  exact HNR.out j (by rw [← HK.out, HN.out]; exact hj) h1 h2 (by omega)
                obtain ⟨x, hx⟩ : ∃ x, at' o i = x := ⟨_, rfl⟩
                rw [hx] at ci hx0 hzr hnr
                have e1 : decide (-1 ≤ x) = true := by simp; omega
                clear hc hx
                subst ha1
                by_cases hp : 0 < x
                ·
                  have e2 := hnr hp
                  subst e2
                  have hne : ¬ i = t := fun e => by have := hzr.2 e; omega
                  have e3 : (x == 0) = false := by simp; omega
                  have e4 : ((i : Int) == (t : Int)) = false := by simp; omega
                  have e5 : decide (x ≤ 0) = false := by simp; omega
                  clear hzr hnr hne
                  go_wp2_with fail
                  go_roundw
                  case rel => exact ⟨i + 1, by omega, by go_num, by first | rfl | simp, BB, hd⟩
                  case measure => simp [intOf]; omega
                ·
                  have e5 : decide (x ≤ 0) = true := by simp; omega
                  have e6 : (x == 0) = ((i : Int) == (t : Int)) := by
                    rw [Bool.eq_iff_iff, beq_iff_eq, beq_iff_eq, hzr]; omega
                  clear hzr hnr
                  obtain ⟨y, hy⟩ : ∃ y, ((i : Int) == (t : Int)) = y := ⟨_, rfl⟩
                  rw [hy] at e6
                  go_wp2_with fail
                  go_roundw
                  case rel => exact ⟨i + 1, by omega, by go_num, by first | rfl | simp, BB, hd⟩
                  case measure => simp [intOf]; omega
          · have hlt3 : ¬ (i : Int) < (n : Int) := by omega
            go_wp2_with fail
            go_ret
            exact ⟨rfl, BB⟩
    ·
      by_cases hr0 : 0 ≤ root
      ·
        have hrn : ¬ root < (n : Int) := fun h2 => hr ⟨hr0, h2⟩
        clear hr
        go_enter Try.func6, Try.ntmps6
        go_wp2_with fail
        refine (head_any w).mono ?_
        rintro e w1 ⟨rfl, b1⟩
        have BB := b1
        clear b1
        replace hH := hH.keep BB
        go_wp2_with fail
        refine (few_at h n 0 a none cap 0 _ HN.out hH hm (by simp [maxLen])).mono ?_
        rintro e w2 ⟨y, rfl, b2⟩
        replace BB := bstep BB b2
        replace hH := hH.keep b2
        clear b2
        cases y
        ·
          go_wp2_with fail
          refine (rvalid_at h n a cap true w2 HN.out hH hm HV.out).mono ?_
          rintro e w3 ⟨rfl, b3⟩
          replace BB := bstep BB b3
          clear b3
          go_wp2_with fail
          go_ret
          exact ⟨rfl, BB⟩
        ·
          go_wp2_with fail
          refine (rvalid_at h n a cap true w2 HN.out hH hm HV.out).mono ?_
          rintro e w3 ⟨rfl, b3⟩
          replace BB := bstep BB b3
          clear b3
          go_wp2_with fail
          go_ret
          exact ⟨rfl, BB⟩
      ·
        clear hr
        go_enter Try.func6, Try.ntmps6
        go_wp2_with fail
        refine (head_any w).mono ?_
        rintro e w1 ⟨rfl, b1⟩
        have BB := b1
        clear b1
        replace hH := hH.keep BB
        go_wp2_with fail
        refine (few_at h n 0 a none cap 0 _ HN.out hH hm (by simp [maxLen])).mono ?_
        rintro e w2 ⟨y, rfl, b2⟩
        replace BB := bstep BB b2
        replace hH := hH.keep b2
        clear b2
        cases y
        ·
          go_wp2_with fail
          refine (rvalid_at h n a cap true w2 HN.out hH hm HV.out).mono ?_
          rintro e w3 ⟨rfl, b3⟩
          replace BB := bstep BB b3
          clear b3
          go_wp2_with fail
          go_ret
          exact ⟨rfl, BB⟩
        ·
          go_wp2_with fail
          refine (rvalid_at h n a cap true w2 HN.out hH hm HV.out).mono ?_
          rintro e w3 ⟨rfl, b3⟩
          replace BB := bstep BB b3
          clear b3
          go_wp2_with fail
          go_ret
          exact ⟨rfl, BB⟩
end Go.Proofs.Ytkomgjkeikaigaa
