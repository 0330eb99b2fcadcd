/- Proved: that the law GraphIslands of the statements returns true for every input. Conditions: the table lies in memory. -/
import Derived.Test.YtkomgjkeikaigaaG16
namespace Go.Proofs.Ytkomgjkeikaigaa
open Go.RowKit Go.Sort Go.BigFrame
set_option linter.unusedVariables false
set_option linter.unusedSimpArgs false
attribute [local go_sem] cell_alloc_old

set_option maxRecDepth 100000 in
set_option maxHeartbeats 4000000 in
theorem lawIslands (h : Tab) (a : Option Addr) (cap : Nat) (w : World) (hH : TabAt w a h) (hm : h.length ≤ maxLen) : Calls Try.prog 7 #[.slice a h.length cap] w (Yes true w) := by
  obtain ⟨n, hn⟩ : ∃ n, n = h.length := ⟨_, rfl⟩
  rw [← hn] at hm ⊢
  have HN := Lib.hid hn; clear hn
  have hm2 := hm
  unfold maxLen at hm2
  cases hv : validB h
  ·
    have HV := Lib.hid hv; clear hv
    go_enter Try.func7, Try.ntmps7
    go_wp2_with fail
    refine (head_any w).mono ?_
    rintro e w1 ⟨rfl, b1⟩
    have BB := b1
    clear b1
    replace hH := hH.keep BB
    go_wp2_with fail
    refine (few_at h n 0 a none cap 0 _ HN.out hH hm (by simp [maxLen])).mono ?_
    rintro e w2 ⟨y, rfl, b2⟩
    replace BB := bstep BB b2
    replace hH := hH.keep b2
    clear b2
    cases y
    ·
      go_wp2_with fail
      refine (rvalid_at h n a cap false w2 HN.out hH hm HV.out).mono ?_
      rintro e w3 ⟨rfl, b3⟩
      replace BB := bstep BB b3
      clear b3
      go_wp2_with fail
      go_ret
      exact ⟨rfl, BB⟩
    ·
      go_wp2_with fail
      refine (rvalid_at h n a cap false w2 HN.out hH hm HV.out).mono ?_
      rintro e w3 ⟨rfl, b3⟩
      replace BB := bstep BB b3
      clear b3
      go_wp2_with fail
      go_ret
      exact ⟨rfl, BB⟩
  ·
    have hV := valid_of hv
    have HV := Lib.hid hv; have HVD := Lib.hid hV
    have h60 : n ≤ 60 := by rw [HN.out]; exact hV.1
    clear hv hV
    have I := ref_isle HVD.out
    obtain ⟨o, ho⟩ : ∃ o, mround h (startI h) h.length = o := ⟨_, rfl⟩
    rw [ho] at I
    have hol : o.length = n := by rw [I.len, HN.out]
    have II := Lib.hid I; have HOL := Lib.hid hol
    clear I hol ho
    go_enter Try.func7, Try.ntmps7
    go_wp2_with fail
    refine (head_any w).mono ?_
    rintro e w1 ⟨rfl, b1⟩
    have BB := b1
    clear b1
    replace hH := hH.keep BB
    go_wp2_with fail
    refine (few_at h n 0 a none cap 0 _ HN.out hH hm (by simp [maxLen])).mono ?_
    rintro e w2 ⟨y, rfl, b2⟩
    replace BB := bstep BB b2
    replace hH := hH.keep b2
    clear b2
    cases y
    ·
      go_wp2_with fail
      refine (rvalid_at h n a cap true w2 HN.out hH hm HV.out).mono ?_
      rintro e w3 ⟨rfl, b3⟩
      replace hH := hH.keep b3
      replace BB := bstep BB b3
      clear b3
      go_wp2_with fail
      go_ret
      exact ⟨rfl, BB⟩
    ·
      go_wp2_with fail
      refine (rvalid_at h n a cap true w2 HN.out hH hm HV.out).mono ?_
      rintro e w3 ⟨rfl, b3⟩
      replace hH := hH.keep b3
      replace BB := bstep BB b3
      clear b3
      go_wp2_with fail
      refine (isles_at h n a cap w3 HN.out hH hm o 0 (.inl ⟨HV.out, isle_eq HVD.out II.out, rfl⟩)).mono ?_
      rintro e w4 ⟨al, cl, rfl, hl, _, _, b4⟩
      replace hH := hH.keep b4
      replace BB := bstep BB b4
      clear b4
      rw [HOL.out]
      go_wp2_with fail
      go_loopw [3, 8] (fun u j wr => ∃ k : Nat, k ≤ n ∧ j = .int .i64 k ∧ u = .bool true ∧ Below w.heap.size w wr ∧ IntsAt .i64 wr al o ∧ TabAt wr a h) (fun _ j _ => n - (intOf j).toNat)
      case atStart => exact ⟨0, Nat.zero_le _, rfl, rfl, BB, hl, hH⟩
      case round =>
        clear BB hl hH
        obtain ⟨i, hin, rfl, rfl, BB, hl, hH⟩ := hrel
        by_cases hlt : i < n
        · have hi' : (i : Int) < (n : Int) := by omega
          have hi0 : (0 : Int) ≤ (i : Int) := by omega
          have D := ref_depth HVD.out (root := i) (by rw [← HN.out]; exact hlt)
          obtain ⟨d, hd⟩ : ∃ d, levelTo h (startD h i) (h.length - 1) = d := ⟨_, rfl⟩
          rw [hd] at D
          have hdl : d.length = n := by rw [D.len, HN.out]
          have DD := Lib.hid D; have HDL := Lib.hid hdl
          clear D hd hdl
          go_wp2_with fail
          refine (depths_at h n a cap i wr HN.out hH hm d 0 (.inl ⟨okD_true HVD.out (by rw [← HN.out]; exact hlt), by rw [Int.toNat_natCast]; exact depth_eq HVD.out DD.out, rfl⟩)).mono ?_
          rintro e w61 ⟨ad, cd, rfl, hd, _, _, b61⟩
          replace hl := hl.keep b61
          replace hH := hH.keep b61
          replace BB := bstep BB b61
          clear b61
          rw [HDL.out]
          obtain ⟨b1, o1, ha1, hc⟩ := ints_at hl (i := i) (by rw [HOL.out]; exact hlt)
          have ci : w61.cell? ⟨b1, o1 + i, none⟩ = some (.int .i64 (at' o i)) := hc i (by rw [HOL.out]; exact hlt)
          have hx := II.out.rng i (by rw [← HN.out]; exact hlt)
          obtain ⟨x, hxe⟩ : ∃ x : Nat, at' o i = x := ⟨(at' o i).toNat, by omega⟩
          rw [hxe] at ci hx
          have hxn : x < n := by omega
          have cx : w61.cell? ⟨b1, o1 + x, none⟩ = some (.int .i64 (at' o x)) := hc x (by rw [HOL.out]; exact hxn)
          have hxx : at' o x = x := by
            have := II.out.same (II.out.conn i (by rw [← HN.out]; exact hlt)) (by rw [← HN.out]; exact hlt)
            rw [hxe, Int.toNat_natCast] at this; exact this.symm
          rw [hxx] at cx
          have kci := cell_regrown ci; have kcx := cell_regrown cx
          have hx1 : (x : Int) < (n : Int) := by omega
          have hx0 : (0 : Int) ≤ (x : Int) := by omega
          have e1 : decide ((x : Int) < 0) = false := by simp
          have e2 : decide ((i : Int) < (x : Int)) = false := by simp; omega
          have e3 : decide (i < x) = false := by simp; omega
          have HXE := Lib.hid hxe
          clear hx hxe hxx hc
          subst ha1
          go_wp2_with fail
          refine wp_region_quiet_below (by kernel_rfl) (by kernel_rfl) ?_
          repeat (go_big_quiet_step (fail))
          refine wpQuiet_nil ?_
          intro _ hw'
          obtain ⟨⟨dq, osq⟩, hw''⟩ := hw'
          subst hw''
          have bq := below_regrown w61 dq osq
          replace BB := bstep BB bq
          replace hl := hl.keep bq; replace hH := hH.keep bq; replace hd := hd.keep bq
          obtain ⟨WW, hWW⟩ : ∃ W, grow (redrawn w61 dq) osq = W := ⟨_, rfl⟩
          rw [hWW] at BB hl hH hd ⊢
          clear hWW bq dq osq ci cx kci kcx e1 e2 e3
          go_wp2_with fail
          go_loopw [3, 11] (fun u j wz => ∃ k : Nat, k ≤ n ∧ j = .int .i64 k ∧ u = .bool true ∧ Below w.heap.size w wz ∧ IntsAt .i64 wz (some ⟨b1, o1, none⟩) o ∧ TabAt wz a h ∧ IntsAt .i64 wz ad d) (fun _ j _ => n - (intOf j).toNat)
          case atStart => exact ⟨0, Nat.zero_le _, rfl, rfl, BB, hl, hH, hd⟩
          case round =>
            clear BB hl hH hd
            obtain ⟨k, hkn, rfl, rfl, BB, hl, hH, hd⟩ := hrel
            by_cases hlt2 : k < n
            · have hk' : (k : Int) < (n : Int) := by omega
              have hk0 : (0 : Int) ≤ (k : Int) := by omega
              obtain ⟨b2, o2, ha2, hc2⟩ := ints_at hl (i := i) (by rw [HOL.out]; exact hlt)
              obtain ⟨rfl, rfl⟩ : b1 = b2 ∧ o1 = o2 := by simpa using ha2
              have ci : wr.cell? ⟨b1, o1 + i, none⟩ = some (.int .i64 (at' o i)) := hc2 i (by rw [HOL.out]; exact hlt)
              have ck : wr.cell? ⟨b1, o1 + k, none⟩ = some (.int .i64 (at' o k)) := hc2 k (by rw [HOL.out]; exact hlt2)
              obtain ⟨b3, o3, ha3, hc3⟩ := ints_at hd (i := k) (by rw [HDL.out]; exact hlt2)
              have dk : wr.cell? ⟨b3, o3 + k, none⟩ = some (.int .i64 (at' d k)) := hc3 k (by rw [HDL.out]; exact hlt2)
              have hiff : (at' o i == at' o k) = decide (0 ≤ at' d k) := by
                rw [Bool.eq_iff_iff, beq_iff_eq, decide_eq_true_eq, II.out.iff HVD.out (by rw [← HN.out]; exact hlt) (by rw [← HN.out]; exact hlt2), depth_conn HVD.out (by rw [← HN.out]; exact hlt) DD.out (by rw [← HN.out]; exact hlt2)]
              obtain ⟨x1, hx1⟩ : ∃ x1, at' o i = x1 := ⟨_, rfl⟩
              obtain ⟨z1, hz1⟩ : ∃ z1, at' o k = z1 := ⟨_, rfl⟩
              obtain ⟨y1, hy1⟩ : ∃ y1, at' d k = y1 := ⟨_, rfl⟩
              rw [hx1] at ci hiff; rw [hz1] at ck hiff; rw [hy1] at dk hiff
              obtain ⟨v, hv⟩ : ∃ v, decide (0 ≤ y1) = v := ⟨_, rfl⟩
              rw [hv] at hiff
              have kci := cell_regrown ci; have kck := cell_regrown ck; have kdk := cell_regrown dk
              clear hc2 hc3 hx1 hz1 hy1 ha2
              subst ha3
              go_wp2_with fail
              refine wp_region_quiet_below (by kernel_rfl) (by kernel_rfl) ?_
              repeat (go_big_quiet_step (fail))
              refine wpQuiet_nil ?_
              intro _ hw'
              obtain ⟨⟨dq, osq⟩, hw''⟩ := hw'
              subst hw''
              have bq := below_regrown wr dq osq
              go_wp2_with fail
              go_roundw
              case rel => exact ⟨k + 1, by omega, by go_num, by first | rfl | simp, bstep BB bq, hl.keep bq, hH.keep bq, hd.keep bq⟩
              case measure => simp [intOf]; omega
            · have hlt3 : ¬ (k : Int) < (n : Int) := by omega
              clear hlt2
              go_wp2_with fail
              go_roundw
              case rel => exact ⟨i + 1, by omega, by go_num, by first | rfl | simp, BB, hl, hH⟩
              case measure => simp [intOf]; omega
        · have hlt3 : ¬ (i : Int) < (n : Int) := by omega
          go_wp2_with fail
          go_ret
          exact ⟨rfl, BB⟩
end Go.Proofs.Ytkomgjkeikaigaa
