/- Proved: what graph.Reaches returns. Conditions: the list lies in memory. -/
import Derived.Test.YtkomgjkeikaigaaG4
namespace Go.Proofs.Ytkomgjkeikaigaa
open Go.RowKit Go.Sort Go.BigFrame
set_option linter.unusedVariables false
set_option linter.unusedSimpArgs false
attribute [local go_sem] cell_alloc_old

set_option maxRecDepth 100000 in
set_option maxHeartbeats 4000000 in
theorem reaches_at (l : List Int) (n : Nat) (a : Option Addr) (cap : Nat) (root : Int) (w : World) (hn : n = l.length) (hl : IntsAt .i64 w a l) (hm : n ≤ maxLen) : Calls Try.prog 20 #[.slice a n cap, .int .i64 root] w (BoolsPost (reachL l root) w) := by
  have hm' := hm
  unfold maxLen at hm
  have HN := Lib.hid hn; clear hn
  by_cases h60 : (60 : Int) < (n : Int)
  · have e : reachL l root = [] := by unfold reachL; rw [if_neg (by rw [← HN.out]; omega)]
    have HE := Lib.hid e; clear e
    go_enter Try.func20, Try.ntmps20
    go_wp2_with fail
    go_ret
    exact ⟨none, 0, by rw [HE.out]; rfl, by rw [HE.out]; exact .inl rfl, by rw [HE.out]; exact Nat.zero_le _, by simp [maxLen], Below.refl _ _⟩
  have h60' : l.length ≤ 60 := by rw [← HN.out]; omega
  have H60 := Lib.hid h60'
  have hmk := make_bools n (by rw [HN.out]; exact h60')
  clear h60'
  have R0 := RowB.new w n
  have B0 : Below w.heap.size w (w.alloc (.cells (Array.replicate n (.bool false)) 4)) := ball (Below.refl _ _) _
  have hsz : w.heap.size < (w.alloc (.cells (Array.replicate n (.bool false)) 4)).heap.size := by simp
  by_cases hr : inR l root
  · have h0 : 0 ≤ root := hr.1
    have h1 : root < (n : Int) := by rw [HN.out]; exact hr.2
    obtain ⟨t, rfl⟩ : ∃ t : Nat, root = t := ⟨root.toNat, by omega⟩
    have HR := Lib.hid hr; clear hr
    go_enter Try.func20, Try.ntmps20
    go_wp2_with fail
    obtain ⟨V, hV⟩ : ∃ V, w.alloc (.cells (Array.replicate n (.bool false)) 4) = V := ⟨_, rfl⟩
    rw [hV] at R0 B0 hsz ⊢
    clear hV hmk
    refine (isidx_at t n true _ (by simp; omega)).mono ?_
    rintro e w1 ⟨rfl, b1⟩
    replace R0 := R0.keep b1
    replace hsz := Nat.lt_of_lt_of_le hsz b1.size
    replace B0 := bstep B0 b1
    clear b1
    have c := R0.at (j := t) (by simp; omega)
    have f := R0.2.1 t
    go_wp2_with fail
    replace R0 := R0.set (j := t) (by simp; omega) true
    replace B0 := B0.setCell (p := ⟨w.heap.size, t, none⟩) (Nat.le_refl _) (.bool true)
    replace hsz : w.heap.size < (w1.setCell ⟨w.heap.size, t, none⟩ (.bool true)).heap.size := by simpa using hsz
    obtain ⟨V2, hV2⟩ : ∃ V2, w1.setCell ⟨w.heap.size, t, none⟩ (.bool true) = V2 := ⟨_, rfl⟩
    rw [hV2] at R0 B0 hsz ⊢
    clear hV2 c f
    have hst0 : (List.replicate n false).set t true = start l (t : Int) := by unfold start; rw [← HN.out, Int.toNat_natCast]
    rw [hst0] at R0
    clear hst0
    go_loopw [25] (fun i wr => ∃ r : Nat, r ≤ n ∧ i = .int .i64 r ∧ RowB wr w.heap.size (roundTo l (start l (t : Int)) r) ∧ Below w.heap.size w wr ∧ w.heap.size < wr.heap.size) (fun i _ => n - (intOf i).toNat)
    case atStart => exact ⟨0, Nat.zero_le _, rfl, R0, B0, hsz⟩
    case round =>
      clear R0 B0 hsz
      obtain ⟨r, hrn, rfl, R, BB, hsz⟩ := hrel
      by_cases hlt : r < n
      · have hlt' : (r : Int) < (n : Int) := by omega
        have hr0 : (0 : Int) ≤ (r : Int) := by omega
        have hnext : roundTo l (start l (t : Int)) (r + 1) = passTo l (roundTo l (start l (t : Int)) r) n := by rw [HN.out]; rfl
        have hlen : (roundTo l (start l (t : Int)) r).length = n := by rw [roundTo_len, HN.out]; simp [start]
        obtain ⟨o, ho⟩ : ∃ o, roundTo l (start l (t : Int)) r = o := ⟨_, rfl⟩
        rw [ho] at hnext hlen R
        have HNX := Lib.hid hnext; have HLO := Lib.hid hlen
        clear hnext hlen ho
        go_wp2_with fail
        go_loopw [29] (fun i wz => ∃ k : Nat, k ≤ n ∧ i = .int .i64 k ∧ RowB wz w.heap.size (passTo l o k) ∧ Below w.heap.size w wz ∧ w.heap.size < wz.heap.size) (fun i _ => n - (intOf i).toNat)
        case atStart => exact ⟨0, Nat.zero_le _, rfl, R, BB, hsz⟩
        case round =>
          clear R BB hsz
          obtain ⟨k, hk, rfl, R, BB, hsz⟩ := hrel
          by_cases hkn : k < n
          · have hkn' : (k : Int) < (n : Int) := by omega
            have hk0 : (0 : Int) ≤ (k : Int) := by omega
            have hpl : (passTo l o k).length = n := by rw [passTo_len]; exact HLO.out
            have hst : passTo l o (k + 1) = (passTo l o k).set k ((passTo l o k).getD k false || (decide (inR l (l.getD k 0)) && (passTo l o k).getD (l.getD k 0).toNat false)) := rfl
            obtain ⟨cur, hcur⟩ : ∃ cur, passTo l o k = cur := ⟨_, rfl⟩
            rw [hcur] at hpl hst R
            obtain ⟨b, off, rfl, hc⟩ := ints_at hl (i := k) (by rw [← HN.out]; exact hkn)
            have d := keep1 BB (hc k (by rw [← HN.out]; exact hkn))
            obtain ⟨p, hp⟩ : ∃ p, l.getD k 0 = p := ⟨_, rfl⟩
            rw [hp] at d hst
            have c := R.at (j := k) (by rw [hpl]; exact hkn)
            have f := R.2.1 k
            obtain ⟨x, hx⟩ : ∃ x, cur.getD k false = x := ⟨_, rfl⟩
            rw [hx] at c hst
            have HST := Lib.hid hst; have HPL := Lib.hid hpl
            clear hst hpl hcur hc hp hx
            cases x
            · by_cases hip : inR l p
              · have h2 : 0 ≤ p := hip.1
                have h3 : p < (n : Int) := by rw [HN.out]; exact hip.2
                obtain ⟨q, rfl⟩ : ∃ q : Nat, p = q := ⟨p.toNat, by omega⟩
                have HIP := Lib.hid hip; clear hip
                go_wp2_with fail
                refine (isidx_at q n true _ (by simp; omega)).mono ?_
                rintro e w2 ⟨rfl, b1⟩
                replace R := R.keep b1
                replace hsz := Nat.lt_of_lt_of_le hsz b1.size
                replace BB := bstep BB b1
                clear b1 c f d
                have c := R.at (j := k) (by rw [HPL.out]; exact hkn)
                have f := R.2.1 k
                have d := R.at (j := q) (by rw [HPL.out]; omega)
                obtain ⟨y, hy⟩ : ∃ y, cur.getD q false = y := ⟨_, rfl⟩
                rw [hy] at d
                have HY := Lib.hid hy; clear hy
                go_wp2_with fail
                go_roundw
                case rel =>
                  refine ⟨k + 1, by omega, by go_num, ?_, BB.setCell (p := ⟨_, k, none⟩) (Nat.le_refl _) _, by simpa using hsz⟩
                  rw [HST.out, decide_eq_true HIP.out, Int.toNat_natCast, HY.out]
                  exact R.set (by rw [HPL.out]; exact hkn) y
                case measure => simp [intOf]; omega
              · have h2 : (decide (0 ≤ p) && decide (p < (n : Int))) = false := by
                  rw [Bool.and_eq_false_iff]
                  by_cases h0 : 0 ≤ p
                  · right; rw [decide_eq_false_iff_not]; intro h1; exact hip ⟨h0, by rw [← HN.out]; exact h1⟩
                  · left; simpa using h0
                have H2 := Lib.hid h2
                have HIP := Lib.hid hip; clear hip h2
                go_wp2_with fail
                refine (isidx_at p n false _ H2.out).mono ?_
                rintro e w2 ⟨rfl, b1⟩
                replace R := R.keep b1
                replace hsz := Nat.lt_of_lt_of_le hsz b1.size
                replace BB := bstep BB b1
                clear b1 c f d
                have c := R.at (j := k) (by rw [HPL.out]; exact hkn)
                have f := R.2.1 k
                go_wp2_with fail
                go_roundw
                case rel =>
                  refine ⟨k + 1, by omega, by go_num, ?_, BB.setCell (p := ⟨_, k, none⟩) (Nat.le_refl _) _, by simpa using hsz⟩
                  rw [HST.out, decide_eq_false HIP.out]
                  exact R.set (by rw [HPL.out]; exact hkn) false
                case measure => simp [intOf]; omega
            · go_wp2_with fail
              go_roundw
              case rel =>
                refine ⟨k + 1, by omega, by go_num, ?_, BB.setCell (p := ⟨_, k, none⟩) (Nat.le_refl _) _, by simpa using hsz⟩
                rw [HST.out, Bool.true_or]
                exact R.set (by rw [HPL.out]; exact hkn) true
              case measure => simp [intOf]; omega
          · have hkn' : n = k := by omega
            subst hkn'
            go_wp2_with fail
            go_roundw
            case rel => exact ⟨r + 1, by omega, by go_num, by rw [HNX.out]; exact R, BB, hsz⟩
            case measure => simp [intOf]; omega
      · have hrn' : n = r := by omega
        subst hrn'
        go_wp2_with fail
        go_ret
        have e : roundTo l (start l (t : Int)) n = reachL l (t : Int) := by rw [HN.out]; exact rounds_reach HR.out H60.out
        rw [e] at R
        exact ⟨some ⟨w.heap.size, 0, none⟩, n, by rw [reachL_len H60.out, ← HN.out]; rfl, R.bools, by rw [reachL_len H60.out, ← HN.out]; exact Nat.le_refl _, hm', BB⟩
  · have e : reachL l root = List.replicate n false := by rw [HN.out]; exact reachL_out H60.out hr
    have HE := Lib.hid e; clear e
    have h2 : (decide (0 ≤ root) && decide (root < (n : Int))) = false := by
      rw [Bool.and_eq_false_iff]
      by_cases h0 : 0 ≤ root
      · right; rw [decide_eq_false_iff_not]; intro h1; exact hr ⟨h0, by rw [← HN.out]; exact h1⟩
      · left; simpa using h0
    have H2 := Lib.hid h2; clear h2 hr
    go_enter Try.func20, Try.ntmps20
    go_wp2_with fail
    obtain ⟨V, hV⟩ : ∃ V, w.alloc (.cells (Array.replicate n (.bool false)) 4) = V := ⟨_, rfl⟩
    rw [hV] at R0 B0 hsz ⊢
    clear hV hmk
    refine (isidx_at root n false _ H2.out).mono ?_
    rintro e w1 ⟨rfl, b1⟩
    replace R0 := R0.keep b1
    replace B0 := bstep B0 b1
    go_wp2_with fail
    go_ret
    exact ⟨some ⟨w.heap.size, 0, none⟩, n, by rw [HE.out]; simp, by rw [HE.out]; exact R0.bools, by rw [HE.out]; simp, hm', B0⟩
end Go.Proofs.Ytkomgjkeikaigaa
