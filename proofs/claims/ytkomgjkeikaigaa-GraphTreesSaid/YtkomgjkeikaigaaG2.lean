/- Proved: what the comparisons of lists, pick and few of the graph statements return. Conditions: the lists lie in memory. -/
import Derived.Test.YtkomgjkeikaigaaG1
namespace Go.Proofs.Ytkomgjkeikaigaa
open Go.RowKit Go.Sort Go.BigFrame
set_option linter.unusedVariables false
set_option linter.unusedSimpArgs false
attribute [local go_sem] cell_alloc_old
theorem list_eq {α : Type} (d : α) {l m : List α} (hl : l.length = m.length) (h : ∀ j, j < l.length → l.getD j d = m.getD j d) : l = m := by
  refine List.ext_getElem hl fun j h1 h2 => ?_
  have := h j h1
  rw [List.getD_eq_getElem?_getD, List.getD_eq_getElem?_getD, List.getElem?_eq_getElem h1, List.getElem?_eq_getElem h2] at this
  exact this

set_option maxRecDepth 100000 in
set_option maxHeartbeats 1000000 in
theorem ints_eq_at (l m : List Int) (n q : Nat) (a b : Option Addr) (cap cap2 : Nat) (y : Bool) (w : World) (hn : n = l.length) (hq : q = m.length) (hl : IntsAt .i64 w a l) (hk : IntsAt .i64 w b m) (hm : n ≤ maxLen) (hy : decide (l = m) = y) : Calls Try.prog 16 #[.slice a n cap, .slice b q cap2] w (Yes y w) := by
  unfold maxLen at hm
  have HN := Lib.hid hn; have HQ := Lib.hid hq; have HY := Lib.hid hy; clear hn hq hy
  by_cases hnq : n = q
  · subst hnq
    go_enter Try.func16, Try.ntmps16
    go_wp2_with fail
    go_loopw [5] (fun j wr => ∃ k : Nat, k ≤ n ∧ j = .int .i64 k ∧ (∀ j, j < k → l.getD j 0 = m.getD j 0) ∧ Below w.heap.size w wr) (fun j _ => n - (intOf j).toNat)
    case atStart => exact ⟨0, Nat.zero_le _, rfl, fun j hj => absurd hj (Nat.not_lt_zero _), Below.refl _ _⟩
    case round =>
      obtain ⟨k, hkn, rfl, hf, BB⟩ := hrel
      have HF := Lib.hid hf; clear hf
      by_cases hlt : k < n
      · have hlt' : (k : Int) < (n : Int) := by omega
        have hk0 : (0 : Int) ≤ (k : Int) := by omega
        obtain ⟨b1, off1, rfl, hc⟩ := ints_at hl (i := k) (by rw [← HN.out]; exact hlt)
        obtain ⟨b2, off2, rfl, he⟩ := ints_at hk (i := k) (by rw [← HQ.out]; exact hlt)
        have c := keep1 BB (hc k (by rw [← HN.out]; exact hlt))
        have e := keep1 BB (he k (by rw [← HQ.out]; exact hlt))
        have kc := cell_regrown c; have ke := cell_regrown e
        obtain ⟨z, hz⟩ : ∃ z, l.getD k 0 = z := ⟨_, rfl⟩
        obtain ⟨x, hx⟩ : ∃ x, m.getD k 0 = x := ⟨_, rfl⟩
        rw [hz] at c kc; rw [hx] at e ke
        have HZ := Lib.hid hz; have HX := Lib.hid hx
        clear hz hx hc he hl hk
        by_cases hg : z = x
        · have hgb : (z == x) = true := by simp [hg]
          have hgn : (z != x) = false := by simp [hg]
          have HG := Lib.hid hg; clear hg
          go_wp2_with fail
          refine wp_region_quiet_below (by kernel_rfl) (by kernel_rfl) ?_
          repeat (go_big_quiet_step (fail))
          refine wpQuiet_nil ?_
          intro _ hw'
          obtain ⟨⟨dq, osq⟩, hw''⟩ := hw'
          subst hw''
          go_wp2_with fail
          go_roundw
          case rel =>
            refine ⟨k + 1, by omega, by go_num, fun j hj => ?_, bstep BB (below_regrown _ dq osq)⟩
            rcases Nat.lt_or_ge j k with h1 | h1
            · exact HF.out j h1
            · rw [show j = k by omega, HZ.out, HX.out, HG.out]
          case measure => simp [intOf]; omega
        · have hgb : (z == x) = false := by simp [hg]
          have hgn : (z != x) = true := by simp [hg]
          have HG := Lib.hid hg; clear hg
          go_wp2_with fail
          refine wp_region_quiet_below (by kernel_rfl) (by kernel_rfl) ?_
          repeat (go_big_quiet_step (fail))
          refine wpQuiet_nil ?_
          intro _ hw'
          obtain ⟨⟨dq, osq⟩, hw''⟩ := hw'
          subst hw''
          go_wp2_with fail
          go_ret
          refine ⟨?_, bstep BB (below_regrown _ dq osq)⟩
          rw [← HY.out, decide_eq_false (fun h => HG.out (by rw [← HZ.out, ← HX.out, h]))]; rfl
      · have hkn : n = k := by omega
        subst hkn
        go_wp2_with fail
        go_ret
        refine ⟨?_, BB⟩
        rw [← HY.out, decide_eq_true (list_eq 0 (by rw [← HN.out, ← HQ.out]) (fun j hj => HF.out j (by rw [HN.out]; exact hj)))]; rfl
  · have hb1 : ((n : Int) == (q : Int)) = false := by simp; omega
    have hb2 : ((n : Int) != (q : Int)) = true := by simp; omega
    go_enter Try.func16, Try.ntmps16
    go_wp2_with fail
    go_ret
    refine ⟨?_, Below.refl _ _⟩
    rw [← HY.out, decide_eq_false (fun h => hnq (by rw [HN.out, HQ.out, h]))]; rfl

set_option maxRecDepth 100000 in
set_option maxHeartbeats 1000000 in
theorem bools_eq_at (l m : List Bool) (n q : Nat) (a b : Option Addr) (cap cap2 : Nat) (y : Bool) (w : World) (hn : n = l.length) (hq : q = m.length) (hl : BoolsAt w a l) (hk : BoolsAt w b m) (hm : n ≤ maxLen) (hy : decide (l = m) = y) : Calls Try.prog 19 #[.slice a n cap, .slice b q cap2] w (Yes y w) := by
  unfold maxLen at hm
  have HN := Lib.hid hn; have HQ := Lib.hid hq; have HY := Lib.hid hy; clear hn hq hy
  by_cases hnq : n = q
  · subst hnq
    go_enter Try.func19, Try.ntmps19
    go_wp2_with fail
    go_loopw [5] (fun j wr => ∃ k : Nat, k ≤ n ∧ j = .int .i64 k ∧ (∀ j, j < k → l.getD j false = m.getD j false) ∧ Below w.heap.size w wr) (fun j _ => n - (intOf j).toNat)
    case atStart => exact ⟨0, Nat.zero_le _, rfl, fun j hj => absurd hj (Nat.not_lt_zero _), Below.refl _ _⟩
    case round =>
      obtain ⟨k, hkn, rfl, hf, BB⟩ := hrel
      have HF := Lib.hid hf; clear hf
      by_cases hlt : k < n
      · have hlt' : (k : Int) < (n : Int) := by omega
        have hk0 : (0 : Int) ≤ (k : Int) := by omega
        obtain ⟨b1, off1, rfl, hc⟩ := bools_at hl (i := k) (by rw [← HN.out]; exact hlt)
        obtain ⟨b2, off2, rfl, he⟩ := bools_at hk (i := k) (by rw [← HQ.out]; exact hlt)
        have c := keep1 BB (hc k (by rw [← HN.out]; exact hlt))
        have e := keep1 BB (he k (by rw [← HQ.out]; exact hlt))
        have kc := cell_regrown c; have ke := cell_regrown e
        obtain ⟨z, hz⟩ : ∃ z, l.getD k false = z := ⟨_, rfl⟩
        obtain ⟨x, hx⟩ : ∃ x, m.getD k false = x := ⟨_, rfl⟩
        rw [hz] at c kc; rw [hx] at e ke
        have HZ := Lib.hid hz; have HX := Lib.hid hx
        clear hz hx hc he hl hk
        by_cases hg : z = x
        · have hgb : (z == x) = true := by simp [hg]
          have hgn : (z != x) = false := by simp [hg]
          have HG := Lib.hid hg; clear hg
          go_wp2_with fail
          refine wp_region_quiet_below (by kernel_rfl) (by kernel_rfl) ?_
          repeat (go_big_quiet_step (fail))
          refine wpQuiet_nil ?_
          intro _ hw'
          obtain ⟨⟨dq, osq⟩, hw''⟩ := hw'
          subst hw''
          go_wp2_with fail
          go_roundw
          case rel =>
            refine ⟨k + 1, by omega, by go_num, fun j hj => ?_, bstep BB (below_regrown _ dq osq)⟩
            rcases Nat.lt_or_ge j k with h1 | h1
            · exact HF.out j h1
            · rw [show j = k by omega, HZ.out, HX.out, HG.out]
          case measure => simp [intOf]; omega
        · have hgb : (z == x) = false := by simp [hg]
          have hgn : (z != x) = true := by simp [hg]
          have HG := Lib.hid hg; clear hg
          go_wp2_with fail
          refine wp_region_quiet_below (by kernel_rfl) (by kernel_rfl) ?_
          repeat (go_big_quiet_step (fail))
          refine wpQuiet_nil ?_
          intro _ hw'
          obtain ⟨⟨dq, osq⟩, hw''⟩ := hw'
          subst hw''
          go_wp2_with fail
          go_ret
          refine ⟨?_, bstep BB (below_regrown _ dq osq)⟩
          rw [← HY.out, decide_eq_false (fun h => HG.out (by rw [← HZ.out, ← HX.out, h]))]; rfl
      · have hkn : n = k := by omega
        subst hkn
        go_wp2_with fail
        go_ret
        refine ⟨?_, BB⟩
        rw [← HY.out, decide_eq_true (list_eq false (by rw [← HN.out, ← HQ.out]) (fun j hj => HF.out j (by rw [HN.out]; exact hj)))]; rfl
  · have hb1 : ((n : Int) == (q : Int)) = false := by simp; omega
    have hb2 : ((n : Int) != (q : Int)) = true := by simp; omega
    go_enter Try.func19, Try.ntmps19
    go_wp2_with fail
    go_ret
    refine ⟨?_, Below.refl _ _⟩
    rw [← HY.out, decide_eq_false (fun h => hnq (by rw [HN.out, HQ.out, h]))]; rfl

def SomeYes (w : World) (e : Ending) (w' : World) : Prop := ∃ y : Bool, e = .returned (.bool y) ∧ Below w.heap.size w w'
def pickV (c : Int) (n : Nat) : Nat := ((if c < 0 then -(c + 1) else c) % (n : Int)).toNat
theorem pick_lt (c : Int) {n : Nat} (hn : 0 < n) : pickV c n < n := by
  unfold pickV
  have := Int.emod_lt_of_pos (if c < 0 then -(c + 1) else c) (b := (n : Int)) (by omega)
  have := Int.emod_nonneg (if c < 0 then -(c + 1) else c) (b := (n : Int)) (by omega)
  omega
theorem pick_at (c : Int) (n m : Nat) (w : World) (hn : 0 < n) (hb : -9223372036854775808 ≤ c) (hb' : c ≤ 9223372036854775807) (h63 : n ≤ maxLen) (hm : pickV c n = m) : Calls Try.prog 26 #[.int .i64 c, .int .i64 n] w (Gives (.int .i64 m) w) := by
  have hmv : (m : Int) = (if c < 0 then -(c + 1) else c) % (n : Int) := by
    rw [← hm]; unfold pickV
    have := Int.emod_nonneg (if c < 0 then -(c + 1) else c) (b := (n : Int)) (by omega)
    omega
  have HM := Lib.hid hmv; clear hmv hm
  unfold maxLen at h63
  have hn0 : ¬ (n : Int) = 0 := by omega
  have hn1 : ((n : Int) == 0) = false := by simp; omega
  have hn2 : ¬ (n : Int) = -1 := by omega
  have hn3 : ¬ n = 0 := by omega
  by_cases h0 : c < 0
  · have e : (-(c + 1)).tmod (n : Int) = m := by rw [HM.out, if_pos h0, Int.tmod_eq_emod_of_nonneg (by omega)]
    have mb : (m : Int) < n := by rw [HM.out]; exact Int.emod_lt_of_pos _ (by omega)
    have w1 : IntKind.i64.wrap (c + 1) = c + 1 := IntWalk.i64_in _ (by omega)
    have w2 : IntKind.i64.wrap (-(c + 1)) = -(c + 1) := IntWalk.i64_in _ (by omega)
    have w3 : IntKind.i64.wrap (m : Int) = m := IntWalk.i64_in _ (by omega)
    go_enter Try.func26, Try.ntmps26
    go_wp2_with fail
    go_ret
    exact ⟨by first | rfl | (simp [*]; done), Below.refl _ _⟩
  · have e : c.tmod (n : Int) = m := by rw [HM.out, if_neg h0, Int.tmod_eq_emod_of_nonneg (by omega)]
    have mb : (m : Int) < n := by rw [HM.out]; exact Int.emod_lt_of_pos _ (by omega)
    have w3 : IntKind.i64.wrap (m : Int) = m := IntWalk.i64_in _ (by omega)
    go_enter Try.func26, Try.ntmps26
    go_wp2_with fail
    go_ret
    exact ⟨by first | rfl | (simp [*]; done), Below.refl _ _⟩
set_option maxRecDepth 100000 in
set_option maxHeartbeats 1000000 in
theorem few_at (h : Tab) (n k : Nat) (a b : Option Addr) (cap cap2 : Nat) (w : World) (hn : n = h.length) (hl : TabAt w a h) (hm : n ≤ maxLen) (hk : k ≤ maxLen) : Calls Try.prog 11 #[.slice a n cap, .slice b k cap2] w (SomeYes w) := by
  unfold maxLen at hm hk
  have HN := Lib.hid hn; clear hn
  go_enter Try.func11, Try.ntmps11
  go_wp2_with fail
  go_loopw [5] (fun j wr => ∃ k : Nat, k ≤ n ∧ k ≤ 70 ∧ j = .int .i64 k ∧ Below w.heap.size w wr) (fun j _ => n - (intOf j).toNat)
  case atStart => exact ⟨0, Nat.zero_le _, by omega, rfl, Below.refl _ _⟩
  case round =>
    obtain ⟨i, hin, hi70, rfl, BB⟩ := hrel
    by_cases hlt : i < n ∧ i < 70
    · have hlt' : (i : Int) < (n : Int) := by omega
      have hlt2 : (i : Int) < 70 := by omega
      have hk0 : (0 : Int) ≤ (i : Int) := by omega
      obtain ⟨b1, off1, rfl, hc⟩ := tab_at hl (i := i) (by rw [← HN.out]; exact hlt.1)
      obtain ⟨ra, rc, c, _, hr⟩ := hc i (by rw [← HN.out]; exact hlt.1)
      replace c := keep1 BB c
      obtain ⟨m, hmm⟩ : ∃ m, (h.getD i []).length = m := ⟨_, rfl⟩
      rw [hmm] at c hr
      unfold maxLen at hr
      clear hc hl hmm hlt
      by_cases h70 : (70 : Int) < (m : Int)
      · go_wp2_with fail
        go_ret
        exact ⟨_, rfl, BB⟩
      · go_wp2_with fail
        go_roundw
        case rel => exact ⟨i + 1, by omega, by omega, by go_num, BB⟩
        case measure => simp [intOf]; omega
    · by_cases h1 : i < n
      · have h1' : (i : Int) < (n : Int) := by omega
        have h2 : ¬ (i : Int) < 70 := by omega
        clear hlt
        by_cases h3 : (n : Int) ≤ 70
        · go_wp2_with fail
          go_ret
          exact ⟨_, rfl, BB⟩
        · go_wp2_with fail
          go_ret
          exact ⟨_, rfl, BB⟩
      · have h1' : ¬ (i : Int) < (n : Int) := by omega
        clear hlt
        by_cases h3 : (n : Int) ≤ 70
        · go_wp2_with fail
          go_ret
          exact ⟨_, rfl, BB⟩
        · go_wp2_with fail
          go_ret
          exact ⟨_, rfl, BB⟩
end Go.Proofs.Ytkomgjkeikaigaa
