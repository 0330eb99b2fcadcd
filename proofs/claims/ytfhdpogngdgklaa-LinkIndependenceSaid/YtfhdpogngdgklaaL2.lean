/- Proved: what the reference Valid returns: whether a list of links is valid. Conditions: the list lies in memory. (Printed by genL2.py.) -/
import Derived.Test.YtfhdpogngdgklaaL1
namespace Go.Proofs.Ytfhdpogngdgklaa
open Go.RowKit Go.Sort Go.BigFrame
set_option linter.unusedVariables false
set_option linter.unusedSimpArgs false
attribute [local go_sem] cell_alloc_old

set_option maxRecDepth 100000 in
set_option maxHeartbeats 4000000 in
theorem rvalid_any (a : Option Addr) (cap : Nat) (ls : List Lk) (w : World) (hl : LkAt w a ls) (hm : ls.length ≤ maxLen) :
    Calls Try.prog 15 #[.slice a ls.length cap] w fun e w' => e = .returned (.bool (validV ls)) ∧ Below w.heap.size w w' := by
  unfold maxLen at hm
  obtain ⟨n, hn⟩ : ∃ n, n = ls.length := ⟨_, rfl⟩
  unfold validV
  rw [← hn] at hm ⊢
  have HN := Lib.hid hn; clear hn
  go_enter Try.func15, Try.ntmps15
  go_wp2_with fail
  go_loopw [3] (fun i wr => ∃ k : Nat, k ≤ n ∧ i = .int .i64 k ∧ okTo ls k = true ∧ Below w.heap.size w wr) (fun i _ => n - (intOf i).toNat)
  case atStart => exact ⟨0, Nat.zero_le _, rfl, rfl, Below.refl _ _⟩
  case round =>
    obtain ⟨k, hk, rfl, hok, hB⟩ := hrel
    by_cases hlt : k < n
    · have hlt' : (k : Int) < (n : Int) := by omega
      have hk0 : (0 : Int) ≤ (k : Int) := by omega
      obtain ⟨b, off, rfl, hc⟩ := hl.at (i := k) (by rw [← HN.out]; exact hlt)
      have hc1 := hc k (by rw [← HN.out]; exact hlt)
      obtain ⟨c0, c1, c2⟩ := hc1
      have d0 := keep1 hB c0
      have d1 := keep1 hB c1
      have d2 := keep1 hB c2
      obtain ⟨x, hx⟩ : ∃ x, ls.getD k default = x := ⟨_, rfl⟩
      rw [hx] at d0 d1 d2
      clear c0 c1 c2
      have BW : Below w.heap.size w (wr.alloc (.cells #[.int .i64 x.p, .int .i64 x.s, .int .i64 x.g] 32)) := ball hB _
      have e0 : (wr.alloc (.cells #[.int .i64 x.p, .int .i64 x.s, .int .i64 x.g] 32)).cell? ⟨wr.heap.size, 0, none⟩ = some (.int .i64 x.p) := new0 rfl rfl
      have e1 : (wr.alloc (.cells #[.int .i64 x.p, .int .i64 x.s, .int .i64 x.g] 32)).cell? ⟨wr.heap.size, 1, none⟩ = some (.int .i64 x.s) := new0 rfl rfl
      have e2 : (wr.alloc (.cells #[.int .i64 x.p, .int .i64 x.s, .int .i64 x.g] 32)).cell? ⟨wr.heap.size, 2, none⟩ = some (.int .i64 x.g) := new0 rfl rfl
      have hprev : ∀ q : Nat, k = q + 1 → (wr.alloc (.cells #[.int .i64 x.p, .int .i64 x.s, .int .i64 x.g] 32)).cell? ⟨b, off + q * 3, none⟩ = some (.int .i64 (ls.getD q default).p) := fun q hq =>
        old1 (keep1 hB (hc q (by have := HN.out; omega)).1) _
      have hokx : okAt ls k = (lkOk x && (decide (k = 0) || decide ((ls.getD (k - 1) default).p < x.p))) := by unfold okAt; rw [hx]
      have hsucc : okTo ls (k + 1) = okAt ls k := by rw [okTo, hok]; rfl
      have HS := Lib.hid (hsucc.trans hokx); clear hx hokx hsucc
      have fin : ∀ (y : Bool), (lkOk x && (decide (k = 0) || decide ((ls.getD (k - 1) default).p < x.p))) = y → okTo ls (k + 1) = y := fun y hy => HS.out.trans hy
      have FIN := Lib.hid fin; clear fin HS
      have done : okTo ls (k + 1) = false → okTo ls n = false := fun h => okTo_le h n (by omega)
      have DONE := Lib.hid done; clear done
      by_cases h1 : x.p < 0
      ·
        have hz := DONE.out (FIN.out false (by simp [lkOk]; omega))
        clear hprev hc hl
        go_wp2_with fail
        go_ret
        exact ⟨by simp [hz], BW⟩
      by_cases h2 : 59 < x.p
      ·
        have hz := DONE.out (FIN.out false (by simp [lkOk]; omega))
        clear hprev hc hl
        go_wp2_with fail
        go_ret
        exact ⟨by simp [hz], BW⟩
      by_cases h3 : x.s < 0
      ·
        have hz := DONE.out (FIN.out false (by simp [lkOk]; omega))
        clear hprev hc hl
        go_wp2_with fail
        go_ret
        exact ⟨by simp [hz], BW⟩
      by_cases h4 : 31 < x.s
      ·
        have hz := DONE.out (FIN.out false (by simp [lkOk]; omega))
        clear hprev hc hl
        go_wp2_with fail
        go_ret
        exact ⟨by simp [hz], BW⟩
      by_cases h5 : x.g < 0
      ·
        have hz := DONE.out (FIN.out false (by simp [lkOk]; omega))
        clear hprev hc hl
        go_wp2_with fail
        go_ret
        exact ⟨by simp [hz], BW⟩
      by_cases h6 : x.s < x.g
      ·
        have hz := DONE.out (FIN.out false (by simp [lkOk]; omega))
        clear hprev hc hl
        go_wp2_with fail
        go_ret
        exact ⟨by simp [hz], BW⟩
      go_wp2_with fail
      obtain ⟨W, hW⟩ : ∃ W, wr.alloc (.cells #[.int .i64 x.p, .int .i64 x.s, .int .i64 x.g] 32) = W := ⟨_, rfl⟩
      obtain ⟨g, hg⟩ : ∃ g, wr.heap.size = g := ⟨_, rfl⟩
      rw [hW] at BW e0 e1 e2 hprev ⊢
      rw [hg] at e0 e1 e2 ⊢
      clear hW hg d0 d1 d2 hB hc hl
      by_cases hk : k = 0
      · subst hk
        clear hprev
        have ke0 := cell_regrown e0; have ke1 := cell_regrown e1; have ke2 := cell_regrown e2
        refine wp_region_quiet_below (by kernel_rfl) (by kernel_rfl) ?_
        repeat (go_big_quiet_step (fail))
        refine wpQuiet_nil ?_
        intro _ hw'
        obtain ⟨⟨dq, osq⟩, hw''⟩ := hw'
        subst hw''
        go_wp2_with fail
        have hz := FIN.out true (by simp [lkOk]; omega)
        go_roundw
        case rel => exact ⟨0 + 1, by omega, by go_num, hz, bstep BW (below_regrown _ dq osq)⟩
        case measure => simp [intOf]; omega
      obtain ⟨q, hkq⟩ : ∃ q, k = q + 1 := ⟨k - 1, by omega⟩
      have p0 := hprev q hkq
      have kp0 := cell_regrown p0
      have hqe : (k : Int) - 1 = (q : Int) := by omega
      have hq0 : (0 : Int) ≤ (q : Int) := by omega
      have hqn : (q : Int) < (n : Int) := by omega
      have hkp : (0 : Int) < (k : Int) := by omega
      rw [show k - 1 = q from by omega] at FIN
      clear hprev hk
      obtain ⟨y, hy⟩ : ∃ y, (ls.getD q default).p = y := ⟨_, rfl⟩
      rw [hy] at p0 kp0 FIN
      clear hy
      cases hP : decide (x.p ≤ y)
      case true =>
        have hP2 : x.p ≤ y := of_decide_eq_true hP
        have ke0 := cell_regrown e0; have ke1 := cell_regrown e1; have ke2 := cell_regrown e2
        refine wp_region_quiet_below (by kernel_rfl) (by kernel_rfl) ?_
        repeat (go_big_quiet_step (fail))
        refine wpQuiet_nil ?_
        intro _ hw'
        obtain ⟨⟨dq, osq⟩, hw''⟩ := hw'
        subst hw''
        go_wp2_with fail
        have hz := DONE.out (FIN.out false (by simp [lkOk]; omega))
        go_ret
        exact ⟨by simp [hz], bstep BW (below_regrown _ dq osq)⟩
      have hP2 : ¬ x.p ≤ y := of_decide_eq_false hP
      have ke0 := cell_regrown e0; have ke1 := cell_regrown e1; have ke2 := cell_regrown e2
      refine wp_region_quiet_below (by kernel_rfl) (by kernel_rfl) ?_
      repeat (go_big_quiet_step (fail))
      refine wpQuiet_nil ?_
      intro _ hw'
      obtain ⟨⟨dq, osq⟩, hw''⟩ := hw'
      subst hw''
      go_wp2_with fail
      have hz := FIN.out true (by simp [lkOk]; omega)
      go_roundw
      case rel => exact ⟨k + 1, by omega, by go_num, hz, bstep BW (below_regrown _ dq osq)⟩
      case measure => simp [intOf]; omega
    · have hkn : n = k := by omega
      subst hkn
      go_wp2_with fail
      go_ret
      exact ⟨by simp [hok], hB⟩
end Go.Proofs.Ytfhdpogngdgklaa
