/- Proved: what link.isValid and its reference return: whether a list of links is valid. Conditions: the list lies in memory. -/
import Derived.Test.YtfhdpogngdgklaaOwn2
import Derived.Test.YtfhdpogngdgklaaLate
import Derived.Test.YtfhdpogngdgklaaBd
namespace Go.Proofs.Ytfhdpogngdgklaa
open Go.RowKit Go.Sort Go.BigFrame
set_option linter.unusedVariables false
set_option linter.unusedSimpArgs false
attribute [local go_sem] cell_alloc_old

/-- A link: the peer, the frames sent, the good ones. -/
structure Lk where
  p : Int
  s : Int
  g : Int
deriving DecidableEq, Inhabited
abbrev Lk.cells (x : Lk) : List Value := [.int .i64 x.p, .int .i64 x.s, .int .i64 x.g]
def LkAt (w : World) (a : Option Addr) (ls : List Lk) : Prop :=
  ls = [] ∨ ∃ b off, a = some ⟨b, off, none⟩ ∧ ∀ i, i < ls.length → w.cell? ⟨b, off + i * 3, none⟩ = some (.int .i64 (ls.getD i default).p) ∧
    w.cell? ⟨b, off + i * 3 + 1, none⟩ = some (.int .i64 (ls.getD i default).s) ∧ w.cell? ⟨b, off + i * 3 + 2, none⟩ = some (.int .i64 (ls.getD i default).g)
theorem LkAt.keep {w w' : World} {a : Option Addr} {ls : List Lk} (h : LkAt w a ls) (hb : Below w.heap.size w w') : LkAt w' a ls := by
  rcases h with h | ⟨b, off, ha, h⟩
  · exact .inl h
  · exact .inr ⟨b, off, ha, fun i hi => ⟨keep1 hb (h i hi).1, keep1 hb (h i hi).2.1, keep1 hb (h i hi).2.2⟩⟩
theorem LkAt.at {w : World} {a : Option Addr} {ls : List Lk} (h : LkAt w a ls) {i : Nat} (hi : i < ls.length) :
    ∃ b off, a = some ⟨b, off, none⟩ ∧ ∀ i, i < ls.length → w.cell? ⟨b, off + i * 3, none⟩ = some (.int .i64 (ls.getD i default).p) ∧
    w.cell? ⟨b, off + i * 3 + 1, none⟩ = some (.int .i64 (ls.getD i default).s) ∧ w.cell? ⟨b, off + i * 3 + 2, none⟩ = some (.int .i64 (ls.getD i default).g) := by
  rcases h with rfl | h
  · simp at hi
  · exact h

def lkOk (x : Lk) : Bool := decide (0 ≤ x.p) && decide (x.p ≤ 59) && decide (0 ≤ x.s) && decide (x.s ≤ 31) && decide (0 ≤ x.g) && decide (x.g ≤ x.s)
def okAt (ls : List Lk) (i : Nat) : Bool := lkOk (ls.getD i default) && (decide (i = 0) || decide ((ls.getD (i - 1) default).p < (ls.getD i default).p))
def okTo (ls : List Lk) : Nat → Bool
  | 0 => true
  | k + 1 => okTo ls k && okAt ls k
def validV (ls : List Lk) : Bool := okTo ls ls.length
theorem okTo_le {ls : List Lk} {k : Nat} (h : okTo ls k = false) : ∀ n, k ≤ n → okTo ls n = false
  | 0, hn => by have : k = 0 := by omega
                subst this; exact h
  | n + 1, hn => by
    rcases Nat.lt_or_ge n k with h1 | h1
    · have : k = n + 1 := by omega
      subst this; exact h
    · rw [okTo, okTo_le h n h1]; rfl

theorem in_any (n h : Int) (w : World) : Calls Try.prog 23 #[.int .i64 n, .int .i64 h] w fun e w' => e = .returned (.bool (decide (0 ≤ n) && decide (n ≤ h))) ∧ w = w' := by
  by_cases h0 : 0 ≤ n
  · go_enter Try.func23, Try.ntmps23
    go_wp2
    go_ret
    exact ⟨by simp [h0], rfl⟩
  · go_enter Try.func23, Try.ntmps23
    go_wp2
    go_ret
    exact ⟨by simp; omega, rfl⟩
theorem in_at (n h : Int) (b : Bool) (w : World) (hb : (decide (0 ≤ n) && decide (n ≤ h)) = b) : Calls Try.prog 23 #[.int .i64 n, .int .i64 h] w fun e w' => e = .returned (.bool b) ∧ w = w' := by
  rw [← hb]; exact in_any n h w
theorem peer_at (n : Int) (b : Bool) (w : World) (hb : (decide (0 ≤ n) && decide (n ≤ 59)) = b) : Calls Try.prog 19 #[.int .i64 n] w fun e w' => e = .returned (.bool b) ∧ w = w' := by
  go_enter Try.func19, Try.ntmps19
  go_wp2_with fail
  refine (in_at n 59 b _ hb).mono ?_
  rintro e w1 ⟨rfl, rfl⟩
  go_wp2
  go_ret
  exact ⟨rfl, rfl⟩

set_option maxRecDepth 100000 in
set_option maxHeartbeats 4000000 in
theorem valid_any (a : Option Addr) (cap : Nat) (ls : List Lk) (w : World) (hl : LkAt w a ls) (hm : ls.length ≤ maxLen) :
    Calls Try.prog 18 #[.slice a ls.length cap] w fun e w' => e = .returned (.bool (validV ls)) ∧ Below w.heap.size w w' := by
  unfold maxLen at hm
  obtain ⟨n, hn⟩ : ∃ n, n = ls.length := ⟨_, rfl⟩
  unfold validV
  rw [← hn] at hm ⊢
  have HN := Lib.hid hn; clear hn
  go_enter Try.func18, Try.ntmps18
  go_wp2_with fail
  go_loopw [7] (fun i wr => ∃ k : Nat, k ≤ n ∧ i = .int .i64 k ∧ okTo ls k = true ∧ Below w.heap.size w wr) (fun i _ => n - (intOf i).toNat)
  case atStart => exact ⟨0, Nat.zero_le _, rfl, rfl, Below.refl _ _⟩
  case round =>
    obtain ⟨k, hk, rfl, hok, hB⟩ := hrel
    by_cases hlt : k < n
    · have hlt' : (k : Int) < (n : Int) := by omega
      have hk0 : (0 : Int) ≤ (k : Int) := by omega
      obtain ⟨b, off, rfl, hc⟩ := hl.at (i := k) (by rw [← HN.out]; exact hlt)
      have hc1 := hc k (by rw [← HN.out]; exact hlt)
      obtain ⟨c0, c1, c2⟩ := hc1
      have d0 := keep1 hB c0
      have d1 := keep1 hB c1
      have d2 := keep1 hB c2
      obtain ⟨x, hx⟩ : ∃ x, ls.getD k default = x := ⟨_, rfl⟩
      rw [hx] at d0 d1 d2
      clear c0 c1 c2
      have BW : Below w.heap.size w (wr.alloc (.cells #[.int .i64 x.p, .int .i64 x.s, .int .i64 x.g] 32)) := ball hB _
      have f0 := d0; have f1 := d1; have f2 := d2
      go_wp2_with fail
      have e0 : (wr.alloc (.cells #[.int .i64 x.p, .int .i64 x.s, .int .i64 x.g] 32)).cell? ⟨wr.heap.size, 0, none⟩ = some (.int .i64 x.p) := new0 rfl rfl
      have e1 : (wr.alloc (.cells #[.int .i64 x.p, .int .i64 x.s, .int .i64 x.g] 32)).cell? ⟨wr.heap.size, 1, none⟩ = some (.int .i64 x.s) := new0 rfl rfl
      have e2 : (wr.alloc (.cells #[.int .i64 x.p, .int .i64 x.s, .int .i64 x.g] 32)).cell? ⟨wr.heap.size, 2, none⟩ = some (.int .i64 x.g) := new0 rfl rfl
      have hprev : ∀ q : Nat, k = q + 1 → (wr.alloc (.cells #[.int .i64 x.p, .int .i64 x.s, .int .i64 x.g] 32)).cell? ⟨b, off + q * 3, none⟩ = some (.int .i64 (ls.getD q default).p) := fun q hq =>
        old1 (keep1 hB (hc q (by have := HN.out; omega)).1) _
      obtain ⟨W, hW⟩ : ∃ W, wr.alloc (.cells #[.int .i64 x.p, .int .i64 x.s, .int .i64 x.g] 32) = W := ⟨_, rfl⟩
      obtain ⟨g, hg⟩ : ∃ g, wr.heap.size = g := ⟨_, rfl⟩
      rw [hW] at BW e0 e1 e2 hprev ⊢
      rw [hg] at e0 e1 e2 ⊢
      clear hW hg d0 d1 d2 f0 f1 f2 hB hc hl
      have hokx : okAt ls k = (lkOk x && (decide (k = 0) || decide ((ls.getD (k - 1) default).p < x.p))) := by unfold okAt; rw [hx]
      have hsucc : okTo ls (k + 1) = okAt ls k := by rw [okTo, hok]; rfl
      have HS := Lib.hid (hsucc.trans hokx); clear hx hokx hsucc
      have fin : ∀ (y : Bool), (lkOk x && (decide (k = 0) || decide ((ls.getD (k - 1) default).p < x.p))) = y → okTo ls (k + 1) = y := fun y hy => HS.out.trans hy
      have FIN := Lib.hid fin; clear fin HS
      have done : okTo ls (k + 1) = false → okTo ls n = false := fun h => okTo_le h n (by omega)
      have DONE := Lib.hid done; clear done
      by_cases hA : ¬ (0 ≤ x.p ∧ x.p ≤ 59)
      · 
        have HA := Lib.hid (show (decide (0 ≤ x.p) && decide (x.p ≤ 59)) = false by simp; omega)
        have HC := Lib.hid True.intro
        have HD := Lib.hid True.intro
        have ke0 := cell_regrown e0; have ke1 := cell_regrown e1; have ke2 := cell_regrown e2
        refine wp_region_quiet_below (by kernel_rfl) (by kernel_rfl) ?_
        repeat (go_big_quiet_step (first | (go_at_call 19; exact rg_of fun w' h => callsB (peer_at _ _ w' HA.out)) | (go_at_call 23; exact rg_of fun w' h => callsB (in_at _ _ _ w' (by first | exact HC.out | exact HD.out)))))
        refine wpQuiet_nil ?_
        intro _ hw'
        obtain ⟨⟨dq, osq⟩, hw''⟩ := hw'
        subst hw''
        go_wp2_with fail
        go_ret
        have hz := DONE.out (FIN.out false (by simp [lkOk]; omega))
        exact ⟨by simp [hz], bstep BW (below_regrown _ dq osq)⟩
      by_cases hk : k = 0
      · subst hk
        clear hprev
        by_cases hC : ¬ (0 ≤ x.s ∧ x.s ≤ 31)
        · 
          have HA := Lib.hid (show (decide (0 ≤ x.p) && decide (x.p ≤ 59)) = true by simp; omega)
          have HC := Lib.hid (show (decide (0 ≤ x.s) && decide (x.s ≤ 31)) = false by simp; omega)
          have HD := Lib.hid True.intro
          have ke0 := cell_regrown e0; have ke1 := cell_regrown e1; have ke2 := cell_regrown e2
          refine wp_region_quiet_below (by kernel_rfl) (by kernel_rfl) ?_
          repeat (go_big_quiet_step (first | (go_at_call 19; exact rg_of fun w' h => callsB (peer_at _ _ w' HA.out)) | (go_at_call 23; exact rg_of fun w' h => callsB (in_at _ _ _ w' (by first | exact HC.out | exact HD.out)))))
          refine wpQuiet_nil ?_
          intro _ hw'
          obtain ⟨⟨dq, osq⟩, hw''⟩ := hw'
          subst hw''
          go_wp2_with fail
          go_ret
          have hz := DONE.out (FIN.out false (by simp [lkOk]; omega))
          exact ⟨by simp [hz], bstep BW (below_regrown _ dq osq)⟩
        by_cases hD : ¬ (0 ≤ x.g ∧ x.g ≤ x.s)
        · 
          have HA := Lib.hid (show (decide (0 ≤ x.p) && decide (x.p ≤ 59)) = true by simp; omega)
          have HC := Lib.hid (show (decide (0 ≤ x.s) && decide (x.s ≤ 31)) = true by simp; omega)
          have HD := Lib.hid (show (decide (0 ≤ x.g) && decide (x.g ≤ x.s)) = false by simp; omega)
          have ke0 := cell_regrown e0; have ke1 := cell_regrown e1; have ke2 := cell_regrown e2
          refine wp_region_quiet_below (by kernel_rfl) (by kernel_rfl) ?_
          repeat (go_big_quiet_step (first | (go_at_call 19; exact rg_of fun w' h => callsB (peer_at _ _ w' HA.out)) | (go_at_call 23; exact rg_of fun w' h => callsB (in_at _ _ _ w' (by first | exact HC.out | exact HD.out)))))
          refine wpQuiet_nil ?_
          intro _ hw'
          obtain ⟨⟨dq, osq⟩, hw''⟩ := hw'
          subst hw''
          go_wp2_with fail
          go_ret
          have hz := DONE.out (FIN.out false (by simp [lkOk]; omega))
          exact ⟨by simp [hz], bstep BW (below_regrown _ dq osq)⟩
        · 
          have HA := Lib.hid (show (decide (0 ≤ x.p) && decide (x.p ≤ 59)) = true by simp; omega)
          have HC := Lib.hid (show (decide (0 ≤ x.s) && decide (x.s ≤ 31)) = true by simp; omega)
          have HD := Lib.hid (show (decide (0 ≤ x.g) && decide (x.g ≤ x.s)) = true by simp; omega)
          have ke0 := cell_regrown e0; have ke1 := cell_regrown e1; have ke2 := cell_regrown e2
          refine wp_region_quiet_below (by kernel_rfl) (by kernel_rfl) ?_
          repeat (go_big_quiet_step (first | (go_at_call 19; exact rg_of fun w' h => callsB (peer_at _ _ w' HA.out)) | (go_at_call 23; exact rg_of fun w' h => callsB (in_at _ _ _ w' (by first | exact HC.out | exact HD.out)))))
          refine wpQuiet_nil ?_
          intro _ hw'
          obtain ⟨⟨dq, osq⟩, hw''⟩ := hw'
          subst hw''
          go_wp2_with fail
          have hz := FIN.out true (by simp [lkOk]; omega)
          go_roundw
          case rel => exact ⟨0 + 1, by omega, by go_num, hz, bstep BW (below_regrown _ dq osq)⟩
          case measure => simp [intOf]; omega
      obtain ⟨q, hkq⟩ : ∃ q, k = q + 1 := ⟨k - 1, by omega⟩
      have p0 := hprev q hkq
      have kp0 := cell_regrown p0
      have hqe : (k : Int) - 1 = (q : Int) := by omega
      have hq0 : (0 : Int) ≤ (q : Int) := by omega
      have hqn : (q : Int) < (n : Int) := by omega
      have hkp : (0 : Int) < (k : Int) := by omega
      rw [show k - 1 = q from by omega] at FIN
      clear hprev hk
      obtain ⟨y, hy⟩ : ∃ y, (ls.getD q default).p = y := ⟨_, rfl⟩
      rw [hy] at p0 kp0 FIN
      clear hy
      cases hP : decide (x.p ≤ y)
      case true =>
        have hP2 : x.p ≤ y := of_decide_eq_true hP
        have HA := Lib.hid (show (decide (0 ≤ x.p) && decide (x.p ≤ 59)) = true by simp; omega)
        have HC := Lib.hid True.intro
        have HD := Lib.hid True.intro
        have ke0 := cell_regrown e0; have ke1 := cell_regrown e1; have ke2 := cell_regrown e2
        refine wp_region_quiet_below (by kernel_rfl) (by kernel_rfl) ?_
        repeat (go_big_quiet_step (first | (go_at_call 19; exact rg_of fun w' h => callsB (peer_at _ _ w' HA.out)) | (go_at_call 23; exact rg_of fun w' h => callsB (in_at _ _ _ w' (by first | exact HC.out | exact HD.out)))))
        refine wpQuiet_nil ?_
        intro _ hw'
        obtain ⟨⟨dq, osq⟩, hw''⟩ := hw'
        subst hw''
        go_wp2_with fail
        go_ret
        have hz := DONE.out (FIN.out false (by simp [lkOk]; omega))
        exact ⟨by simp [hz], bstep BW (below_regrown _ dq osq)⟩
      have hP2 : ¬ x.p ≤ y := of_decide_eq_false hP
      by_cases hC : ¬ (0 ≤ x.s ∧ x.s ≤ 31)
      · 
        have HA := Lib.hid (show (decide (0 ≤ x.p) && decide (x.p ≤ 59)) = true by simp; omega)
        have HC := Lib.hid (show (decide (0 ≤ x.s) && decide (x.s ≤ 31)) = false by simp; omega)
        have HD := Lib.hid True.intro
        have ke0 := cell_regrown e0; have ke1 := cell_regrown e1; have ke2 := cell_regrown e2
        refine wp_region_quiet_below (by kernel_rfl) (by kernel_rfl) ?_
        repeat (go_big_quiet_step (first | (go_at_call 19; exact rg_of fun w' h => callsB (peer_at _ _ w' HA.out)) | (go_at_call 23; exact rg_of fun w' h => callsB (in_at _ _ _ w' (by first | exact HC.out | exact HD.out)))))
        refine wpQuiet_nil ?_
        intro _ hw'
        obtain ⟨⟨dq, osq⟩, hw''⟩ := hw'
        subst hw''
        go_wp2_with fail
        go_ret
        have hz := DONE.out (FIN.out false (by simp [lkOk]; omega))
        exact ⟨by simp [hz], bstep BW (below_regrown _ dq osq)⟩
      by_cases hD : ¬ (0 ≤ x.g ∧ x.g ≤ x.s)
      · 
        have HA := Lib.hid (show (decide (0 ≤ x.p) && decide (x.p ≤ 59)) = true by simp; omega)
        have HC := Lib.hid (show (decide (0 ≤ x.s) && decide (x.s ≤ 31)) = true by simp; omega)
        have HD := Lib.hid (show (decide (0 ≤ x.g) && decide (x.g ≤ x.s)) = false by simp; omega)
        have ke0 := cell_regrown e0; have ke1 := cell_regrown e1; have ke2 := cell_regrown e2
        refine wp_region_quiet_below (by kernel_rfl) (by kernel_rfl) ?_
        repeat (go_big_quiet_step (first | (go_at_call 19; exact rg_of fun w' h => callsB (peer_at _ _ w' HA.out)) | (go_at_call 23; exact rg_of fun w' h => callsB (in_at _ _ _ w' (by first | exact HC.out | exact HD.out)))))
        refine wpQuiet_nil ?_
        intro _ hw'
        obtain ⟨⟨dq, osq⟩, hw''⟩ := hw'
        subst hw''
        go_wp2_with fail
        go_ret
        have hz := DONE.out (FIN.out false (by simp [lkOk]; omega))
        exact ⟨by simp [hz], bstep BW (below_regrown _ dq osq)⟩
      · 
        have HA := Lib.hid (show (decide (0 ≤ x.p) && decide (x.p ≤ 59)) = true by simp; omega)
        have HC := Lib.hid (show (decide (0 ≤ x.s) && decide (x.s ≤ 31)) = true by simp; omega)
        have HD := Lib.hid (show (decide (0 ≤ x.g) && decide (x.g ≤ x.s)) = true by simp; omega)
        have ke0 := cell_regrown e0; have ke1 := cell_regrown e1; have ke2 := cell_regrown e2
        refine wp_region_quiet_below (by kernel_rfl) (by kernel_rfl) ?_
        repeat (go_big_quiet_step (first | (go_at_call 19; exact rg_of fun w' h => callsB (peer_at _ _ w' HA.out)) | (go_at_call 23; exact rg_of fun w' h => callsB (in_at _ _ _ w' (by first | exact HC.out | exact HD.out)))))
        refine wpQuiet_nil ?_
        intro _ hw'
        obtain ⟨⟨dq, osq⟩, hw''⟩ := hw'
        subst hw''
        go_wp2_with fail
        have hz := FIN.out true (by simp [lkOk]; omega)
        go_roundw
        case rel => exact ⟨k + 1, by omega, by go_num, hz, bstep BW (below_regrown _ dq osq)⟩
        case measure => simp [intOf]; omega
    · have hkn : n = k := by omega
      subst hkn
      go_wp2_with fail
      go_ret
      exact ⟨by simp [hok], hB⟩
end Go.Proofs.Ytfhdpogngdgklaa
