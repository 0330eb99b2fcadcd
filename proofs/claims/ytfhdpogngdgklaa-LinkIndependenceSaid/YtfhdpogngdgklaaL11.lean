/- Proved: Count and its reference where they refuse, and whether two equal lists are the same. Conditions: the lists lie in memory. -/
import Derived.Test.YtfhdpogngdgklaaL10
namespace Go.Proofs.Ytfhdpogngdgklaa
open Go.RowKit Go.Sort Go.BigFrame
set_option linter.unusedVariables false
set_option linter.unusedSimpArgs false
attribute [local go_sem] cell_alloc_old

def okV (ls : List Lk) (peer : Int) : Prop := validV ls = true ∧ 0 ≤ peer ∧ peer ≤ 59
instance (ls : List Lk) (peer : Int) : Decidable (okV ls peer) := by unfold okV; infer_instance
def cListV (ls : List Lk) (peer : Int) (acked : Bool) : List Lk := if okV ls peer then countV ls peer acked else []
def errV (ls : List Lk) (peer : Int) : Int := if okV ls peer then 0 else 1
def CountGen (zs : List Lk) (er : Int) (w : World) (e : Ending) (w' : World) : Prop :=
  ∃ a cap, e = .returned (.tuple #[.slice a zs.length cap, .int .i64 er]) ∧ LkAt w' a zs ∧ zs.length ≤ cap ∧ cap ≤ maxLen ∧ Below w.heap.size w w'

theorem count_gen (n : Nat) (a : Option Addr) (cap : Nat) (ls : List Lk) (peer : Int) (acked : Bool) (w : World) (hn : n = ls.length) (hl : LkAt w a ls) (hcap : ls.length ≤ cap) (hcm : cap ≤ maxLen) :
    Calls Try.prog 10 #[.slice a n cap, .int .i64 peer, .bool acked] w (CountGen (cListV ls peer acked) (errV ls peer) w) := by
  have hm : ls.length ≤ maxLen := Nat.le_trans hcap hcm
  unfold cListV errV
  by_cases hok : okV ls peer
  · rw [if_pos hok, if_pos hok]
    subst hn
    exact count_any a cap ls peer acked w hl hcap hcm hok.1 hok.2.1 hok.2.2
  · rw [if_neg hok, if_neg hok]
    have HN := Lib.hid hn; have HM := Lib.hid hm; clear hn hm
    cases hv : validV ls
    · have HV := Lib.hid hv; clear hv hok
      go_enter Try.func10, Try.ntmps10
      go_wp2_with fail
      refine (valid_at n a cap ls _ _ HN.out hl HM.out HV.out).mono ?_
      rintro e w1 ⟨rfl, b1⟩
      go_wp2_with fail
      go_ret2
      exact ⟨none, 0, rfl, .inl rfl, by simp, by simp [maxLen], b1⟩
    · have hp : ¬ (0 ≤ peer ∧ peer ≤ 59) := fun h => hok ⟨hv, h⟩
      have HP := Lib.hid (show (decide (0 ≤ peer) && decide (peer ≤ 59)) = false by simp; omega)
      have HV := Lib.hid hv; clear hv hok hp
      go_enter Try.func10, Try.ntmps10
      go_wp2_with fail
      refine (valid_at n a cap ls _ _ HN.out hl HM.out HV.out).mono ?_
      rintro e w1 ⟨rfl, b1⟩
      go_wp2_with fail
      refine (peer_at peer false _ HP.out).mono ?_
      rintro e w2 ⟨rfl, rfl⟩
      go_wp2_with fail
      go_ret2
      exact ⟨none, 0, rfl, .inl rfl, by simp, by simp [maxLen], b1⟩
theorem rcount_gen (n : Nat) (a : Option Addr) (cap : Nat) (ls : List Lk) (peer : Int) (acked : Bool) (w : World) (hn : n = ls.length) (hl : LkAt w a ls) (hm : ls.length ≤ maxLen) :
    Calls Try.prog 11 #[.slice a n cap, .int .i64 peer, .bool acked] w (CountGen (cListV ls peer acked) (errV ls peer) w) := by
  unfold cListV errV
  by_cases hok : okV ls peer
  · rw [if_pos hok, if_pos hok]
    subst hn
    exact rcount_any a cap ls peer acked w hl hm hok.1 hok.2.1 hok.2.2
  · rw [if_neg hok, if_neg hok]
    have HN := Lib.hid hn; have HM := Lib.hid hm; clear hn hm
    cases hv : validV ls
    · have HV := Lib.hid hv; clear hv hok
      go_enter Try.func11, Try.ntmps11
      go_wp2_with fail
      refine (rvalid_at n a cap ls _ _ HN.out hl HM.out HV.out).mono ?_
      rintro e w1 ⟨rfl, b1⟩
      go_wp2_with fail
      go_ret2
      exact ⟨none, 0, rfl, .inl rfl, by simp, by simp [maxLen], b1⟩
    · have hp : ¬ (0 ≤ peer ∧ peer ≤ 59) := fun h => hok ⟨hv, h⟩
      have HV := Lib.hid hv; clear hv hok
      by_cases p0 : peer < 0
      · clear hp
        go_enter Try.func11, Try.ntmps11
        go_wp2_with fail
        refine (rvalid_at n a cap ls _ _ HN.out hl HM.out HV.out).mono ?_
        rintro e w1 ⟨rfl, b1⟩
        go_wp2_with fail
        go_ret2
        exact ⟨none, 0, rfl, .inl rfl, by simp, by simp [maxLen], b1⟩
      · have p1 : 59 < peer := by omega
        clear hp
        go_enter Try.func11, Try.ntmps11
        go_wp2_with fail
        refine (rvalid_at n a cap ls _ _ HN.out hl HM.out HV.out).mono ?_
        rintro e w1 ⟨rfl, b1⟩
        go_wp2_with fail
        go_ret2
        exact ⟨none, 0, rfl, .inl rfl, by simp, by simp [maxLen], b1⟩

theorem same_at (n m : Nat) (a b : Option Addr) (ca cb : Nat) (ls : List Lk) (w : World) (hn : n = ls.length) (hnm : m = ls.length) (ha : LkAt w a ls) (hb : LkAt w b ls) (hm : ls.length ≤ maxLen) :
    Calls Try.prog 12 #[.slice a n ca, .slice b m cb] w fun e w' => e = .returned (.bool true) ∧ Below w.heap.size w w' := by
  obtain rfl : n = m := by omega
  unfold maxLen at hm
  rw [← hn] at hm
  have HN := Lib.hid hn; clear hn hnm
  go_enter Try.func12, Try.ntmps12
  go_wp2_with fail
  go_loopw [5] (fun i wr => ∃ k : Nat, k ≤ n ∧ i = .int .i64 k ∧ Below w.heap.size w wr) (fun i _ => n - (intOf i).toNat)
  case atStart => exact ⟨0, Nat.zero_le _, rfl, Below.refl _ _⟩
  case round =>
    obtain ⟨k, hk, rfl, hB⟩ := hrel
    by_cases hlt : k < n
    · have hlt' : (k : Int) < (n : Int) := by omega
      obtain ⟨b1, o1, e1, h1⟩ := (ha.keep hB).at (i := k) (by rw [← HN.out]; exact hlt)
      obtain ⟨b2, o2, e2, h2⟩ := (hb.keep hB).at (i := k) (by rw [← HN.out]; exact hlt)
      subst e1 e2
      obtain ⟨c0, c1, c2⟩ := h1 k (by rw [← HN.out]; exact hlt)
      obtain ⟨d0, d1, d2⟩ := h2 k (by rw [← HN.out]; exact hlt)
      have k0 : (0 : Int) ≤ (k : Int) := by omega
      clear h1 h2
      generalize ls.getD k default = x at *
      go_wp2_with fail
      go_quiet (fail)
      go_wp2_with fail
      go_roundw
      case rel => exact ⟨k + 1, by omega, by go_num, by first | exact hB | exact below_drewN hB _⟩
      case measure => simp [intOf]; omega
    · have hkn : n = k := by omega
      subst hkn
      go_wp2_with fail
      go_ret
      exact ⟨rfl, hB⟩
end Go.Proofs.Ytfhdpogngdgklaa
