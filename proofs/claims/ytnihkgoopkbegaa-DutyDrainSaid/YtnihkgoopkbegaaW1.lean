/- Proved: what duty.Need and duty.Spare and the functions under them return, and that they write nothing that was there. Conditions: none, but the bounds that each theorem names. -/
import Derived.Test.YtnihkgoopkbegaaRows
import Derived.WalkKit
import Derived.WalkLawsBesides
import Derived.WalkSpells
import Derived.Lib.Hide
import Derived.Lib.MinMax
namespace Go.Proofs.Ytnihkgoopkbegaa
open Go.RowKit
set_option linter.unusedVariables false

def inB (lo hi x : Int) : Bool := decide (lo ≤ x ∧ x ≤ hi)

theorem within_any (lo hi x : Int) (b : Nat) (w : World) (hc : w.cell? ⟨b, 0, none⟩ = some (.int .i64 x)) :
    Calls Try.prog 20 #[.int .i64 lo, .int .i64 hi, .slice (some ⟨b, 0, none⟩) 1 1] w fun e w' =>
      e = .returned (.bool (inB lo hi x)) ∧ w = w' := by
  by_cases h1 : x < lo
  · have e1 : inB lo hi x = false := by simp [inB]; omega
    rw [e1]
    go_enter Try.func20, Try.ntmps20
    go_wp2
    refine wp_loop_rounds 2 ?_
    rw [rounds_succ]
    go_wp2
    go_ret
    exact ⟨rfl, rfl⟩
  · by_cases h2 : hi < x
    · have e1 : inB lo hi x = false := by simp [inB]; omega
      rw [e1]
      go_enter Try.func20, Try.ntmps20
      go_wp2
      refine wp_loop_rounds 2 ?_
      rw [rounds_succ]
      go_wp2
      go_ret
      exact ⟨rfl, rfl⟩
    · have e1 : inB lo hi x = true := by simp [inB]; omega
      rw [e1]
      go_enter Try.func20, Try.ntmps20
      go_wp2
      refine wp_loop_rounds 2 ?_
      rw [rounds_succ]
      go_wp2
      rw [rounds_succ]
      go_wp2
      go_ret
      exact ⟨rfl, rfl⟩

def right (a c : Int) : Bool := inB 0 16 a && inB 0 24 c
def wanted (a : Int) : Int := min 6 ((a + 1) / 2)


theorem missing_yes (a c : Int) (w : World) (ha : 0 ≤ a) (ha' : a ≤ 16) (hc : 0 ≤ c) (hc' : c ≤ 24) :
    Calls Try.prog 15 #[.int .i64 a, .int .i64 c] w fun e w' =>
      e = .returned (.tuple #[.int .i64 (wanted a - c), .bool true]) ∧ Below w.heap.size w w' := by
  have k1 : inB 0 16 a = true := by simp [inB]; omega
  have k2 : inB 0 24 c = true := by simp [inB]; omega
  go_enter Try.func15, Try.ntmps15
  go_wp2_with fail
  refine (within_any _ _ a _ _ (by simp)).mono ?_
  rintro e w' ⟨rfl, rfl⟩
  go_wp2_with fail
  refine (within_any _ _ c _ _ (by simp)).mono ?_
  rintro e w' ⟨rfl, rfl⟩
  go_wp2_with fail
  go_ret2
  exact ⟨rfl, ((Below.refl _ _).alloc (Nat.le_refl _) _).alloc (by simp) _⟩

def SomeN (w : World) (e : Ending) (w' : World) : Prop := ∃ n : Int, e = .returned (.tuple #[.int .i64 n, .bool false]) ∧ Below w.heap.size w w'

theorem missing_no (a c : Int) (w : World) (h : right a c = false) :
    Calls Try.prog 15 #[.int .i64 a, .int .i64 c] w (SomeN w) := by
  cases k1 : inB 0 16 a
  · go_enter Try.func15, Try.ntmps15
    go_wp2_with fail
    refine (within_any _ _ a _ _ (by simp)).mono ?_
    rintro e w' ⟨rfl, rfl⟩
    go_wp2_with fail
    all_goals
      go_ret2
      exact ⟨_, rfl, ((Below.refl _ _).alloc (Nat.le_refl _) _)⟩
  · have k2 : inB 0 24 c = false := by simpa [right, k1] using h
    go_enter Try.func15, Try.ntmps15
    go_wp2_with fail
    refine (within_any _ _ a _ _ (by simp)).mono ?_
    rintro e w' ⟨rfl, rfl⟩
    go_wp2_with fail
    refine (within_any _ _ c _ _ (by simp)).mono ?_
    rintro e w' ⟨rfl, rfl⟩
    go_wp2_with fail
    all_goals
      go_ret2
      exact ⟨_, rfl, ((Below.refl _ _).alloc (Nat.le_refl _) _).alloc (by simp) _⟩

def needN (a c : Int) (full : Bool) : Int := if right a c && !full then max 0 (wanted a - c) else 0
def spareN (a c i : Int) : Int := if right a c && decide (4 ≤ i) then max 0 (-(wanted a - c)) else 0

theorem need1 (n : Int) (b : Nat) (w : World) (hc : w.cell? ⟨b, 0, none⟩ = some (.int .i64 n)) :
    Calls Try.prog 17 #[.pointer (some ⟨b, 0, none⟩)] w fun e w' => e = .returned (.int .i64 (max 0 n)) ∧ w = w' := by
  go_enter Try.func17, Try.ntmps17
  go_wp2
  go_ret
  exact ⟨rfl, rfl⟩

theorem spare1 (n : Int) (b : Nat) (w : World) (hc : w.cell? ⟨b, 0, none⟩ = some (.int .i64 n)) (hn : -100 ≤ n) (hn' : n ≤ 100) :
    Calls Try.prog 19 #[.pointer (some ⟨b, 0, none⟩)] w fun e w' => e = .returned (.int .i64 (max 0 (-n))) ∧ w = w' := by
  go_enter Try.func19, Try.ntmps19
  go_wp2
  go_ret
  exact ⟨rfl, rfl⟩

theorem if0_no (f : Value) (w : World) :
    Calls Try.prog 16 #[.bool false, f] w fun e w' => e = .returned (.int .i64 0) ∧ w = w' := by
  go_enter Try.func16, Try.ntmps16
  go_wp2
  go_ret
  exact ⟨rfl, rfl⟩

theorem if0_need (n : Int) (b : Nat) (w : World) (hc : w.cell? ⟨b, 0, none⟩ = some (.int .i64 n)) :
    Calls Try.prog 16 #[.bool true, .func (.func 17) #[] #[.pointer (some ⟨b, 0, none⟩)]] w fun e w' => e = .returned (.int .i64 (max 0 n)) ∧ w = w' := by
  go_enter Try.func16, Try.ntmps16
  go_wp2_with (first | (go_at_call 17; refine (need1 _ _ _ hc).mono ?_; rintro e w' ⟨rfl, rfl⟩))
  go_ret
  exact ⟨rfl, rfl⟩

theorem if0_spare (n : Int) (b : Nat) (w : World) (hc : w.cell? ⟨b, 0, none⟩ = some (.int .i64 n)) (hn : -100 ≤ n) (hn' : n ≤ 100) :
    Calls Try.prog 16 #[.bool true, .func (.func 19) #[] #[.pointer (some ⟨b, 0, none⟩)]] w fun e w' => e = .returned (.int .i64 (max 0 (-n))) ∧ w = w' := by
  go_enter Try.func16, Try.ntmps16
  go_wp2_with (first | (go_at_call 19; refine (spare1 _ _ _ hc hn hn').mono ?_; rintro e w' ⟨rfl, rfl⟩))
  go_ret
  exact ⟨rfl, rfl⟩

theorem need_any (a c : Int) (full : Bool) (w : World) :
    Calls Try.prog 10 #[.int .i64 a, .int .i64 c, .bool full] w fun e w' => e = .returned (.int .i64 (needN a c full)) ∧ Below w.heap.size w w' := by
  cases hr : right a c
  · have e0 : needN a c full = 0 := by simp [needN, hr]
    rw [e0]
    go_enter Try.func10, Try.ntmps10
    go_wp2_with (first | (go_at_call 15; refine (missing_no _ _ _ hr).mono ?_; rintro e w1 ⟨n, rfl, hb⟩) | (go_at_call 16; refine (if0_no _ _).mono ?_; rintro e w' ⟨rfl, rfl⟩))
    go_ret
    exact ⟨rfl, hb.trans ((Below.refl _ _).alloc hb.size _)⟩
  · obtain ⟨h1, h2, h3, h4⟩ : 0 ≤ a ∧ a ≤ 16 ∧ 0 ≤ c ∧ c ≤ 24 := by simp [right, inB] at hr; omega
    cases full
    · have e0 : needN a c false = max 0 (wanted a - c) := by simp [needN, hr]
      rw [e0]
      go_enter Try.func10, Try.ntmps10
      go_wp2_with (first | (go_at_call 15; refine (missing_yes _ _ _ h1 h2 h3 h4).mono ?_; rintro e w1 ⟨rfl, hb⟩) | (go_at_call 16; refine (if0_need (wanted a - c) _ _ (by simp)).mono ?_; rintro e w' ⟨rfl, rfl⟩))
      go_ret
      exact ⟨rfl, hb.trans ((Below.refl _ _).alloc hb.size _)⟩
    · have e0 : needN a c true = 0 := by simp [needN, hr]
      rw [e0]
      go_enter Try.func10, Try.ntmps10
      go_wp2_with (first | (go_at_call 15; refine (missing_yes _ _ _ h1 h2 h3 h4).mono ?_; rintro e w1 ⟨rfl, hb⟩) | (go_at_call 16; refine (if0_no _ _).mono ?_; rintro e w' ⟨rfl, rfl⟩))
      go_ret
      exact ⟨rfl, hb.trans ((Below.refl _ _).alloc hb.size _)⟩

theorem spare_any (a c i : Int) (w : World) :
    Calls Try.prog 12 #[.int .i64 a, .int .i64 c, .int .i64 i] w fun e w' => e = .returned (.int .i64 (spareN a c i)) ∧ Below w.heap.size w w' := by
  cases hr : right a c
  · have e0 : spareN a c i = 0 := by simp [spareN, hr]
    rw [e0]
    go_enter Try.func12, Try.ntmps12
    go_wp2_with (first | (go_at_call 15; refine (missing_no _ _ _ hr).mono ?_; rintro e w1 ⟨n, rfl, hb⟩) | (go_at_call 16; refine (if0_no _ _).mono ?_; rintro e w' ⟨rfl, rfl⟩))
    go_ret
    exact ⟨rfl, hb.trans ((Below.refl _ _).alloc hb.size _)⟩
  · obtain ⟨h1, h2, h3, h4⟩ : 0 ≤ a ∧ a ≤ 16 ∧ 0 ≤ c ∧ c ≤ 24 := by simp [right, inB] at hr; omega
    by_cases hi : 4 ≤ i
    · have e0 : spareN a c i = max 0 (-(wanted a - c)) := by simp [spareN, hr, hi]
      have hd : decide (4 ≤ i) = true := by simpa using hi
      rw [e0]
      go_enter Try.func12, Try.ntmps12
      go_wp2_with (first | (go_at_call 15; refine (missing_yes _ _ _ h1 h2 h3 h4).mono ?_; rintro e w1 ⟨rfl, hb⟩) | (go_at_call 16; refine (if0_spare (wanted a - c) _ _ (by simp) (by unfold wanted; omega) (by unfold wanted; omega)).mono ?_; rintro e w' ⟨rfl, rfl⟩))
      go_ret
      exact ⟨rfl, hb.trans ((Below.refl _ _).alloc hb.size _)⟩
    · have e0 : spareN a c i = 0 := by simp [spareN, hr, hi]
      have hd : decide (4 ≤ i) = false := by simpa using hi
      rw [e0]
      go_enter Try.func12, Try.ntmps12
      go_wp2_with (first | (go_at_call 15; refine (missing_yes _ _ _ h1 h2 h3 h4).mono ?_; rintro e w1 ⟨rfl, hb⟩) | (go_at_call 16; refine (if0_no _ _).mono ?_; rintro e w' ⟨rfl, rfl⟩))
      go_ret
      exact ⟨rfl, hb.trans ((Below.refl _ _).alloc hb.size _)⟩
end Go.Proofs.Ytnihkgoopkbegaa
