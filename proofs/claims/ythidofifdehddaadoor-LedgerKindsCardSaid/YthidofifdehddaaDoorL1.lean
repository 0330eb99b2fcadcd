/- Proved: what the functions of package ledger and of its reference return, and that they write nothing that was there. Conditions: the table of costs holds its three numbers. -/
import Derived.Test.YthidofifdehddaaDoorRows
import Derived.WalkKit
import Derived.WalkLawsBesides
import Derived.WalkSpells
import Derived.Lib.Hide
import Derived.Lib.MinMax
import Derived.Lib.QuietBelow
import Derived.BigQuiet
namespace Go.Proofs.YthidofifdehddaaDoor
open Go.RowKit
set_option linter.unusedVariables false

theorem bstep {w0 w w' : World} (h : Below w0.heap.size w0 w) (h' : Below w.heap.size w w') : Below w0.heap.size w0 w' :=
  h.trans (h'.mono h.size)
theorem keep1 {w w' : World} {a : Addr} {v : Value} (hb : Below w.heap.size w w') (h : w.cell? a = some v) : w'.cell? a = some v :=
  (hb.cell (World.block_lt_of_cell? w a h)).trans h

/-- The table of costs, as the row lists it. -/
def Tab (w : World) : Prop := w.cell? ⟨0, 0, none⟩ = some (.int .i64 1) ∧ w.cell? ⟨0, 1, none⟩ = some (.int .i64 40) ∧ w.cell? ⟨0, 2, none⟩ = some (.int .i64 60)
theorem Tab.keep {w w' : World} (h : Tab w) (hb : Below w.heap.size w w') : Tab w' := ⟨keep1 hb h.1, keep1 hb h.2.1, keep1 hb h.2.2⟩

def costN (d : Int) : Int := if d = 0 then 1 else if d = 1 then 40 else if d = 2 then 60 else 0

theorem cost_any (d : Int) (w : World) (h : Tab w) :
    Calls Tryd.prog 12 #[.int .i64 d] w fun e w' => e = .returned (.int .i64 (costN d)) ∧ w = w' := by
  obtain ⟨h0, h1, h2⟩ := h
  by_cases l : d < 0
  · have e1 : costN d = 0 := by unfold costN; (repeat' split) <;> omega
    rw [e1]
    go_enter Tryd.func12, Tryd.ntmps12
    go_wp2
    go_ret
    exact ⟨rfl, rfl⟩
  · by_cases l2 : 3 ≤ d
    · have e1 : costN d = 0 := by unfold costN; (repeat' split) <;> omega
      rw [e1]
      go_enter Tryd.func12, Tryd.ntmps12
      go_wp2
      go_ret
      exact ⟨rfl, rfl⟩
    · have hd : d = 0 ∨ d = 1 ∨ d = 2 := by omega
      rcases hd with rfl | rfl | rfl
      all_goals
        go_enter Tryd.func12, Tryd.ntmps12
        go_wp2
        go_ret
        exact ⟨rfl, rfl⟩

theorem rcost_any (d : Int) (w : World) :
    Calls Tryd.prog 13 #[.int .i64 d] w fun e w' => e = .returned (.int .i64 (costN d)) ∧ w = w' := by
  by_cases l0 : d = 0
  · subst l0
    go_enter Tryd.func13, Tryd.ntmps13
    go_wp2
    go_ret
    exact ⟨rfl, rfl⟩
  · by_cases l1 : d = 1
    · subst l1
      go_enter Tryd.func13, Tryd.ntmps13
      go_wp2
      go_ret
      exact ⟨rfl, rfl⟩
    · by_cases l2 : d = 2
      · subst l2
        go_enter Tryd.func13, Tryd.ntmps13
        go_wp2
        go_ret
        exact ⟨rfl, rfl⟩
      · have e1 : costN d = 0 := by unfold costN; (repeat' split) <;> omega
        rw [e1]
        go_enter Tryd.func13, Tryd.ntmps13
        go_wp2
        go_ret
        exact ⟨rfl, rfl⟩

def big : Int := 1000000000
def lvalid (l s : Int) : Bool := decide (0 ≤ l ∧ 0 ≤ s ∧ l + s ≤ 1000000000)

theorem valid_any (l s : Int) (w : World) :
    Calls Tryd.prog 18 #[.agg #[.int .i64 l, .int .i64 s]] w fun e w' => e = .returned (.bool (lvalid l s)) ∧ w.alloc (.cells #[.int .i64 l, .int .i64 s] 37) = w' := by
  by_cases h1 : 0 ≤ min l s
  · by_cases h2 : max l s ≤ 1000000000
    · by_cases h3 : l + s ≤ 1000000000
      · have e1 : lvalid l s = true := by simp [lvalid]; omega
        rw [e1]
        have b1 : 0 ≤ l := by omega
        have b2 : 0 ≤ s := by omega
        go_enter Tryd.func18, Tryd.ntmps18
        go_wp2
        go_ret
        exact ⟨rfl, rfl⟩
      · have e1 : lvalid l s = false := by simp [lvalid]; omega
        rw [e1]
        have b1 : 0 ≤ l := by omega
        have b2 : 0 ≤ s := by omega
        have b3 : l ≤ 1000000000 := by omega
        have b4 : s ≤ 1000000000 := by omega
        go_enter Tryd.func18, Tryd.ntmps18
        go_wp2
        go_ret
        exact ⟨rfl, rfl⟩
    · have e1 : lvalid l s = false := by simp [lvalid]; omega
      rw [e1]
      go_enter Tryd.func18, Tryd.ntmps18
      go_wp2
      go_ret
      exact ⟨rfl, rfl⟩
  · have e1 : lvalid l s = false := by simp [lvalid]; omega
    rw [e1]
    go_enter Tryd.func18, Tryd.ntmps18
    go_wp2
    go_ret
    exact ⟨rfl, rfl⟩

theorem covers_any (l s c : Int) (w : World) :
    Calls Tryd.prog 17 #[.agg #[.int .i64 l, .int .i64 s], .int .i64 c] w fun e w' => e = .returned (.bool (decide (c ≤ l))) ∧ w.alloc (.cells #[.int .i64 l, .int .i64 s] 37) = w' := by
  go_enter Tryd.func17, Tryd.ntmps17
  go_wp2
  go_ret
  exact ⟨rfl, rfl⟩

def spendE (l s c : Int) : Int := if lvalid l s = false ∨ c < 0 then 1 else if l < c then 15 else 0
def spendL (l s c : Int) : Int := if spendE l s c = 0 then l - c else l
def spendS (l s c : Int) : Int := if spendE l s c = 0 then s + c else s

theorem lvalid_bd {l s : Int} (h : lvalid l s = true) : 0 ≤ l ∧ 0 ≤ s ∧ l + s ≤ 1000000000 := by simpa [lvalid] using h

theorem spend_any (l s c : Int) (w : World) :
    Calls Tryd.prog 10 #[.agg #[.int .i64 l, .int .i64 s], .int .i64 c] w fun e w' =>
      e = .returned (.tuple #[.agg #[.int .i64 (spendL l s c), .int .i64 (spendS l s c)], .int .i64 (spendE l s c)]) ∧ Below w.heap.size w w' := by
  cases hv : lvalid l s
  · have e1 : spendE l s c = 1 := by simp [spendE, hv]
    have e2 : spendL l s c = l := by simp [spendL, e1]
    have e3 : spendS l s c = s := by simp [spendS, e1]
    rw [e1, e2, e3]; clear e1 e2 e3
    go_enter Tryd.func10, Tryd.ntmps10
    go_wp2_with (first | (go_at_call 18; refine (valid_any _ _ _).mono ?_; rintro e w' ⟨rfl, rfl⟩) | (go_at_call 17; refine (covers_any _ _ _ _).mono ?_; rintro e w' ⟨rfl, rfl⟩))
    refine bodyPost_ret (v := .tuple #[.agg #[.int .i64 l, .int .i64 s], .int .i64 1]) (by simp [results, Tryd.results10, go_sem]) rfl ⟨rfl, ?_⟩
    repeat (first | exact Below.refl _ _ | refine Below.setCell ?_ (by simp) _ | refine Below.alloc ?_ (by simp <;> omega) _)
  · obtain ⟨b1, b2, b3⟩ := lvalid_bd hv
    by_cases h1 : c < 0
    · have e1 : spendE l s c = 1 := by simp [spendE, h1]
      have e2 : spendL l s c = l := by simp [spendL, e1]
      have e3 : spendS l s c = s := by simp [spendS, e1]
      rw [e1, e2, e3]; clear e1 e2 e3
      go_enter Tryd.func10, Tryd.ntmps10
      go_wp2_with (first | (go_at_call 18; refine (valid_any _ _ _).mono ?_; rintro e w' ⟨rfl, rfl⟩) | (go_at_call 17; refine (covers_any _ _ _ _).mono ?_; rintro e w' ⟨rfl, rfl⟩))
      refine bodyPost_ret (v := .tuple #[.agg #[.int .i64 l, .int .i64 s], .int .i64 1]) (by simp [results, Tryd.results10, go_sem]) rfl ⟨rfl, ?_⟩
      repeat (first | exact Below.refl _ _ | refine Below.setCell ?_ (by simp) _ | refine Below.alloc ?_ (by simp <;> omega) _)
    · by_cases h2 : l < c
      · have e1 : spendE l s c = 15 := by simp [spendE, hv, h1, h2]
        have e2 : spendL l s c = l := by simp [spendL, e1]
        have e3 : spendS l s c = s := by simp [spendS, e1]
        have hd : decide (c ≤ l) = false := by simp; omega
        rw [e1, e2, e3]; clear e1 e2 e3
        go_enter Tryd.func10, Tryd.ntmps10
        go_wp2_with (first | (go_at_call 18; refine (valid_any _ _ _).mono ?_; rintro e w' ⟨rfl, rfl⟩) | (go_at_call 17; refine (covers_any _ _ _ _).mono ?_; rintro e w' ⟨rfl, rfl⟩))
        refine bodyPost_ret (v := .tuple #[.agg #[.int .i64 l, .int .i64 s], .int .i64 15]) (by simp [results, Tryd.results10, go_sem]) rfl ⟨rfl, ?_⟩
        repeat (first | exact Below.refl _ _ | refine Below.setCell ?_ (by simp) _ | refine Below.alloc ?_ (by simp <;> omega) _)
      · have e1 : spendE l s c = 0 := by simp [spendE, hv, h1, h2]
        have e2 : spendL l s c = l - c := by simp [spendL, e1]
        have e3 : spendS l s c = s + c := by simp [spendS, e1]
        have hd : decide (c ≤ l) = true := by simp; omega
        rw [e1, e2, e3]; clear e1 e2 e3
        go_enter Tryd.func10, Tryd.ntmps10
        go_wp2_with (first | (go_at_call 18; refine (valid_any _ _ _).mono ?_; rintro e w' ⟨rfl, rfl⟩) | (go_at_call 17; refine (covers_any _ _ _ _).mono ?_; rintro e w' ⟨rfl, rfl⟩))
        refine bodyPost_ret (v := .tuple #[.agg #[.int .i64 (l - c), .int .i64 (s + c)], .int .i64 0]) (by simp [results, Tryd.results10, go_sem]) rfl ⟨rfl, ?_⟩
        repeat (first | exact Below.refl _ _ | refine Below.setCell ?_ (by simp) _ | refine Below.alloc ?_ (by simp <;> omega) _)
end Go.Proofs.YthidofifdehddaaDoor
