/- Proved: what the reference functions of layer 18 and ledger.Lasts return, and that the laws' fixed examples hold. Conditions: the table of costs holds its three numbers. -/
import Derived.Test.YthidofifdehddaaDoorL1
namespace Go.Proofs.YthidofifdehddaaDoor
open Go.RowKit Go.Sort
set_option linter.unusedVariables false

theorem rvalid_any (l s : Int) (w : World) :
    Calls Tryd.prog 16 #[.agg #[.int .i64 l, .int .i64 s]] w fun e w' => e = .returned (.bool (lvalid l s)) ∧ w.alloc (.cells #[.int .i64 l, .int .i64 s] 23) = w' := by
  by_cases h1 : 0 ≤ l
  · by_cases h2 : l ≤ 1000000000
    · by_cases h3 : 0 ≤ s
      · by_cases h4 : s ≤ 1000000000 - l
        · have e1 : lvalid l s = true := by simp [lvalid]; omega
          rw [e1]
          go_enter Tryd.func16, Tryd.ntmps16
          go_wp2
          go_ret
          exact ⟨rfl, rfl⟩
        · have e1 : lvalid l s = false := by simp [lvalid]; omega
          rw [e1]
          go_enter Tryd.func16, Tryd.ntmps16
          go_wp2
          go_ret
          exact ⟨rfl, rfl⟩
      · have e1 : lvalid l s = false := by simp [lvalid]; omega
        rw [e1]
        go_enter Tryd.func16, Tryd.ntmps16
        go_wp2
        go_ret
        exact ⟨rfl, rfl⟩
    · have e1 : lvalid l s = false := by simp [lvalid]; omega
      rw [e1]
      go_enter Tryd.func16, Tryd.ntmps16
      go_wp2
      go_ret
      exact ⟨rfl, rfl⟩
  · have e1 : lvalid l s = false := by simp [lvalid]; omega
    rw [e1]
    go_enter Tryd.func16, Tryd.ntmps16
    go_wp2
    go_ret
    exact ⟨rfl, rfl⟩

theorem rspend_any (l s c : Int) (w : World) :
    Calls Tryd.prog 11 #[.agg #[.int .i64 l, .int .i64 s], .int .i64 c] w fun e w' =>
      e = .returned (.tuple #[.agg #[.int .i64 (spendL l s c), .int .i64 (spendS l s c)], .int .i64 (spendE l s c)]) ∧ Below w.heap.size w w' := by
  cases hv : lvalid l s
  · have e1 : spendE l s c = 1 := by simp [spendE, hv]
    have e2 : spendL l s c = l := by simp [spendL, e1]
    have e3 : spendS l s c = s := by simp [spendS, e1]
    rw [e1, e2, e3]; clear e1 e2 e3
    go_enter Tryd.func11, Tryd.ntmps11
    go_wp2_with (first | (go_at_call 16; refine (rvalid_any _ _ _).mono ?_; rintro e w' ⟨rfl, rfl⟩))
    refine bodyPost_ret (v := .tuple #[.agg #[.int .i64 l, .int .i64 s], .int .i64 1]) (by simp [results, Tryd.results11, go_sem]) rfl ⟨rfl, ?_⟩
    repeat (first | exact Below.refl _ _ | refine Below.setCell ?_ (by simp) _ | refine Below.alloc ?_ (by simp <;> omega) _)
  · obtain ⟨b1, b2, b3⟩ := lvalid_bd hv
    by_cases h1 : c < 0
    · have e1 : spendE l s c = 1 := by simp [spendE, h1]
      have e2 : spendL l s c = l := by simp [spendL, e1]
      have e3 : spendS l s c = s := by simp [spendS, e1]
      rw [e1, e2, e3]; clear e1 e2 e3
      go_enter Tryd.func11, Tryd.ntmps11
      go_wp2_with (first | (go_at_call 16; refine (rvalid_any _ _ _).mono ?_; rintro e w' ⟨rfl, rfl⟩))
      refine bodyPost_ret (v := .tuple #[.agg #[.int .i64 l, .int .i64 s], .int .i64 1]) (by simp [results, Tryd.results11, go_sem]) rfl ⟨rfl, ?_⟩
      repeat (first | exact Below.refl _ _ | refine Below.setCell ?_ (by simp) _ | refine Below.alloc ?_ (by simp <;> omega) _)
    · by_cases h2 : l < c
      · have e1 : spendE l s c = 15 := by simp [spendE, hv, h1, h2]
        have e2 : spendL l s c = l := by simp [spendL, e1]
        have e3 : spendS l s c = s := by simp [spendS, e1]
        rw [e1, e2, e3]; clear e1 e2 e3
        go_enter Tryd.func11, Tryd.ntmps11
        go_wp2_with (first | (go_at_call 16; refine (rvalid_any _ _ _).mono ?_; rintro e w' ⟨rfl, rfl⟩))
        refine bodyPost_ret (v := .tuple #[.agg #[.int .i64 l, .int .i64 s], .int .i64 15]) (by simp [results, Tryd.results11, go_sem]) rfl ⟨rfl, ?_⟩
        repeat (first | exact Below.refl _ _ | refine Below.setCell ?_ (by simp) _ | refine Below.alloc ?_ (by simp <;> omega) _)
      · have e1 : spendE l s c = 0 := by simp [spendE, hv, h1, h2]
        have e2 : spendL l s c = l - c := by simp [spendL, e1]
        have e3 : spendS l s c = s + c := by simp [spendS, e1]
        rw [e1, e2, e3]; clear e1 e2 e3
        go_enter Tryd.func11, Tryd.ntmps11
        go_wp2_with (first | (go_at_call 16; refine (rvalid_any _ _ _).mono ?_; rintro e w' ⟨rfl, rfl⟩))
        refine bodyPost_ret (v := .tuple #[.agg #[.int .i64 (l - c), .int .i64 (s + c)], .int .i64 0]) (by simp [results, Tryd.results11, go_sem]) rfl ⟨rfl, ?_⟩
        repeat (first | exact Below.refl _ _ | refine Below.setCell ?_ (by simp) _ | refine Below.alloc ?_ (by simp <;> omega) _)

def lastsN (l s d : Int) : Int := if lvalid l s = false ∨ costN d = 0 then 0 else l / costN d

theorem costN_bd (d : Int) : 0 ≤ costN d ∧ costN d ≤ 60 := by unfold costN; (repeat' split) <;> omega

theorem Tab.alloc {w : World} (h : Tab w) (o : Obj) : Tab (w.alloc o) := h.keep ((Below.refl _ _).alloc (Nat.le_refl _) _)
theorem Tab.drewN {w : World} (h : Tab w) (n : Nat) : Tab (w.drewN n) := h
theorem cost_q {d : Int} {w : World} (h : Tab w) : Calls Tryd.prog 12 #[.int .i64 d] w fun e w' => e = .returned (.int .i64 (costN d)) ∧ w' = w :=
  (cost_any d w h).mono fun _ _ ⟨a, b⟩ => ⟨a, b.symm⟩
theorem rcost_q {d : Int} {w : World} : Calls Tryd.prog 13 #[.int .i64 d] w fun e w' => e = .returned (.int .i64 (costN d)) ∧ w' = w :=
  (rcost_any d w).mono fun _ _ ⟨a, b⟩ => ⟨a, b.symm⟩

theorem lasts_any (l s d : Int) (w : World) (hT : Tab w) :
    Calls Tryd.prog 14 #[.agg #[.int .i64 l, .int .i64 s], .int .i64 d] w fun e w' => e = .returned (.int .i64 (lastsN l s d)) ∧ Below w.heap.size w w' := by
  obtain ⟨c1, c2⟩ := costN_bd d
  cases hv : lvalid l s
  · have e1 : lastsN l s d = 0 := by simp [lastsN, hv]
    rw [e1]; clear e1
    go_enter Tryd.func14, Tryd.ntmps14
    go_wp2_with (first | (go_at_call 18; refine (valid_any _ _ _).mono ?_; rintro e w' ⟨rfl, rfl⟩))
    go_ret
    exact ⟨rfl, ((Below.refl _ _).alloc (Nat.le_refl _) _).alloc (by simp) _⟩
  · obtain ⟨b1, b2, b3⟩ := lvalid_bd hv
    by_cases h1 : costN d = 0
    · have e1 : lastsN l s d = 0 := by simp [lastsN, h1]
      have hd : (costN d == 0) = true := by simpa using h1
      rw [e1]; clear e1 h1
      go_enter Tryd.func14, Tryd.ntmps14
      go_wp2_with (first | (go_at_call 18; refine (valid_any _ _ _).mono ?_; rintro e w' ⟨rfl, rfl⟩) | (go_at_call 12; refine (cost_any _ _ ((hT.alloc _).alloc _)).mono ?_; rintro e w' ⟨rfl, rfl⟩))
      go_ret
      exact ⟨rfl, ((Below.refl _ _).alloc (Nat.le_refl _) _).alloc (by simp) _⟩
    · have e1 : lastsN l s d = l / costN d := by simp [lastsN, hv, h1]
      have hd : (costN d == 0) = false := by simpa using h1
      have hp : 1 ≤ costN d := by omega
      rw [e1]; clear e1 h1
      go_enter Tryd.func14, Tryd.ntmps14
      go_wp2_with (first | (go_at_call 18; refine (valid_any _ _ _).mono ?_; rintro e w' ⟨rfl, rfl⟩) | (go_at_call 12; refine (cost_any _ _ ((hT.alloc _).alloc _)).mono ?_; rintro e w' ⟨rfl, rfl⟩))
      go_quiet ((go_at_call 12; exact Calls.quiet_of_same (cost_q (((hT.alloc _).alloc _).drewN _))))
      go_wp2
      go_ret
      exact ⟨rfl, below_drewN (((Below.refl _ _).alloc (Nat.le_refl _) _).alloc (by simp) _) _⟩

theorem rlasts_any (l s d : Int) (w : World) :
    Calls Tryd.prog 15 #[.agg #[.int .i64 l, .int .i64 s], .int .i64 d] w fun e w' => e = .returned (.int .i64 (lastsN l s d)) ∧ Below w.heap.size w w' := by
  obtain ⟨c1, c2⟩ := costN_bd d
  cases hv : lvalid l s
  · have e1 : lastsN l s d = 0 := by simp [lastsN, hv]
    rw [e1]; clear e1
    go_enter Tryd.func15, Tryd.ntmps15
    go_wp2_with (first | (go_at_call 16; refine (rvalid_any _ _ _).mono ?_; rintro e w' ⟨rfl, rfl⟩))
    go_ret
    exact ⟨rfl, ((Below.refl _ _).alloc (Nat.le_refl _) _).alloc (by simp) _⟩
  · obtain ⟨b1, b2, b3⟩ := lvalid_bd hv
    by_cases h1 : costN d = 0
    · have e1 : lastsN l s d = 0 := by simp [lastsN, h1]
      have hd : (costN d == 0) = true := by simpa using h1
      rw [e1]; clear e1 h1
      go_enter Tryd.func15, Tryd.ntmps15
      go_wp2_with (first | (go_at_call 16; refine (rvalid_any _ _ _).mono ?_; rintro e w' ⟨rfl, rfl⟩) | (go_at_call 13; refine (rcost_any _ _).mono ?_; rintro e w' ⟨rfl, rfl⟩))
      go_ret
      exact ⟨rfl, ((Below.refl _ _).alloc (Nat.le_refl _) _).alloc (by simp) _⟩
    · have e1 : lastsN l s d = l / costN d := by simp [lastsN, hv, h1]
      have hd : (costN d == 0) = false := by simpa using h1
      have hp : 1 ≤ costN d := by omega
      rw [e1]; clear e1 h1
      go_enter Tryd.func15, Tryd.ntmps15
      go_wp2_with (first | (go_at_call 16; refine (rvalid_any _ _ _).mono ?_; rintro e w' ⟨rfl, rfl⟩) | (go_at_call 13; refine (rcost_any _ _).mono ?_; rintro e w' ⟨rfl, rfl⟩))
      go_quiet ((go_at_call 13; exact Calls.quiet_of_same rcost_q))
      go_wp2
      go_ret
      exact ⟨rfl, below_drewN (((Below.refl _ _).alloc (Nat.le_refl _) _).alloc (by simp) _) _⟩

/-- An old cell behind a new block. -/
theorem cell_alloc_old {w : World} {o : Obj} {a : Addr} (h : (w.cell? a).isSome = true) : (w.alloc o).cell? a = w.cell? a := by
  obtain ⟨v, hv⟩ := Option.isSome_iff_exists.1 h
  have := World.block_lt_of_cell? w a hv
  exact World.cell?_of_block (w := w) (Below.heap_alloc w o a.block this)
attribute [local go_sem] cell_alloc_old

theorem head_any (w : World) (hT : Tab w) : Calls Tryd.prog 9 #[] w fun e w' => e = .returned (.bool true) ∧ Below w.heap.size w w' := by
  have v1 : spendE 100 5 60 = 0 := by decide
  have v2 : spendL 100 5 60 = 40 := by decide
  have v3 : spendS 100 5 60 = 65 := by decide
  have v4 : spendE 40 65 60 = 15 := by decide
  have v5 : spendL 40 65 60 = 40 := by decide
  have v6 : spendS 40 65 60 = 65 := by decide
  have v7 : spendE 40 65 (-1) = 1 := by decide
  have v10 : spendE 1000000000 1 1 = 1 := by decide
  have v11 : lastsN 100 0 1 = 2 := by decide
  have v12 : costN 2 = 60 := by decide
  have v13 : costN 3 = 0 := by decide
  have v14 : costN (-1) = 0 := by decide
  go_enter Tryd.func9, Tryd.ntmps9
  go_wp2_with fail
  refine (spend_any _ _ _ _).mono ?_
  rintro e w1 ⟨rfl, hb1⟩
  go_wp2_with fail
  refine (spend_any _ _ _ _).mono ?_
  rintro e w2 ⟨rfl, hb2⟩
  have c1 : w2.cell? ⟨w1.heap.size, 0, none⟩ = some (.int .i64 40) := keep1 hb2 (by simp)
  have c2 : w2.cell? ⟨w1.heap.size, 1, none⟩ = some (.int .i64 65) := keep1 hb2 (by simp)
  go_wp2_with fail
  refine (spend_any _ _ _ _).mono ?_
  rintro e w3 ⟨rfl, hb3⟩
  have c3 : w3.cell? ⟨w1.heap.size, 0, none⟩ = some (.int .i64 40) := keep1 hb3 (by rw [cell_alloc_old (by rw [c1]; rfl)]; exact c1)
  have c4 : w3.cell? ⟨w1.heap.size, 1, none⟩ = some (.int .i64 65) := keep1 hb3 (by rw [cell_alloc_old (by rw [c2]; rfl)]; exact c2)
  have c5 : w3.cell? ⟨w2.heap.size, 0, none⟩ = some (.int .i64 40) := keep1 hb3 (by simp)
  have c6 : w3.cell? ⟨w2.heap.size, 1, none⟩ = some (.int .i64 65) := keep1 hb3 (by simp)
  go_wp2_with fail
  refine (spend_any _ _ _ _).mono ?_
  rintro e w4 ⟨rfl, hb4⟩
  have d3 : w4.cell? ⟨w1.heap.size, 0, none⟩ = some (.int .i64 40) := keep1 hb4 (by rw [cell_alloc_old (by rw [c3]; rfl)]; exact c3)
  have d4 : w4.cell? ⟨w1.heap.size, 1, none⟩ = some (.int .i64 65) := keep1 hb4 (by rw [cell_alloc_old (by rw [c4]; rfl)]; exact c4)
  have d5 : w4.cell? ⟨w2.heap.size, 0, none⟩ = some (.int .i64 40) := keep1 hb4 (by rw [cell_alloc_old (by rw [c5]; rfl)]; exact c5)
  have d6 : w4.cell? ⟨w2.heap.size, 1, none⟩ = some (.int .i64 65) := keep1 hb4 (by rw [cell_alloc_old (by rw [c6]; rfl)]; exact c6)
  have B1 := bstep (hb1.alloc hb1.size _) hb2
  have B2 := bstep (B1.alloc B1.size _) hb3
  have B3 := bstep (B2.alloc B2.size _) hb4
  have B4 : Below w.heap.size w (w4.alloc (.cells #[.int .i64 (spendL 1000000000 1 1), .int .i64 (spendS 1000000000 1 1)] 23)) := B3.alloc B3.size _
  have T4 := hT.keep B4
  go_wp2_with fail
  refine (lasts_any _ _ _ _ T4).mono ?_
  rintro e w5 ⟨rfl, hb5⟩
  have B5 := bstep B4 hb5
  have T5 := hT.keep B5
  go_wp2_with (first | (go_at_call 12; refine (cost_any _ _ T5).mono ?_; rintro e w' ⟨rfl, rfl⟩))
  go_ret
  exact ⟨rfl, B5⟩
end Go.Proofs.YthidofifdehddaaDoor
