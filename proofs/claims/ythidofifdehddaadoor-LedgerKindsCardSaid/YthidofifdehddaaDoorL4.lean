/- Proved: that the laws LedgerRefuses, LedgerSteps and LedgerKinds return true for every input. Conditions: the table of costs holds its three numbers. -/
import Derived.Test.YthidofifdehddaaDoorL3
namespace Go.Proofs.YthidofifdehddaaDoor
open Go.RowKit Go.Sort Go.BigFrame
set_option linter.unusedVariables false
attribute [local go_sem] cell_alloc_old

theorem old2 {w : World} {a : Addr} {v : Value} (h : w.cell? a = some v) (o p : Obj) : ((w.alloc o).alloc p).cell? a = some v := by
  have h1 : (w.alloc o).cell? a = some v := by rw [cell_alloc_old (by rw [h]; rfl)]; exact h
  rw [cell_alloc_old (by rw [h1]; rfl)]; exact h1

theorem spend_refused {l s c : Int} (h : spendE l s c ≠ 0) : spendL l s c = l ∧ spendS l s c = s := by
  simp [spendL, spendS, h]

theorem lawRefuses (l s c : Int) (w : World) (hT : Tab w) :
    Calls Tryd.prog 7 #[.agg #[.int .i64 l, .int .i64 s], .int .i64 c] w fun e w' => e = .returned (.bool true) ∧ Below w.heap.size w w' := by
  have T0 := hT.alloc (.cells #[.int .i64 l, .int .i64 s] 23)
  have B0 : Below w.heap.size w (w.alloc (.cells #[.int .i64 l, .int .i64 s] 23)) := (Below.refl _ _).alloc (Nat.le_refl _) _
  cases hv : lvalid l s
  · have e1 : spendE l s c = 1 := by simp [spendE, hv]
    have e2 : spendL l s c = l := by simp [spendL, e1]
    have e3 : spendS l s c = s := by simp [spendS, e1]
    go_enter Tryd.func7, Tryd.ntmps7
    go_wp2_with fail
    refine (head_any _ T0).mono ?_
    rintro e w1 ⟨rfl, hb1⟩
    have c1 : w1.cell? ⟨w.heap.size, 0, none⟩ = some (.int .i64 l) := keep1 hb1 (by simp)
    have c2 : w1.cell? ⟨w.heap.size, 1, none⟩ = some (.int .i64 s) := keep1 hb1 (by simp)
    have B1 := bstep B0 hb1
    go_wp2_with fail
    refine (spend_any _ _ _ _).mono ?_
    rintro e w2 ⟨rfl, hb2⟩
    have d1 := keep1 hb2 c1
    have d2 := keep1 hb2 c2
    have B2 := bstep B1 hb2
    have x1 := old2 d1
    have x2 := old2 d2
    go_wp2_with (first | (go_at_call 16; refine (rvalid_any _ _ _).mono ?_; rintro e w' ⟨rfl, rfl⟩))
    go_ret
    refine ⟨(by first | rfl | (simp; omega)), ?_⟩
    repeat (first | exact B2 | refine Below.alloc ?_ (by have := B2.size; simp <;> omega) _)
  · obtain ⟨b1, b2, b3⟩ := lvalid_bd hv
    by_cases h1 : c < 0
    · have e1 : spendE l s c = 1 := by simp [spendE, h1]
      have e2 : spendL l s c = l := by simp [spendL, e1]
      have e3 : spendS l s c = s := by simp [spendS, e1]
      go_enter Tryd.func7, Tryd.ntmps7
      go_wp2_with fail
      refine (head_any _ T0).mono ?_
      rintro e w1 ⟨rfl, hb1⟩
      have c1 : w1.cell? ⟨w.heap.size, 0, none⟩ = some (.int .i64 l) := keep1 hb1 (by simp)
      have c2 : w1.cell? ⟨w.heap.size, 1, none⟩ = some (.int .i64 s) := keep1 hb1 (by simp)
      have B1 := bstep B0 hb1
      go_wp2_with fail
      refine (spend_any _ _ _ _).mono ?_
      rintro e w2 ⟨rfl, hb2⟩
      have d1 := keep1 hb2 c1
      have d2 := keep1 hb2 c2
      have B2 := bstep B1 hb2
      have x1 := old2 d1
      have x2 := old2 d2
      go_wp2_with (first | (go_at_call 16; refine (rvalid_any _ _ _).mono ?_; rintro e w' ⟨rfl, rfl⟩))
      go_ret
      refine ⟨(by first | rfl | (simp; omega)), ?_⟩
      repeat (first | exact B2 | refine Below.alloc ?_ (by have := B2.size; simp <;> omega) _)
    · by_cases h2 : l < c
      · have e1 : spendE l s c = 15 := by simp [spendE, hv, h1, h2]
        have e2 : spendL l s c = l := by simp [spendL, e1]
        have e3 : spendS l s c = s := by simp [spendS, e1]
        go_enter Tryd.func7, Tryd.ntmps7
        go_wp2_with fail
        refine (head_any _ T0).mono ?_
        rintro e w1 ⟨rfl, hb1⟩
        have c1 : w1.cell? ⟨w.heap.size, 0, none⟩ = some (.int .i64 l) := keep1 hb1 (by simp)
        have c2 : w1.cell? ⟨w.heap.size, 1, none⟩ = some (.int .i64 s) := keep1 hb1 (by simp)
        have B1 := bstep B0 hb1
        go_wp2_with fail
        refine (spend_any _ _ _ _).mono ?_
        rintro e w2 ⟨rfl, hb2⟩
        have d1 := keep1 hb2 c1
        have d2 := keep1 hb2 c2
        have B2 := bstep B1 hb2
        have x1 := old2 d1
        have x2 := old2 d2
        go_wp2_with (first | (go_at_call 16; refine (rvalid_any _ _ _).mono ?_; rintro e w' ⟨rfl, rfl⟩))
        go_ret
        refine ⟨(by first | rfl | (simp; omega)), ?_⟩
        repeat (first | exact B2 | refine Below.alloc ?_ (by have := B2.size; simp <;> omega) _)
      · have e1 : spendE l s c = 0 := by simp [spendE, hv, h1, h2]
        have e2 : spendL l s c = l - c := by simp [spendL, e1]
        have e3 : spendS l s c = s + c := by simp [spendS, e1]
        go_enter Tryd.func7, Tryd.ntmps7
        go_wp2_with fail
        refine (head_any _ T0).mono ?_
        rintro e w1 ⟨rfl, hb1⟩
        have c1 : w1.cell? ⟨w.heap.size, 0, none⟩ = some (.int .i64 l) := keep1 hb1 (by simp)
        have c2 : w1.cell? ⟨w.heap.size, 1, none⟩ = some (.int .i64 s) := keep1 hb1 (by simp)
        have B1 := bstep B0 hb1
        go_wp2_with fail
        refine (spend_any _ _ _ _).mono ?_
        rintro e w2 ⟨rfl, hb2⟩
        have d1 := keep1 hb2 c1
        have d2 := keep1 hb2 c2
        have B2 := bstep B1 hb2
        have x1 := old2 d1
        have x2 := old2 d2
        go_wp2_with (first | (go_at_call 16; refine (rvalid_any _ _ _).mono ?_; rintro e w' ⟨rfl, rfl⟩))
        go_ret
        refine ⟨(by first | rfl | (simp; omega)), ?_⟩
        repeat (first | exact B2 | refine Below.alloc ?_ (by have := B2.size; simp <;> omega) _)

set_option maxHeartbeats 400000 in
theorem lawSteps (l s a b : Int) (w : World) (hT : Tab w) :
    Calls Tryd.prog 6 #[.agg #[.int .i64 l, .int .i64 s], .int .i64 a, .int .i64 b] w fun e w' => e = .returned (.bool true) ∧ Below w.heap.size w w' := by
  have T0 := hT.alloc (.cells #[.int .i64 l, .int .i64 s] 23)
  have B0 : Below w.heap.size w (w.alloc (.cells #[.int .i64 l, .int .i64 s] 23)) := (Below.refl _ _).alloc (Nat.le_refl _) _
  cases hv : lvalid l s
  · go_enter Tryd.func6, Tryd.ntmps6
    go_wp2_with fail
    refine (head_any _ T0).mono ?_
    rintro e w1 ⟨rfl, hb1⟩
    have c1 : w1.cell? ⟨w.heap.size, 0, none⟩ = some (.int .i64 l) := keep1 hb1 (by simp)
    have c2 : w1.cell? ⟨w.heap.size, 1, none⟩ = some (.int .i64 s) := keep1 hb1 (by simp)
    have B1 := bstep B0 hb1
    go_wp2_with fail
    refine (rvalid_any _ _ _).mono ?_
    rintro e w1' ⟨rfl, rfl⟩
    go_wp2
    go_ret
    exact ⟨rfl, B1.alloc B1.size _⟩
  · obtain ⟨b1, b2, b3⟩ := lvalid_bd hv
    by_cases k1 : a < 0
    · go_enter Tryd.func6, Tryd.ntmps6
      go_wp2_with fail
      refine (head_any _ T0).mono ?_
      rintro e w1 ⟨rfl, hb1⟩
      have c1 : w1.cell? ⟨w.heap.size, 0, none⟩ = some (.int .i64 l) := keep1 hb1 (by simp)
      have c2 : w1.cell? ⟨w.heap.size, 1, none⟩ = some (.int .i64 s) := keep1 hb1 (by simp)
      have B1 := bstep B0 hb1
      go_wp2_with fail
      refine (rvalid_any _ _ _).mono ?_
      rintro e w1' ⟨rfl, rfl⟩
      go_wp2
      go_ret
      exact ⟨rfl, B1.alloc B1.size _⟩
    · by_cases k2 : b < 0
      · go_enter Tryd.func6, Tryd.ntmps6
        go_wp2_with fail
        refine (head_any _ T0).mono ?_
        rintro e w1 ⟨rfl, hb1⟩
        have c1 : w1.cell? ⟨w.heap.size, 0, none⟩ = some (.int .i64 l) := keep1 hb1 (by simp)
        have c2 : w1.cell? ⟨w.heap.size, 1, none⟩ = some (.int .i64 s) := keep1 hb1 (by simp)
        have B1 := bstep B0 hb1
        go_wp2_with fail
        refine (rvalid_any _ _ _).mono ?_
        rintro e w1' ⟨rfl, rfl⟩
        go_wp2
        go_ret
        exact ⟨rfl, B1.alloc B1.size _⟩
      · by_cases k3 : 1000000000 < a
        · go_enter Tryd.func6, Tryd.ntmps6
          go_wp2_with fail
          refine (head_any _ T0).mono ?_
          rintro e w1 ⟨rfl, hb1⟩
          have c1 : w1.cell? ⟨w.heap.size, 0, none⟩ = some (.int .i64 l) := keep1 hb1 (by simp)
          have c2 : w1.cell? ⟨w.heap.size, 1, none⟩ = some (.int .i64 s) := keep1 hb1 (by simp)
          have B1 := bstep B0 hb1
          go_wp2_with fail
          refine (rvalid_any _ _ _).mono ?_
          rintro e w1' ⟨rfl, rfl⟩
          go_wp2
          go_ret
          exact ⟨rfl, B1.alloc B1.size _⟩
        · by_cases k4 : 1000000000 < b
          · go_enter Tryd.func6, Tryd.ntmps6
            go_wp2_with fail
            refine (head_any _ T0).mono ?_
            rintro e w1 ⟨rfl, hb1⟩
            have c1 : w1.cell? ⟨w.heap.size, 0, none⟩ = some (.int .i64 l) := keep1 hb1 (by simp)
            have c2 : w1.cell? ⟨w.heap.size, 1, none⟩ = some (.int .i64 s) := keep1 hb1 (by simp)
            have B1 := bstep B0 hb1
            go_wp2_with fail
            refine (rvalid_any _ _ _).mono ?_
            rintro e w1' ⟨rfl, rfl⟩
            go_wp2
            go_ret
            exact ⟨rfl, B1.alloc B1.size _⟩
          · by_cases h1 : l < a
            · have e1 : spendE l s a = 15 := by simp [spendE, hv, k1, h1]
              have e2 : spendL l s a = l := by simp [spendL, e1]
              have e3 : spendS l s a = s := by simp [spendS, e1]
              have n1 : ¬ a + b < 0 := by omega
              have n2 : l < a + b := by omega
              have m1 : spendE l s (a + b) = 15 := by simp [spendE, hv, n1, n2]
              go_enter Tryd.func6, Tryd.ntmps6
              go_wp2_with fail
              refine (head_any _ T0).mono ?_
              rintro e w1 ⟨rfl, hb1⟩
              have c1 : w1.cell? ⟨w.heap.size, 0, none⟩ = some (.int .i64 l) := keep1 hb1 (by simp)
              have c2 : w1.cell? ⟨w.heap.size, 1, none⟩ = some (.int .i64 s) := keep1 hb1 (by simp)
              have B1 := bstep B0 hb1
              go_wp2_with fail
              refine (rvalid_any _ _ _).mono ?_
              rintro e w1' ⟨rfl, rfl⟩
              have B1' := B1.alloc B1.size (.cells #[.int .i64 l, .int .i64 s] 23)
              go_wp2_with fail
              refine (spend_any _ _ _ _).mono ?_
              rintro e w2 ⟨rfl, hb2⟩
              have d1 : w2.cell? ⟨w.heap.size, 0, none⟩ = some (.int .i64 l) := keep1 hb2 (by rw [cell_alloc_old (by rw [c1]; rfl)]; exact c1)
              have d2 : w2.cell? ⟨w.heap.size, 1, none⟩ = some (.int .i64 s) := keep1 hb2 (by rw [cell_alloc_old (by rw [c2]; rfl)]; exact c2)
              have B2 := bstep B1' hb2
              go_wp2_with fail
              refine (spend_any _ _ _ _).mono ?_
              rintro e w3 ⟨rfl, hb3⟩
              have f1 : w3.cell? ⟨w.heap.size, 0, none⟩ = some (.int .i64 l) := keep1 hb3 (by rw [cell_alloc_old (by rw [d1]; rfl)]; exact d1)
              have f2 : w3.cell? ⟨w.heap.size, 1, none⟩ = some (.int .i64 s) := keep1 hb3 (by rw [cell_alloc_old (by rw [d2]; rfl)]; exact d2)
              have B3 := bstep (B2.alloc B2.size _) hb3
              go_wp2_with fail
              refine (spend_any _ _ _ _).mono ?_
              rintro e w4 ⟨rfl, hb4⟩
              have B4 := bstep (B3.alloc B3.size _) hb4
              go_wp2_with fail
              go_ret
              exact ⟨rfl, B4.alloc B4.size _⟩
            · have hv2 : lvalid (l - a) (s + a) = true := by simp [lvalid]; omega
              have e1 : spendE l s a = 0 := by simp [spendE, hv, k1, h1]
              have e2 : spendL l s a = l - a := by simp [spendL, e1]
              have e3 : spendS l s a = s + a := by simp [spendS, e1]
              by_cases h2 : l - a < b
              · have p1 : spendE (l - a) (s + a) b = 15 := by simp [spendE, hv2, k2, h2]
                have p2 : spendL (l - a) (s + a) b = l - a := by simp [spendL, p1]
                have p3 : spendS (l - a) (s + a) b = s + a := by simp [spendS, p1]
                have n1 : ¬ a + b < 0 := by omega
                have n2 : l < a + b := by omega
                have m1 : spendE l s (a + b) = 15 := by simp [spendE, hv, n1, n2]
                go_enter Tryd.func6, Tryd.ntmps6
                go_wp2_with fail
                refine (head_any _ T0).mono ?_
                rintro e w1 ⟨rfl, hb1⟩
                have c1 : w1.cell? ⟨w.heap.size, 0, none⟩ = some (.int .i64 l) := keep1 hb1 (by simp)
                have c2 : w1.cell? ⟨w.heap.size, 1, none⟩ = some (.int .i64 s) := keep1 hb1 (by simp)
                have B1 := bstep B0 hb1
                go_wp2_with fail
                refine (rvalid_any _ _ _).mono ?_
                rintro e w1' ⟨rfl, rfl⟩
                have B1' := B1.alloc B1.size (.cells #[.int .i64 l, .int .i64 s] 23)
                go_wp2_with fail
                refine (spend_any _ _ _ _).mono ?_
                rintro e w2 ⟨rfl, hb2⟩
                have d1 : w2.cell? ⟨w.heap.size, 0, none⟩ = some (.int .i64 l) := keep1 hb2 (by rw [cell_alloc_old (by rw [c1]; rfl)]; exact c1)
                have d2 : w2.cell? ⟨w.heap.size, 1, none⟩ = some (.int .i64 s) := keep1 hb2 (by rw [cell_alloc_old (by rw [c2]; rfl)]; exact c2)
                have B2 := bstep B1' hb2
                go_wp2_with fail
                refine (spend_any _ _ _ _).mono ?_
                rintro e w3 ⟨rfl, hb3⟩
                have f1 : w3.cell? ⟨w.heap.size, 0, none⟩ = some (.int .i64 l) := keep1 hb3 (by rw [cell_alloc_old (by rw [d1]; rfl)]; exact d1)
                have f2 : w3.cell? ⟨w.heap.size, 1, none⟩ = some (.int .i64 s) := keep1 hb3 (by rw [cell_alloc_old (by rw [d2]; rfl)]; exact d2)
                have B3 := bstep (B2.alloc B2.size _) hb3
                go_wp2_with fail
                refine (spend_any _ _ _ _).mono ?_
                rintro e w4 ⟨rfl, hb4⟩
                have B4 := bstep (B3.alloc B3.size _) hb4
                go_wp2_with fail
                go_ret
                exact ⟨rfl, B4.alloc B4.size _⟩
              · have p1 : spendE (l - a) (s + a) b = 0 := by simp [spendE, hv2, k2, h2]
                have p2 : spendL (l - a) (s + a) b = l - a - b := by simp [spendL, p1]
                have p3 : spendS (l - a) (s + a) b = s + a + b := by simp [spendS, p1]
                have n1 : ¬ a + b < 0 := by omega
                have n2 : ¬ l < a + b := by omega
                have m1 : spendE l s (a + b) = 0 := by simp [spendE, hv, n1, n2]
                have m2 : spendL l s (a + b) = l - a - b := by simp [spendL, m1]; omega
                have m3 : spendS l s (a + b) = s + a + b := by simp [spendS, m1]; omega
                go_enter Tryd.func6, Tryd.ntmps6
                go_wp2_with fail
                refine (head_any _ T0).mono ?_
                rintro e w1 ⟨rfl, hb1⟩
                have c1 : w1.cell? ⟨w.heap.size, 0, none⟩ = some (.int .i64 l) := keep1 hb1 (by simp)
                have c2 : w1.cell? ⟨w.heap.size, 1, none⟩ = some (.int .i64 s) := keep1 hb1 (by simp)
                have B1 := bstep B0 hb1
                go_wp2_with fail
                refine (rvalid_any _ _ _).mono ?_
                rintro e w1' ⟨rfl, rfl⟩
                have B1' := B1.alloc B1.size (.cells #[.int .i64 l, .int .i64 s] 23)
                go_wp2_with fail
                refine (spend_any _ _ _ _).mono ?_
                rintro e w2 ⟨rfl, hb2⟩
                have d1 : w2.cell? ⟨w.heap.size, 0, none⟩ = some (.int .i64 l) := keep1 hb2 (by rw [cell_alloc_old (by rw [c1]; rfl)]; exact c1)
                have d2 : w2.cell? ⟨w.heap.size, 1, none⟩ = some (.int .i64 s) := keep1 hb2 (by rw [cell_alloc_old (by rw [c2]; rfl)]; exact c2)
                have B2 := bstep B1' hb2
                go_wp2_with fail
                refine (spend_any _ _ _ _).mono ?_
                rintro e w3 ⟨rfl, hb3⟩
                have f1 : w3.cell? ⟨w.heap.size, 0, none⟩ = some (.int .i64 l) := keep1 hb3 (by rw [cell_alloc_old (by rw [d1]; rfl)]; exact d1)
                have f2 : w3.cell? ⟨w.heap.size, 1, none⟩ = some (.int .i64 s) := keep1 hb3 (by rw [cell_alloc_old (by rw [d2]; rfl)]; exact d2)
                have B3 := bstep (B2.alloc B2.size _) hb3
                go_wp2_with fail
                refine (spend_any _ _ _ _).mono ?_
                rintro e w4 ⟨rfl, hb4⟩
                have B4 := bstep (B3.alloc B3.size _) hb4
                have g1 : w4.cell? ⟨w3.heap.size, 0, none⟩ = some (.int .i64 (l - a - b)) := keep1 hb4 (by simp)
                have g2 : w4.cell? ⟨w3.heap.size, 1, none⟩ = some (.int .i64 (s + a + b)) := keep1 hb4 (by simp)
                go_wp2_with fail
                go_ret
                exact ⟨rfl, B4.alloc B4.size _⟩

theorem lasts_mono (l s : Int) : lastsN l s 1 ≤ lastsN l s 0 ∧ lastsN l s 2 ≤ lastsN l s 1 := by
  have c0 : costN 0 = 1 := by decide
  have c1 : costN 1 = 40 := by decide
  have c2 : costN 2 = 60 := by decide
  cases hv : lvalid l s
  · simp [lastsN, hv]
  · obtain ⟨b1, b2, b3⟩ := lvalid_bd hv
    simp only [lastsN, hv, c0, c1, c2]
    simp
    omega

set_option maxHeartbeats 400000 in
theorem lawKinds (l s d : Int) (w : World) (hT : Tab w) :
    Calls Tryd.prog 8 #[.agg #[.int .i64 l, .int .i64 s], .int .i64 d] w fun e w' => e = .returned (.bool true) ∧ Below w.heap.size w w' := by
  have T0 := hT.alloc (.cells #[.int .i64 l, .int .i64 s] 23)
  have B0 : Below w.heap.size w (w.alloc (.cells #[.int .i64 l, .int .i64 s] 23)) := (Below.refl _ _).alloc (Nat.le_refl _) _
  have v0 : costN 0 = 1 := by decide
  have v1 : costN 1 = 40 := by decide
  have v2 : costN 2 = 60 := by decide
  obtain ⟨m1, m2⟩ := lasts_mono l s
  have key : (decide (0 ≤ d) = true ∧ decide (d ≤ 2) = true) ∨ (decide (0 ≤ d) = false ∧ (costN d == 0) = true) ∨ (decide (0 ≤ d) = true ∧ decide (d ≤ 2) = false ∧ (costN d == 0) = true) := by
    by_cases q1 : 0 ≤ d
    · by_cases q2 : d ≤ 2
      · exact .inl ⟨by simpa using q1, by simpa using q2⟩
      · exact .inr (.inr ⟨by simpa using q1, by simpa using q2, by simp [costN]; omega⟩)
    · exact .inr (.inl ⟨by simpa using q1, by simp [costN]; omega⟩)
  rcases key with ⟨q1, q2⟩ | ⟨q1, q2⟩ | ⟨q1, q2, q3⟩
  all_goals
    go_enter Tryd.func8, Tryd.ntmps8
    go_wp2_with fail
    refine (head_any _ T0).mono ?_
    rintro e W ⟨rfl, hb1⟩
    have c1 : W.cell? ⟨w.heap.size, 0, none⟩ = some (.int .i64 l) := keep1 hb1 (by simp)
    have c2 : W.cell? ⟨w.heap.size, 1, none⟩ = some (.int .i64 s) := keep1 hb1 (by simp)
    have B1 := bstep B0 hb1
    have T1 := hT.keep B1
    go_wp2_with (first | (go_at_call 12; refine (cost_any _ _ T1).mono ?_; rintro e w' ⟨rfl, rfl⟩))
    have k1 := cell_regrown c1
    have k2 := cell_regrown c2
    refine wp_region_quiet_below (by kernel_rfl) (by kernel_rfl) ?_
    repeat (go_big_quiet_step (first
      | (go_at_call 14; exact rg_of fun w' h => lasts_any _ _ _ _ (T1.keep h))))
    refine wpQuiet_nil ?_
    intro _ hw'
    obtain ⟨⟨dq, osq⟩, hw''⟩ := hw'
    subst hw''
    go_wp2
    go_ret
    exact ⟨rfl, bstep B1 (below_regrown W dq osq)⟩
end Go.Proofs.YthidofifdehddaaDoor
