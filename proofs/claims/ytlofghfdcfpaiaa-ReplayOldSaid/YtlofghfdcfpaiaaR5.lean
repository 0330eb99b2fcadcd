/- Proved: what the reference's Note returns: the program's result. Conditions: the bits of a window fit into a uint64. -/
import Derived.Test.YtlofghfdcfpaiaaR4
namespace Go.Proofs.Ytlofghfdcfpaiaa
open Go.RowKit Go.Sort
set_option linter.unusedVariables false
attribute [local go_sem] cell_alloc_old

set_option maxHeartbeats 1000000 in
theorem rnote_any (T : Int) (B : Nat) (n : Int) (w : World) (hB : B < U) :
    Calls Try.prog 11 #[.agg #[.int .i64 T, .int .u64 B], .int .i64 n] w fun e w' =>
      e = .returned (.tuple #[.agg #[.int .i64 (noteT T B n), .int .u64 (noteB T B n)], .int .i64 (noteE T B n)]) ∧ Below w.heap.size w w' := by
  have B0 : Below w.heap.size w ((w.alloc (box T B)).alloc (.cells #[.int .i64 0, .int .u64 0] 24)) := ((Below.refl _ _).alloc (Nat.le_refl _) _).alloc (by simp) _
  cases hv : validN T B
  · have e1 : noteE T B n = 1 := by simp [noteE, hv]
    have e2 : noteT T B n = 0 := by simp [noteT, e1]
    have e3 : ((noteB T B n : Nat) : Int) = 0 := by simp [noteB, e1]
    rw [e1, e2, e3]; clear e1 e2 e3
    go_enter Try.func11, Try.ntmps11
    go_wp2_with fail
    refine (rvalid_any _ _ _ hB).mono ?_
    rw [hv]
    rintro e w1 ⟨rfl, hb⟩
    have z := hb.size
    simp only [World.size_alloc] at z
    have d0 : w1.cell? ⟨w.heap.size + 1, 0, none⟩ = some (.int .i64 0) := keep1 hb (by simp)
    have d1 : w1.cell? ⟨w.heap.size + 1, 1, none⟩ = some (.int .u64 0) := keep1 hb (by simp)
    have f0 : w1.frozen? ⟨w.heap.size + 1, 0, none⟩ = false := keepF hb (v := .int .i64 0) (by simp) (by simp)
    have f1 : w1.frozen? ⟨w.heap.size + 1, 1, none⟩ = false := keepF hb (v := .int .u64 0) (by simp) (by simp)
    go_wp2_with fail
    refine bodyPost_ret (v := .tuple #[.agg #[.int .i64 0, .int .u64 0], .int .i64 1]) (by simp [results, Try.results11, go_sem, d0, d1]) rfl ⟨rfl, ?_⟩
    exact (((bstep B0 hb).setCell (by simp) _).setCell (by simp) _)
  · obtain ⟨v1, v2⟩ := valid_bd hv
    cases hc : counterN n
    · have e1 : noteE T B n = 1 := by simp [noteE, hc]
      have e2 : noteT T B n = 0 := by simp [noteT, e1]
      have e3 : ((noteB T B n : Nat) : Int) = 0 := by simp [noteB, e1]
      rw [e1, e2, e3]; clear e1 e2 e3
      go_enter Try.func11, Try.ntmps11
      go_wp2_with fail
      refine (rvalid_any _ _ _ hB).mono ?_
      rw [hv]
      rintro e w1 ⟨rfl, hb⟩
      have z := hb.size
      simp only [World.size_alloc] at z
      have d0 : w1.cell? ⟨w.heap.size + 1, 0, none⟩ = some (.int .i64 0) := keep1 hb (by simp)
      have d1 : w1.cell? ⟨w.heap.size + 1, 1, none⟩ = some (.int .u64 0) := keep1 hb (by simp)
      have f0 : w1.frozen? ⟨w.heap.size + 1, 0, none⟩ = false := keepF hb (v := .int .i64 0) (by simp) (by simp)
      have f1 : w1.frozen? ⟨w.heap.size + 1, 1, none⟩ = false := keepF hb (v := .int .u64 0) (by simp) (by simp)
      go_wp2_with (first | (go_at_call 18; refine (rcounter_any _ _).mono ?_; rintro e w' ⟨rfl, rfl⟩))
      refine bodyPost_ret (v := .tuple #[.agg #[.int .i64 0, .int .u64 0], .int .i64 1]) (by simp [results, Try.results11, go_sem, d0, d1]) rfl ⟨rfl, ?_⟩
      exact (((bstep B0 hb).setCell (by simp) _).setCell (by simp) _)
    · obtain ⟨c1, c2⟩ := counter_bd hc
      cases hf : freshN T B n
      · have e1 : noteE T B n = 14 := by simp [noteE, hv, hc, hf]
        have e2 : noteT T B n = 0 := by simp [noteT, e1]
        have e3 : ((noteB T B n : Nat) : Int) = 0 := by simp [noteB, e1]
        rw [e1, e2, e3]; clear e1 e2 e3
        go_enter Try.func11, Try.ntmps11
        go_wp2_with fail
        refine (rvalid_any _ _ _ hB).mono ?_
        rw [hv]
        rintro e w1 ⟨rfl, hb⟩
        have z := hb.size
        simp only [World.size_alloc] at z
        have d0 : w1.cell? ⟨w.heap.size + 1, 0, none⟩ = some (.int .i64 0) := keep1 hb (by simp)
        have d1 : w1.cell? ⟨w.heap.size + 1, 1, none⟩ = some (.int .u64 0) := keep1 hb (by simp)
        have f0 : w1.frozen? ⟨w.heap.size + 1, 0, none⟩ = false := keepF hb (v := .int .i64 0) (by simp) (by simp)
        have f1 : w1.frozen? ⟨w.heap.size + 1, 1, none⟩ = false := keepF hb (v := .int .u64 0) (by simp) (by simp)
        have t0 : w1.cell? ⟨w.heap.size, 0, none⟩ = some (.int .i64 T) := keep1 hb (old1 (by simp) _)
        have t1 : w1.cell? ⟨w.heap.size, 1, none⟩ = some (.int .u64 B) := keep1 hb (old1 (by simp) _)
        go_wp2_with (first | (go_at_call 18; refine (rcounter_any _ _).mono ?_; rintro e w' ⟨rfl, rfl⟩))
        refine (rfresh_any _ _ _ _ hB).mono ?_
        rw [hf]
        rintro e w2 ⟨rfl, hb2⟩
        have z2 := hb2.size
        have g0 := keep1 hb2 d0
        have g1 := keep1 hb2 d1
        have i0 := keepF hb2 d0 f0
        have i1 := keepF hb2 d1 f1
        go_wp2_with fail
        refine bodyPost_ret (v := .tuple #[.agg #[.int .i64 0, .int .u64 0], .int .i64 14]) (by simp [results, Try.results11, go_sem, g0, g1]) rfl ⟨rfl, ?_⟩
        exact (((bstep (bstep B0 hb) hb2).setCell (by simp) _).setCell (by simp) _)
      · have e1 : noteE T B n = 0 := by simp [noteE, hv, hc, hf]
        have e2 : noteT T B n = max T n := by simp [noteT, e1]
        have e3 : noteB T B n = withN (upN B (max T n - T)) (max T n - n) := by simp [noteB, e1]
        have hd := (fresh_bd hf).2.2
        rw [e1, e2, e3]; clear e1 e2 e3
        go_enter Try.func11, Try.ntmps11
        go_wp2_with fail
        refine (rvalid_any _ _ _ hB).mono ?_
        rw [hv]
        rintro e w1 ⟨rfl, hb⟩
        have z := hb.size
        simp only [World.size_alloc] at z
        have d0 : w1.cell? ⟨w.heap.size + 1, 0, none⟩ = some (.int .i64 0) := keep1 hb (by simp)
        have d1 : w1.cell? ⟨w.heap.size + 1, 1, none⟩ = some (.int .u64 0) := keep1 hb (by simp)
        have f0 : w1.frozen? ⟨w.heap.size + 1, 0, none⟩ = false := keepF hb (v := .int .i64 0) (by simp) (by simp)
        have f1 : w1.frozen? ⟨w.heap.size + 1, 1, none⟩ = false := keepF hb (v := .int .u64 0) (by simp) (by simp)
        have t0 : w1.cell? ⟨w.heap.size, 0, none⟩ = some (.int .i64 T) := keep1 hb (old1 (by simp) _)
        have t1 : w1.cell? ⟨w.heap.size, 1, none⟩ = some (.int .u64 B) := keep1 hb (old1 (by simp) _)
        go_wp2_with (first | (go_at_call 18; refine (rcounter_any _ _).mono ?_; rintro e w' ⟨rfl, rfl⟩))
        refine (rfresh_any _ _ _ _ hB).mono ?_
        rw [hf]
        rintro e w2 ⟨rfl, hb2⟩
        have z2 := hb2.size
        have g0 := keep1 hb2 d0
        have g1 := keep1 hb2 d1
        have i0 := keepF hb2 d0 f0
        have i1 := keepF hb2 d1 f1
        have s0 := keep1 hb2 t0
        have s1 := keep1 hb2 t1
        have B2 := bstep (bstep B0 hb) hb2
        clear d0 d1 f0 f1 t0 t1
        obtain ⟨top, htop⟩ : ∃ top, top = max T n := ⟨_, rfl⟩
        have ht1 : T ≤ top := by omega
        have ht2 : n ≤ top := by omega
        have ht3 : top ≤ 1000000000 := by omega
        go_wp2_with fail
        rw [← htop]
        go_loopw [7] (fun i wr => ∃ (k : Nat) (X : Nat), k ≤ 64 ∧ i = .int .i64 k ∧ X < U ∧ (∀ j : Nat, X.testBit j = (decide (j < k) && condN T B n j)) ∧
            wr.cell? ⟨w.heap.size, 0, none⟩ = some (.int .i64 T) ∧ wr.cell? ⟨w.heap.size, 1, none⟩ = some (.int .u64 B) ∧
            wr.cell? ⟨w.heap.size + 1, 0, none⟩ = some (.int .i64 0) ∧ wr.cell? ⟨w.heap.size + 1, 1, none⟩ = some (.int .u64 0) ∧
            wr.frozen? ⟨w.heap.size + 1, 0, none⟩ = false ∧ wr.frozen? ⟨w.heap.size + 1, 1, none⟩ = false ∧
            wr.cell? ⟨w2.heap.size, 0, none⟩ = some (.int .i64 top) ∧ wr.cell? ⟨w2.heap.size, 1, none⟩ = some (.int .u64 X) ∧ wr.frozen? ⟨w2.heap.size, 1, none⟩ = false ∧ Below w.heap.size w wr) (fun i _ => 64 - (intOf i).toNat)
        case atStart =>
          refine ⟨0, 0, by omega, rfl, by decide, fun j => by simp, old1 s0 _, old1 s1 _, old1 g0 _, old1 g1 _, (frozen?_alloc_cells _ _ _ _).trans i0, (frozen?_alloc_cells _ _ _ _).trans i1, by simp, by simp, by simp, ball B2 _⟩
        case round =>
          obtain ⟨k, X, hk, rfl, hX, hbits, s0, s1, g0, g1, i0, i1, x0, x1, x2, hB3⟩ := hrel
          have HB := Lib.hid hbits; clear hbits
          have HT := Lib.hid htop; clear htop
          by_cases hlt : k < 64
          · have ho := one_nat k hlt
            have hSl : 1 <<< k < 18446744073709551616 := by rw [Nat.shiftLeft_eq, Nat.one_mul]; exact Nat.lt_of_lt_of_le (Nat.pow_lt_pow_right (by decide) hlt) (by decide)
            obtain ⟨S, hS⟩ : ∃ S : Nat, S = 1 <<< k := ⟨_, rfl⟩
            rw [← hS] at ho hSl
            have ho2 := u64_or_nat X S hX hSl
            have HS := Lib.hid hS; clear hS
            have lt0 := World.block_lt_of_cell? _ _ x0
            simp only at lt0
            have ne1 : ¬ w2.heap.size = w.heap.size := by omega
            have ne2 : ¬ w2.heap.size = w.heap.size + 1 := by omega
            have ne3 : ¬ w.heap.size = w2.heap.size := by omega
            have ne4 : ¬ w.heap.size + 1 = w2.heap.size := by omega
            by_cases hkn : top - k = n
            · have hkn' : (top - k == n) = true := by simpa using hkn
              have hck : condN T B n k = true := by unfold condN; rw [← HT.out]; simp [hkn]
              have HCk := Lib.hid hck
              have HK := Lib.hid hkn; clear hkn hck
              go_wp2
              go_region
              all_goals
                go_wp2
                go_roundw
                case rel =>
                  refine ⟨k + 1, X ||| S, by omega, by go_num, (by rw [HS.out]; exact or_lt hX hlt), fun j => ?_, ?_, ?_, ?_, ?_, ?_, ?_, ?_, ?_, ?_, ?_⟩
                  · rw [HS.out, or_bit, HB.out]
                    by_cases hjk : j = k
                    · subst hjk; simp [HCk.out]
                    · have : (j < k + 1) = (j < k) := by apply propext; omega
                      simp [hjk, this]
                  · go_simp
                  · go_simp
                  · go_simp
                  · go_simp
                  · go_simp
                  · go_simp
                  · go_simp
                  · go_simp
                  · go_simp
                  · exact ((hB3).setCell (by show w.heap.size ≤ w2.heap.size; omega) _).drew
                case measure => simp [intOf]; omega
            · have hkn' : (top - k == n) = false := by simpa using hkn
              by_cases h1 : top - k ≤ T
              · by_cases h2 : T - 64 < top - k
                · have hck : condN T B n k = B.testBit (T - (top - k)).toNat := by unfold condN; rw [← HT.out]; simp [hkn, h1, h2]
                  have HK := Lib.hid hkn; clear hkn
                  cases hbit : B.testBit (T - (top - k)).toNat
                  · have HCk := Lib.hid (hck.trans hbit); clear hck
                    go_wp2_with (first | (go_at_call 23; refine (there_any T B _ _ hB (by omega) (by omega) (by omega)).mono ?_; rw [hbit]; rintro e w' ⟨rfl, rfl⟩))
                    go_roundw
                    case rel =>
                      refine ⟨k + 1, X, by omega, by go_num, hX, fun j => ?_, old1 s0 _, old1 s1 _, old1 g0 _, old1 g1 _, (frozen?_alloc_cells _ _ _ _).trans i0, (frozen?_alloc_cells _ _ _ _).trans i1, old1 x0 _, old1 x1 _, (frozen?_alloc_cells _ _ _ _).trans x2, ball hB3 _⟩
                      rw [HB.out]
                      by_cases hjk : j = k
                      · subst hjk; simp [HCk.out]
                      · have : (j < k + 1) = (j < k) := by apply propext; omega
                        simp [this]
                    case measure => simp [intOf]; omega
                  · have HCk := Lib.hid (hck.trans hbit); clear hck
                    go_wp2_with (first | (go_at_call 23; refine (there_any T B _ _ hB (by omega) (by omega) (by omega)).mono ?_; rw [hbit]; rintro e w' ⟨rfl, rfl⟩))
                    have B4 := ball hB3 (box T B)
                    obtain ⟨W, hW⟩ : ∃ W, W = wr.alloc (box T B) := ⟨_, rfl⟩
                    have s0 : W.cell? ⟨w.heap.size, 0, none⟩ = some (.int .i64 T) := by rw [hW]; exact old1 s0 _
                    have s1 : W.cell? ⟨w.heap.size, 1, none⟩ = some (.int .u64 B) := by rw [hW]; exact old1 s1 _
                    have g0 : W.cell? ⟨w.heap.size + 1, 0, none⟩ = some (.int .i64 0) := by rw [hW]; exact old1 g0 _
                    have g1 : W.cell? ⟨w.heap.size + 1, 1, none⟩ = some (.int .u64 0) := by rw [hW]; exact old1 g1 _
                    have i0 : W.frozen? ⟨w.heap.size + 1, 0, none⟩ = false := by rw [hW]; exact (frozen?_alloc_cells _ _ _ _).trans i0
                    have i1 : W.frozen? ⟨w.heap.size + 1, 1, none⟩ = false := by rw [hW]; exact (frozen?_alloc_cells _ _ _ _).trans i1
                    have x0 : W.cell? ⟨w2.heap.size, 0, none⟩ = some (.int .i64 top) := by rw [hW]; exact old1 x0 _
                    have x1 : W.cell? ⟨w2.heap.size, 1, none⟩ = some (.int .u64 X) := by rw [hW]; exact old1 x1 _
                    have x2 : W.frozen? ⟨w2.heap.size, 1, none⟩ = false := by rw [hW]; exact (frozen?_alloc_cells _ _ _ _).trans x2
                    rw [← hW] at B4 ⊢
                    clear hW
                    go_region
                    all_goals
                      go_wp2
                      go_roundw
                      case rel =>
                        refine ⟨k + 1, X ||| S, by omega, by go_num, (by rw [HS.out]; exact or_lt hX hlt), fun j => ?_, ?_, ?_, ?_, ?_, ?_, ?_, ?_, ?_, ?_, ?_⟩
                        · rw [HS.out, or_bit, HB.out]
                          by_cases hjk : j = k
                          · subst hjk; simp [HCk.out]
                          · have : (j < k + 1) = (j < k) := by apply propext; omega
                            simp [hjk, this]
                        · go_simp
                        · go_simp
                        · go_simp
                        · go_simp
                        · go_simp
                        · go_simp
                        · go_simp
                        · go_simp
                        · go_simp
                        · exact ((B4).setCell (by show w.heap.size ≤ w2.heap.size; omega) _).drew
                      case measure => simp [intOf]; omega
                · exfalso; omega
              · have hck : condN T B n k = false := by unfold condN; rw [← HT.out]; simp [hkn, h1]
                have HCk := Lib.hid hck; clear hck
                have HK := Lib.hid hkn; clear hkn
                go_wp2
                go_roundw
                case rel =>
                  refine ⟨k + 1, X, by omega, by go_num, hX, fun j => ?_, s0, s1, g0, g1, i0, i1, x0, x1, x2, hB3⟩
                  rw [HB.out]
                  by_cases hjk : j = k
                  · subst hjk; simp [HCk.out]
                  · have : (j < k + 1) = (j < k) := by apply propext; omega
                    simp [this]
                case measure => simp [intOf]; omega
          · obtain rfl : k = 64 := by omega
            have hx := note_eq hB hf hX (fun j hj => by rw [HB.out]; simp [hj])
            have lt0 := World.block_lt_of_cell? _ _ x0
            simp only at lt0
            have HX := Lib.hid hx; clear hx
            go_wp2
            refine bodyPost_ret (v := .tuple #[.agg #[.int .i64 top, .int .u64 X], .int .i64 0]) (by simp [results, Try.results11, go_sem, g0, g1]) rfl ⟨by rw [HX.out, HT.out], ?_⟩
            exact ((hB3.setCell (by simp) _).setCell (by simp) _)
end Go.Proofs.Ytlofghfdcfpaiaa
