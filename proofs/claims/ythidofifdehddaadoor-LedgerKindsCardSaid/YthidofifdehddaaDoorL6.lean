/- Proved: that the law LedgerLasts returns true for every input. Conditions: the table of costs holds its three numbers. -/
import Derived.Test.YthidofifdehddaaDoorL5
import Derived.Deep.RegionHeld3
import Derived.Deep.DeepCutAuto
import Derived.Deep.RegionWith
namespace Go.Proofs.YthidofifdehddaaDoor
open Go.RowKit Go.Sort Go.BigFrame
set_option linter.unusedVariables false
attribute [local go_sem] cell_alloc_old

theorem lasts_bd (l s d : Int) (hc : 1 ≤ costN d) : 0 ≤ lastsN l s d ∧ lastsN l s d ≤ 1000000000 := by
  unfold lastsN
  split
  · omega
  · rename_i h
    have hv : lvalid l s = true := by cases hv : lvalid l s <;> simp_all
    obtain ⟨b1, b2, b3⟩ := lvalid_bd hv
    have h1 : 0 ≤ l / costN d := Int.ediv_nonneg b1 (by omega)
    have h2 : l / costN d ≤ l := Int.ediv_le_self _ b1
    omega

theorem bcell {W w1 : World} (hb : Below W.heap.size W w1) : (∀ b o, b < W.heap.size → w1.cell? ⟨b, o, none⟩ = W.cell? ⟨b, o, none⟩) ∧ (∀ b o, b < W.heap.size → w1.frozen? ⟨b, o, none⟩ = W.frozen? ⟨b, o, none⟩) :=
  ⟨fun b o h => hb.cell (p := ⟨b, o, none⟩) h, fun b o h => hb.frozen (p := ⟨b, o, none⟩) h⟩

/-- What a call leaves of a ledger's variable and of the table. -/
def Held (b : Nat) (l s : Int) (w : World) : Prop := w.cell? ⟨b, 0, none⟩ = some (.int .i64 l) ∧ w.cell? ⟨b, 1, none⟩ = some (.int .i64 s)

set_option maxHeartbeats 1000000 in
theorem lawLasts (l s kd : Int) (w : World) (hT : Tab w) (hk0 : 0 ≤ kd) (hk1 : kd ≤ 255) :
    Calls Tryd.prog 5 #[.agg #[.int .i64 l, .int .i64 s], .int .u8 kd] w fun e w' => e = .returned (.bool true) ∧ Below w.heap.size w w' := by
  have T0 := hT.alloc (.cells #[.int .i64 l, .int .i64 s] 23)
  have B0 : Below w.heap.size w (w.alloc (.cells #[.int .i64 l, .int .i64 s] 23)) := (Below.refl _ _).alloc (Nat.le_refl _) _
  have hd0 : 0 ≤ kd % 3 := by omega
  have hd1 : kd % 3 ≤ 2 := by omega
  have hcp : 1 ≤ costN (kd % 3) := by
    have : kd % 3 = 0 ∨ kd % 3 = 1 ∨ kd % 3 = 2 := by omega
    rcases this with h | h | h <;> rw [h] <;> decide
  obtain ⟨n1, n2⟩ := lasts_bd l s (kd % 3) hcp
  cases hv : lvalid l s
  · go_enter Tryd.func5, Tryd.ntmps5
    go_wp2_with fail
    refine (head_any _ T0).mono ?_
    rintro e w1 ⟨rfl, hb1⟩
    have c1 : w1.cell? ⟨w.heap.size, 0, none⟩ = some (.int .i64 l) := keep1 hb1 (by simp)
    have c2 : w1.cell? ⟨w.heap.size, 1, none⟩ = some (.int .i64 s) := keep1 hb1 (by simp)
    have B1 := bstep B0 hb1
    have T1 := hT.keep B1
    go_wp2_with fail
    refine (lasts_any _ _ _ _ T1).mono ?_
    rintro e w2 ⟨rfl, hb2⟩
    have d1 := keep1 hb2 c1
    have d2 := keep1 hb2 c2
    have B2 := bstep B1 hb2
    go_wp2_with (first | (go_at_call 16; refine (rvalid_any _ _ _).mono ?_; rintro e w' ⟨rfl, rfl⟩))
    go_ret
    exact ⟨rfl, B2.alloc B2.size _⟩
  · obtain ⟨b1, b2, b3⟩ := lvalid_bd hv
    by_cases hn : 2000 < lastsN l s (kd % 3)
    · go_enter Tryd.func5, Tryd.ntmps5
      go_wp2_with fail
      refine (head_any _ T0).mono ?_
      rintro e w1 ⟨rfl, hb1⟩
      have c1 : w1.cell? ⟨w.heap.size, 0, none⟩ = some (.int .i64 l) := keep1 hb1 (by simp)
      have c2 : w1.cell? ⟨w.heap.size, 1, none⟩ = some (.int .i64 s) := keep1 hb1 (by simp)
      have B1 := bstep B0 hb1
      have T1 := hT.keep B1
      go_wp2_with fail
      refine (lasts_any _ _ _ _ T1).mono ?_
      rintro e w2 ⟨rfl, hb2⟩
      have d1 := keep1 hb2 c1
      have d2 := keep1 hb2 c2
      have B2 := bstep B1 hb2
      go_wp2_with (first | (go_at_call 16; refine (rvalid_any _ _ _).mono ?_; rintro e w' ⟨rfl, rfl⟩))
      go_ret
      exact ⟨rfl, B2.alloc B2.size _⟩
    · obtain ⟨n, hn'⟩ := Int.eq_ofNat_of_zero_le n1
      have hln : lastsN l s (kd % 3) = l / costN (kd % 3) := by
        have : costN (kd % 3) ≠ 0 := by omega
        simp [lastsN, hv, this]
      obtain ⟨C, hC⟩ : ∃ C, C = costN (kd % 3) := ⟨_, rfl⟩
      rw [← hC] at hcp hln
      have hC2 := costN_bd (kd % 3)
      rw [← hC] at hC2
      have hnC : (n : Int) * C ≤ l := by rw [← hn', hln]; exact Int.ediv_mul_le _ (by omega)
      have hnC2 : l < (n : Int) * C + C := by
        rw [← hn', hln]
        have := Int.lt_ediv_add_one_mul_self l (show 0 < C by omega)
        rw [Int.add_mul, Int.one_mul] at this; exact this
      go_enter Tryd.func5, Tryd.ntmps5
      go_wp2_with fail
      refine (head_any _ T0).mono ?_
      rintro e w1 ⟨rfl, hb1⟩
      have c1 : w1.cell? ⟨w.heap.size, 0, none⟩ = some (.int .i64 l) := keep1 hb1 (by simp)
      have c2 : w1.cell? ⟨w.heap.size, 1, none⟩ = some (.int .i64 s) := keep1 hb1 (by simp)
      have fz1 : w1.frozen? ⟨w.heap.size, 0, none⟩ = false := keepF hb1 (v := .int .i64 l) (by simp) (by simp)
      have fz2 : w1.frozen? ⟨w.heap.size, 1, none⟩ = false := keepF hb1 (v := .int .i64 s) (by simp) (by simp)
      have B1 := bstep B0 hb1
      have T1 := hT.keep B1
      go_wp2_with fail
      refine (lasts_any _ _ _ _ T1).mono ?_
      rw [hn']
      rintro e w2 ⟨rfl, hb2⟩
      have d1 := keep1 hb2 c1
      have d2 := keep1 hb2 c2
      have d3 := keepF hb2 c1 fz1
      have d4 := keepF hb2 c2 fz2
      have B2 := bstep B1 hb2
      have hn2 : ¬ (2000 : Int) < (n : Int) := by rw [← hn']; omega
      have HN := Lib.hid hn'; have HC := Lib.hid hC; have HL := Lib.hid hln
      clear hn' hC hln hn
      go_wp2_with (first | (go_at_call 16; refine (rvalid_any _ _ _).mono ?_; rintro e w' ⟨rfl, rfl⟩))
      have B3 := B2.alloc B2.size (.cells #[.int .i64 l, .int .i64 s] 23)
      go_loopw [28] (fun i wr => ∃ (k : Nat), k ≤ n ∧ i = .int .i64 k ∧
          wr.cell? ⟨w.heap.size, 0, none⟩ = some (.int .i64 (l - k * C)) ∧ wr.cell? ⟨w.heap.size, 1, none⟩ = some (.int .i64 (s + k * C)) ∧
          wr.frozen? ⟨w.heap.size, 0, none⟩ = false ∧ wr.frozen? ⟨w.heap.size, 1, none⟩ = false ∧ Below w.heap.size w wr) (fun i _ => n - (intOf i).toNat)
      case atStart => exact ⟨0, Nat.zero_le _, rfl, by simpa using old1 d1 _, by simpa using old1 d2 _, (frozen?_alloc_cells _ _ _ _).trans d3, (frozen?_alloc_cells _ _ _ _).trans d4, B3⟩
      case round =>
        obtain ⟨k, hk, rfl, e1, e2, f1, f2, hB⟩ := hrel
        have TR := hT.keep hB
        by_cases hlt : k < n
        · have hlt' : (k : Int) < (n : Int) := by omega
          go_upto_region 8 with fail
          go_cut [8, 9] (fun s8 s9 wx => ∃ g : Nat, s8 = .pointer (some ⟨g, 0, none⟩) ∧ s9 = .int .i64 0 ∧ wr.heap.size ≤ g ∧ wx.cell? ⟨g, 0, none⟩ = some (.int .i64 (l - k * C - C)) ∧ wx.cell? ⟨g, 1, none⟩ = some (.int .i64 (s + k * C + C)) ∧ Below wr.heap.size wr wx)
          case first =>
            have hkC : (k : Int) * C + C ≤ n * C := by
              have : ((k : Int) + 1) * C ≤ n * C := Int.mul_le_mul_of_nonneg_right (by omega) (by omega)
              rw [Int.add_mul, Int.one_mul] at this; exact this
            have se : spendE (l - k * C) (s + k * C) C = 0 := by
              have hv2 : lvalid (l - k * C) (s + k * C) = true := by simp [lvalid]; have := Int.mul_nonneg (show (0 : Int) ≤ k by omega) (show (0 : Int) ≤ C by omega); omega
              have h3 : ¬ C < 0 := by omega
              have h4 : ¬ l - k * C < C := by omega
              simp [spendE, hv2, h3, h4]
            have sl : spendL (l - k * C) (s + k * C) C = l - k * C - C := by simp [spendL, se]
            have ss : spendS (l - k * C) (s + k * C) C = s + k * C + C := by simp [spendS, se]
            have hcC : costN (kd % 3) = C := HC.out.symm
            have lt0 := World.block_lt_of_cell? _ _ e1
            simp only at lt0
            have le0 : w.heap.size ≤ wr.heap.size := by omega
            have ne0 : ¬ wr.heap.size = w.heap.size := by omega
            go_region_held3 (fun w' => w'.cell? ⟨w.heap.size, 0, none⟩ = some (.int .i64 (l - k * C)) ∧ w'.cell? ⟨w.heap.size, 1, none⟩ = some (.int .i64 (s + k * C))) (go_keep)
              (first
              | (go_at_call 12; refine (cost_any _ _ (by first | exact TR | exact TR.alloc _)).mono ?_; rintro e w' ⟨rfl, rfl⟩)
              | (go_at_call 10; refine (spend_any _ _ _ _).mono ?_; rintro e w3 ⟨rfl, hb3⟩; obtain ⟨hc3, hf3⟩ := bcell hb3; have x1 : w3.cell? ⟨w.heap.size, 0, none⟩ = some (.int .i64 (l - k * C)) := keep1 hb3 (by first | assumption | exact old1 e1 _ | exact e1); have x2 : w3.cell? ⟨w.heap.size, 1, none⟩ = some (.int .i64 (s + k * C)) := keep1 hb3 (by first | assumption | exact old1 e2 _ | exact e2); have z3 := hb3.size; (try simp only [World.size_alloc, World.size_drew] at z3); have z4 : wr.heap.size ≤ w3.heap.size := (by omega); have ne3 : ¬ w3.heap.size = w.heap.size := (by omega)))
            all_goals
              go_wp2_with fail
              go_meet
              refine ⟨_, rfl, rfl, ?_, ?_, ?_, ?_⟩
              · first | exact Nat.le_refl _ | exact z4
              · go_simp
              · go_simp
              · repeat (first | exact bstep (Below.refl _ _).drew hb3 | exact bstep ((Below.refl _ _).alloc (Nat.le_refl _) _).drew hb3 | exact bstep (Below.refl _ _) hb3 | exact bstep ((Below.refl _ _).alloc (Nat.le_refl _) _) hb3 | refine Below.setCell ?_ (by simp <;> omega) _ | refine Below.alloc ?_ z4 _ | refine Below.alloc ?_ (by simp <;> omega) _ | refine Below.drew ?_)
          case rest =>
            obtain ⟨g, rfl, rfl, hg, g1, g2, hbx⟩ := hcut
            have B4 := bstep hB hbx
            have x1 := keep1 hbx e1
            have x2 := keep1 hbx e2
            have y1 := keepF hbx e1 f1
            have y2 := keepF hbx e2 f2
            have lt0 := World.block_lt_of_cell? _ _ e1
            simp only at lt0
            go_wp2
            go_roundw
            case rel =>
              have ek : ((k + 1 : Nat) : Int) * C = k * C + C := by rw [show ((k + 1 : Nat) : Int) = (k : Int) + 1 from by omega, Int.add_mul, Int.one_mul]
              have ek1 : l - ((k + 1 : Nat) : Int) * C = l - k * C - C := by rw [ek]; omega
              have ek2 : s + ((k + 1 : Nat) : Int) * C = s + k * C + C := by rw [ek]; omega
              refine ⟨k + 1, by omega, by go_num, ?_, ?_, ?_, ?_, ?_⟩
              · rw [ek1]; clear ek ek1 ek2; go_simp
              · rw [ek2]; clear ek ek1 ek2; go_simp
              · clear ek ek1 ek2; go_simp
              · clear ek ek1 ek2; go_simp
              · exact (B4.setCell (Nat.le_refl _) _).setCell (Nat.le_refl _) _
            case measure => simp [intOf]; omega
        · obtain rfl : k = n := by omega
          clear TR
          have TR := hT.keep hB
          have se : spendE (l - k * C) (s + k * C) C = 15 := by
            have hv2 : lvalid (l - k * C) (s + k * C) = true := by simp [lvalid]; have := Int.mul_nonneg (show (0 : Int) ≤ k by omega) (show (0 : Int) ≤ C by omega); omega
            have : ¬ C < 0 := by omega
            simp [spendE, hv2, this]; omega
          have hcC : costN (kd % 3) = C := HC.out.symm
          go_upto_region 13 with fail
          go_cut [10, 11] (fun s10 s11 wx => s11 = .int .i64 15 ∧ Below wr.heap.size wr wx)
          case first =>
            have lt0 := World.block_lt_of_cell? _ _ e1
            simp only at lt0
            have le0 : w.heap.size ≤ wr.heap.size := by omega
            have ne0 : ¬ wr.heap.size = w.heap.size := by omega
            go_region_held3 (fun w' => w'.cell? ⟨w.heap.size, 0, none⟩ = some (.int .i64 (l - k * C)) ∧ w'.cell? ⟨w.heap.size, 1, none⟩ = some (.int .i64 (s + k * C))) (go_keep)
              (first
              | (go_at_call 12; refine (cost_any _ _ (by first | exact TR | exact TR.alloc _)).mono ?_; rintro e w' ⟨rfl, rfl⟩)
              | (go_at_call 10; refine (spend_any _ _ _ _).mono ?_; rintro e w3 ⟨rfl, hb3⟩; obtain ⟨hc3, hf3⟩ := bcell hb3; have x1 : w3.cell? ⟨w.heap.size, 0, none⟩ = some (.int .i64 (l - k * C)) := keep1 hb3 (by first | assumption | exact old1 e1 _ | exact e1); have x2 : w3.cell? ⟨w.heap.size, 1, none⟩ = some (.int .i64 (s + k * C)) := keep1 hb3 (by first | assumption | exact old1 e2 _ | exact e2); have z3 := hb3.size; (try simp only [World.size_alloc, World.size_drew] at z3); have z4 : wr.heap.size ≤ w3.heap.size := (by omega); have ne3 : ¬ w3.heap.size = w.heap.size := (by omega)))
            all_goals
              go_wp2_with fail
              go_meet
              refine ⟨rfl, ?_⟩
              repeat (first | exact bstep (Below.refl _ _).drew hb3 | exact bstep ((Below.refl _ _).alloc (Nat.le_refl _) _).drew hb3 | exact bstep (Below.refl _ _) hb3 | exact bstep ((Below.refl _ _).alloc (Nat.le_refl _) _) hb3 | refine Below.setCell ?_ (by simp <;> omega) _ | refine Below.alloc ?_ z4 _ | refine Below.alloc ?_ (by simp <;> omega) _ | refine Below.drew ?_)
          case rest =>
            obtain ⟨rfl, hbx⟩ := hcut
            go_wp2
            go_ret
            exact ⟨rfl, bstep hB hbx⟩
end Go.Proofs.YthidofifdehddaaDoor
