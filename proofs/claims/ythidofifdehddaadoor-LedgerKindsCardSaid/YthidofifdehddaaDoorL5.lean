/- Proved: that the law LedgerKeeps returns true for every input. Conditions: the table of costs holds its three numbers; the list lies in memory as it is read. -/
import Derived.Test.YthidofifdehddaaDoorL4
namespace Go.Proofs.YthidofifdehddaaDoor
open Go.RowKit Go.Sort Go.BigFrame
set_option linter.unusedVariables false
attribute [local go_sem] cell_alloc_old

theorem keepF {w w' : World} {a : Addr} {v : Value} (hb : Below w.heap.size w w') (h : w.cell? a = some v) (hf : w.frozen? a = false) : w'.frozen? a = false :=
  (hb.frozen (World.block_lt_of_cell? w a h)).trans hf

theorem old1 {w : World} {a : Addr} {v : Value} (h : w.cell? a = some v) (o : Obj) : (w.alloc o).cell? a = some v := by
  rw [cell_alloc_old (by rw [h]; rfl)]; exact h

/-- What is known of a slice of integers that came in. -/
def IntsAt (w : World) (a : Option Addr) (zs : List Int) : Prop :=
  zs = [] ∨ ∃ b off, a = some ⟨b, off, none⟩ ∧ ∀ j, j < zs.length → w.cell? ⟨b, off + j, none⟩ = some (.int .i64 (zs.getD j 0))

set_option maxHeartbeats 1000000 in
theorem lawKeeps (l s : Int) (a : Option Addr) (cap : Nat) (zs : List Int) (w : World) (hT : Tab w) (hz : IntsAt w a zs) (hm : zs.length ≤ maxLen)
    (hwf : ∀ n ∈ zs, (Lit.int .i64 n).wf = true) :
    Calls Tryd.prog 4 #[.agg #[.int .i64 l, .int .i64 s], .slice a zs.length cap] w fun e w' => e = .returned (.bool true) ∧ Below w.heap.size w w' := by
  have T0 := hT.alloc (.cells #[.int .i64 l, .int .i64 s] 23)
  have B0 : Below w.heap.size w (w.alloc (.cells #[.int .i64 l, .int .i64 s] 23)) := (Below.refl _ _).alloc (Nat.le_refl _) _
  unfold maxLen at hm
  generalize hn : zs.length = n at *
  have HN := Lib.hid hn; clear hn
  cases hv : lvalid l s
  · go_enter Tryd.func4, Tryd.ntmps4
    go_wp2_with fail
    refine (head_any _ T0).mono ?_
    rintro e w1 ⟨rfl, hb1⟩
    have c1 : w1.cell? ⟨w.heap.size, 0, none⟩ = some (.int .i64 l) := keep1 hb1 (by simp)
    have c2 : w1.cell? ⟨w.heap.size, 1, none⟩ = some (.int .i64 s) := keep1 hb1 (by simp)
    have B1 := bstep B0 hb1
    go_wp2_with (first | (go_at_call 16; refine (rvalid_any _ _ _).mono ?_; rintro e w' ⟨rfl, rfl⟩))
    go_ret
    exact ⟨rfl, B1.alloc B1.size _⟩
  · obtain ⟨b1, b2, b3⟩ := lvalid_bd hv
    by_cases h1 : 1000 < n
    · have h1' : (1000 : Int) < (n : Int) := by omega
      go_enter Tryd.func4, Tryd.ntmps4
      go_wp2_with fail
      refine (head_any _ T0).mono ?_
      rintro e w1 ⟨rfl, hb1⟩
      have c1 : w1.cell? ⟨w.heap.size, 0, none⟩ = some (.int .i64 l) := keep1 hb1 (by simp)
      have c2 : w1.cell? ⟨w.heap.size, 1, none⟩ = some (.int .i64 s) := keep1 hb1 (by simp)
      have B1 := bstep B0 hb1
      go_wp2_with (first | (go_at_call 16; refine (rvalid_any _ _ _).mono ?_; rintro e w' ⟨rfl, rfl⟩))
      go_ret
      exact ⟨rfl, B1.alloc B1.size _⟩
    · have h1' : ¬ (1000 : Int) < (n : Int) := by omega
      go_enter Tryd.func4, Tryd.ntmps4
      go_wp2_with fail
      refine (head_any _ T0).mono ?_
      rintro e w1 ⟨rfl, hb1⟩
      have c1 : w1.cell? ⟨w.heap.size, 0, none⟩ = some (.int .i64 l) := keep1 hb1 (by simp)
      have c2 : w1.cell? ⟨w.heap.size, 1, none⟩ = some (.int .i64 s) := keep1 hb1 (by simp)
      have B1 := bstep B0 hb1
      go_wp2_with (first | (go_at_call 16; refine (rvalid_any _ _ _).mono ?_; rintro e w' ⟨rfl, rfl⟩))
      have B2 := B1.alloc B1.size (.cells #[.int .i64 l, .int .i64 s] 23)
      have B3 := B2.alloc B2.size (.cells #[.int .i64 l, .int .i64 s] 23)
      have z1 := hb1.size
      simp only [World.size_alloc] at z1
      have d1 := old2 c1 (.cells #[.int .i64 l, .int .i64 s] 23) (.cells #[.int .i64 l, .int .i64 s] 23)
      have d2 := old2 c2 (.cells #[.int .i64 l, .int .i64 s] 23) (.cells #[.int .i64 l, .int .i64 s] 23)
      go_loopw [7, 25] (fun sp i wr => ∃ (k : Nat) (nl ns : Int), k ≤ n ∧ i = .int .i64 k ∧ sp = .int .i64 (ns - s) ∧ 0 ≤ nl ∧ 0 ≤ ns ∧ nl + ns = l + s ∧
          wr.cell? ⟨w.heap.size, 0, none⟩ = some (.int .i64 l) ∧ wr.cell? ⟨w.heap.size, 1, none⟩ = some (.int .i64 s) ∧
          wr.cell? ⟨w1.heap.size + 1, 0, none⟩ = some (.int .i64 nl) ∧ wr.cell? ⟨w1.heap.size + 1, 1, none⟩ = some (.int .i64 ns) ∧
          wr.frozen? ⟨w1.heap.size + 1, 0, none⟩ = false ∧ wr.frozen? ⟨w1.heap.size + 1, 1, none⟩ = false ∧ Below w.heap.size w wr) (fun _ i _ => n - (intOf i).toNat)
      case atStart => exact ⟨0, l, s, Nat.zero_le _, rfl, by simp, b1, b2, rfl, d1, d2, by simp, by simp, by simp, by simp, B3⟩
      case round =>
        obtain ⟨k, nl, ns, hk, rfl, rfl, q1, q2, q3, e1, e2, e3, e4, f1, f2, hB⟩ := hrel
        by_cases hlt : k < n
        · obtain ⟨c, hc, hcw⟩ : ∃ c : Int, (∃ b off, a = some ⟨b, off, none⟩ ∧ w.cell? ⟨b, off + k, none⟩ = some (.int .i64 c)) ∧ (Lit.int .i64 c).wf = true := by
            rcases hz with h | ⟨b, off, ha, h⟩
            · subst h; have := HN.out; simp at this; omega
            · refine ⟨zs.getD k 0, ⟨b, off, ha, h k (by rw [HN.out]; exact hlt)⟩, hwf _ ?_⟩
              have hk' : k < zs.length := by rw [HN.out]; exact hlt
              rw [List.getD_eq_getElem?_getD, List.getElem?_eq_getElem hk']
              exact List.getElem_mem hk'
          obtain ⟨b, off, rfl, hc0⟩ := hc
          have hcr : wr.cell? ⟨b, off + k, none⟩ = some (.int .i64 c) := keep1 hB hc0
          have hvn : lvalid nl ns = true := by simp [lvalid]; omega
          clear hz hwf d1 d2 c1 c2 hc0
          have Q3 := Lib.hid q3; clear q3
          have hq : nl + ns ≤ 1000000000 := by rw [Q3.out]; exact b3
          by_cases k1 : c < 0
          · have p1 : spendE nl ns c = 1 := by simp [spendE, k1]
            have p2 : spendL nl ns c = nl := by simp [spendL, p1]
            have p3 : spendS nl ns c = ns := by simp [spendS, p1]
            have s1 : (nl + (ns) != l + s) = false := by rw [Q3.out]; simp
            have s2 : (ns != s + (ns - s)) = false := by simp; omega
            go_wp2_with fail
            refine (spend_any _ _ _ _).mono ?_
            rintro e w3 ⟨rfl, hb3⟩
            have g1 := keep1 hb3 e1
            have g2 := keep1 hb3 e2
            have g3 := keep1 hb3 e3
            have g4 := keep1 hb3 e4
            have g5 := keepF hb3 e3 f1
            have g6 := keepF hb3 e4 f2
            have z3 := hb3.size
            have B4 := bstep hB hb3
            have lt1 := World.block_lt_of_cell? _ _ e3
            have lt2 := World.block_lt_of_cell? _ _ g3
            have lt0 := World.block_lt_of_cell? _ _ g1
            simp only at lt1 lt2 lt0
            go_wp2
            go_roundw
            case rel =>
              exact ⟨k + 1, nl, ns, by omega, by go_num, rfl, q1, q2, Q3.out, old1 g1 _, old1 g2 _, old1 g3 _, old1 g4 _, (frozen?_alloc_cells _ _ _ _).trans g5, (frozen?_alloc_cells _ _ _ _).trans g6, B4.alloc B4.size _⟩
            case measure => simp [intOf]; omega
          · by_cases k2 : nl < c
            · have p1 : spendE nl ns c = 15 := by simp [spendE, hvn, k1, k2]
              have p2 : spendL nl ns c = nl := by simp [spendL, p1]
              have p3 : spendS nl ns c = ns := by simp [spendS, p1]
              have s1 : (nl + (ns) != l + s) = false := by rw [Q3.out]; simp
              have s2 : (ns != s + (ns - s)) = false := by simp; omega
              go_wp2_with fail
              refine (spend_any _ _ _ _).mono ?_
              rintro e w3 ⟨rfl, hb3⟩
              have g1 := keep1 hb3 e1
              have g2 := keep1 hb3 e2
              have g3 := keep1 hb3 e3
              have g4 := keep1 hb3 e4
              have g5 := keepF hb3 e3 f1
              have g6 := keepF hb3 e4 f2
              have z3 := hb3.size
              have B4 := bstep hB hb3
              have lt1 := World.block_lt_of_cell? _ _ e3
              have lt2 := World.block_lt_of_cell? _ _ g3
              have lt0 := World.block_lt_of_cell? _ _ g1
              simp only at lt1 lt2 lt0
              go_wp2
              go_roundw
              case rel =>
                exact ⟨k + 1, nl, ns, by omega, by go_num, rfl, q1, q2, Q3.out, old1 g1 _, old1 g2 _, old1 g3 _, old1 g4 _, (frozen?_alloc_cells _ _ _ _).trans g5, (frozen?_alloc_cells _ _ _ _).trans g6, B4.alloc B4.size _⟩
              case measure => simp [intOf]; omega
            · have p1 : spendE nl ns c = 0 := by simp [spendE, hvn, k1, k2]
              have p2 : spendL nl ns c = nl - c := by simp [spendL, p1]
              have p3 : spendS nl ns c = ns + c := by simp [spendS, p1]
              have s1 : (nl - c + (ns + c) != l + s) = false := by rw [← Q3.out]; simp; omega
              have s2 : (ns + c != s + (ns - s + c)) = false := by simp; omega
              go_wp2_with fail
              refine (spend_any _ _ _ _).mono ?_
              rintro e w3 ⟨rfl, hb3⟩
              have g1 := keep1 hb3 e1
              have g2 := keep1 hb3 e2
              have g3 := keep1 hb3 e3
              have g4 := keep1 hb3 e4
              have g5 := keepF hb3 e3 f1
              have g6 := keepF hb3 e4 f2
              have z3 := hb3.size
              have B4 := bstep hB hb3
              have lt1 := World.block_lt_of_cell? _ _ e3
              have lt2 := World.block_lt_of_cell? _ _ g3
              have lt0 := World.block_lt_of_cell? _ _ g1
              simp only at lt1 lt2 lt0
              go_wp2
              go_roundw
              case rel =>
                refine ⟨k + 1, nl - c, ns + c, by omega, by go_num, by go_num, by omega, by omega, by rw [← Q3.out]; omega, ?_, ?_, ?_, ?_, ?_, ?_, ?_⟩
                · rw [cell_alloc_old (by go_simp)]; go_simp
                · rw [cell_alloc_old (by go_simp)]; go_simp
                · go_simp
                · go_simp
                · go_simp
                · go_simp
                · exact (((B4.setCell (by show w.heap.size ≤ w1.heap.size + 1; omega) _).setCell (by show w.heap.size ≤ w1.heap.size + 1; omega) _).alloc (by simp; omega) _)
              case measure => simp [intOf]; omega
        · obtain rfl : k = n := by omega
          go_wp2
          go_ret
          exact ⟨rfl, hB⟩
end Go.Proofs.YthidofifdehddaaDoor
