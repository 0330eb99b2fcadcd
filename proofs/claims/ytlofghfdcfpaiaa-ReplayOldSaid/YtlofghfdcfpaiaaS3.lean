/- Proved: that the law ReplayOld returns true for every input. Conditions: the list of steps lies in memory; the bits of a window fit into a uint64. -/
import Derived.Test.YtlofghfdcfpaiaaS1
import Derived.Test.YtlofghfdcfpaiaaR6
namespace Go.Proofs.Ytlofghfdcfpaiaa
open Go.RowKit Go.Sort
set_option linter.unusedVariables false
attribute [local go_sem] cell_alloc_old

theorem fresh_B' (T : Int) (B : Nat) (n : Int) (F : Bool) (w : World) (hB : B < U) (h : freshN T B n = F) :
    Calls Try.prog 14 #[.agg #[.int .i64 T, .int .u64 B], .int .i64 n] w fun e w' => e = .returned (.bool F) ∧ Below w.heap.size w w' :=
  (fresh_any T B n w hB).mono fun e w'' ⟨a, b⟩ => ⟨by rw [a, h], b ▸ ball (ball (Below.refl _ _) _) _⟩

set_option maxHeartbeats 2000000 in
theorem lawOld (T : Int) (B : Nat) (n : Int) (a : Option Addr) (cap : Nat) (zs : List Int) (w : World) (hB : B < U) (hz : IntsAt .i8 w a zs) (hm : zs.length ≤ maxLen) (hwf : ∀ z ∈ zs, (Lit.int .i8 z).wf = true) :
    Calls Try.prog 8 #[.agg #[.int .i64 T, .int .u64 B], .int .i64 n, .slice a zs.length cap] w fun e w' => e = .returned (.bool true) ∧ Below w.heap.size w w' := by
  by_cases hE : noteE T B n = 14
  · obtain ⟨o1, o2, o3⟩ := old_iff.1 hE
    have HE := Lib.hid hE
    go_enter Try.func8, Try.ntmps8
    go_wp2_with fail
    refine (head_any _).mono ?_
    rintro e w1 ⟨rfl, hb1⟩
    have t0 : w1.cell? ⟨w.heap.size, 0, none⟩ = some (.int .i64 T) := keep1 hb1 (by simp)
    have t1 : w1.cell? ⟨w.heap.size, 1, none⟩ = some (.int .u64 B) := keep1 hb1 (by simp)
    have f0 : w1.frozen? ⟨w.heap.size, 0, none⟩ = false := keepF hb1 (v := .int .i64 T) (by simp) (by simp)
    have f1 : w1.frozen? ⟨w.heap.size, 1, none⟩ = false := keepF hb1 (v := .int .u64 B) (by simp) (by simp)
    have B1 := bstep (ball (Below.refl w.heap.size w) _) hb1
    go_wp2_with fail
    refine (note_any _ _ _ _ hB).mono ?_
    rw [HE.out]
    rintro e w2 ⟨rfl, hb2⟩
    have F0 := keepF hb2 t0 f0
    have F1 := keepF hb2 t1 f1
    have T0 := keep1 hb2 t0
    have T1 := keep1 hb2 t1
    have B2 := ball (bstep B1 hb2) (box (noteT T B n) (noteB T B n))
    clear t0 t1 f0 f1
    go_wp2_with fail
    have hz2 := hz.keep B2
    refine (counters_any a cap zs _ hz2 hm hwf).mono ?_
    rintro e w3 ⟨v, rfl, out, hown, hl100, hbd, hb3⟩
    obtain ⟨ao, co, rfl, hints, hlc, hcm⟩ := hown.shape
    have t0 := keep1 hb3 (old1 T0 _)
    have t1 := keep1 hb3 (old1 T1 _)
    have f0 := keepF hb3 (old1 T0 _) ((frozen?_alloc_cells _ _ _ _).trans F0)
    have f1 := keepF hb3 (old1 T1 _) ((frozen?_alloc_cells _ _ _ _).trans F1)
    have B3 := bstep B2 hb3
    clear T0 T1 F0 F1 hz2
    obtain ⟨base, hbs⟩ : ∃ base, base = (w2.alloc (.cells #[.int .i64 (noteT T B n), .int .u64 (noteB T B n)] 24)).heap.size := ⟨_, rfl⟩
    rw [← hbs] at hown
    have hbase : w.heap.size < base := by have := World.block_lt_of_cell? _ _ (old1 (keep1 hb2 (keep1 hb1 (by simp : (w.alloc (box T B)).cell? ⟨w.heap.size, 0, none⟩ = some (.int .i64 T)))) (.cells #[.int .i64 (noteT T B n), .int .u64 (noteB T B n)] 24)); simp only at this; omega
    clear hbs hints
    generalize hlen : out.length = m at *
    have HL := Lib.hid hlen; clear hlen
    have HBD := Lib.hid hbd; clear hbd
    go_wp2_with fail
    go_loopw [29] (fun i wr => ∃ (k : Nat) (T' : Int) (B' : Nat), k ≤ m ∧ i = .int .i64 k ∧ B' < U ∧ Hid (noteE T' B' n = 14) ∧
      wr.cell? ⟨w.heap.size, 0, none⟩ = some (.int .i64 T') ∧ wr.cell? ⟨w.heap.size, 1, none⟩ = some (.int .u64 B') ∧
      wr.frozen? ⟨w.heap.size, 0, none⟩ = false ∧ wr.frozen? ⟨w.heap.size, 1, none⟩ = false ∧ Own .i64 wr base 3 (.slice ao m co) out ∧ Below w.heap.size w wr) (fun i _ => m - (intOf i).toNat)
    case atStart => exact ⟨0, T, B, Nat.zero_le _, rfl, hB, HE, t0, t1, f0, f1, hown, B3⟩
    case round =>
      obtain ⟨k, T', B', hk, rfl, hU, hE', t0, t1, f0, f1, hown, B4⟩ := hrel
      have hints := hown.ints
      clear hb1 hb2 hb3 B1 B2 B3
      by_cases hlt : k < m
      · obtain ⟨b, off, ha, hc⟩ : ∃ b off, ao = some ⟨b, off, none⟩ ∧ wr.cell? ⟨b, off + k, none⟩ = some (.int .i64 (out.getD k 0)) := by
          rcases hints with h | ⟨b, off, ha, h⟩
          · subst h; have := HL.out; simp at this; omega
          · exact ⟨b, off, ha, h k (by rw [HL.out]; exact hlt)⟩
        subst ha
        have hx : 1 ≤ out.getD k 0 ∧ out.getD k 0 ≤ 13200 := by
          have hk' : k < out.length := by rw [HL.out]; exact hlt
          rw [List.getD_eq_getElem?_getD, List.getElem?_eq_getElem hk']
          exact HBD.out _ (List.getElem_mem hk')
        generalize out.getD k 0 = x at *
        obtain ⟨p1, p2, p3⟩ := old_iff.1 hE'.out
        obtain ⟨v1, v2⟩ := valid_bd p1
        have HP1 := Lib.hid p1; have HP2 := Lib.hid p2; have HP3 := Lib.hid p3; clear p1 p2 p3
        obtain ⟨y, hy⟩ : ∃ y, y = max 1 (min 1000000000 (T' + x - 500)) := ⟨_, rfl⟩
        have HY := Lib.hid hy; clear hy
        by_cases hN : noteE T' B' y = 0
        · have HN := Lib.hid hN; clear hN
          have hst := old_stays hU hE'.out HN.out
          have hfr := (old_iff.1 hst).2.2
          have HST := Lib.hid hst; have HFR := Lib.hid hfr; clear hst hfr
          have hU' := noteB_lt T' B' y
          generalize hTn : noteT T' B' y = Tn at *
          generalize hBn : noteB T' B' y = Bn at *
          have HTn := Lib.hid hTn; have HBn := Lib.hid hBn; clear hTn hBn
          go_wp2_with fail
          rw [← HY.out]
          refine (note_any _ _ _ _ hU).mono ?_
          rw [HN.out, HTn.out, HBn.out]
          rintro e w4 ⟨rfl, hb4⟩
          have T0 := keep1 hb4 t0
          have T1 := keep1 hb4 t1
          have F0 := keepF hb4 t0 f0
          have F1 := keepF hb4 t1 f1
          have H5 := hown.keep hb4
          have B5 := bstep B4 hb4
          clear t0 t1 f0 f1 hints hown B4 hc
          have z1 := World.block_lt_of_cell? _ _ T0
          simp only at z1
          have ne1 : ¬ w4.heap.size = w.heap.size := by omega
          have ne3 : ¬ w.heap.size = w4.heap.size := by omega
          go_wp2_with fail
          refine (note_any Tn Bn _ _ hU').mono ?_
          rw [HST.out]
          rintro e w5 ⟨rfl, hb5⟩
          have t0 : w5.cell? ⟨w.heap.size, 0, none⟩ = some (.int .i64 Tn) := keep1 hb5 (by go_simp)
          have t1 : w5.cell? ⟨w.heap.size, 1, none⟩ = some (.int .u64 Bn) := keep1 hb5 (by go_simp)
          have f0 : w5.frozen? ⟨w.heap.size, 0, none⟩ = false := keepF hb5 (v := .int .i64 Tn) (by go_simp) (by go_simp)
          have f1 : w5.frozen? ⟨w.heap.size, 1, none⟩ = false := keepF hb5 (v := .int .u64 Bn) (by go_simp) (by go_simp)
          have B6 : Below w.heap.size w w5 := by
            refine bstep ?_ hb5
            repeat (first | exact B5 | refine Below.setCell ?_ (by first | exact Nat.le_refl _ | (simp; done) | (simp; omega)) _ | refine Below.alloc ?_ (by simp; omega) _)
          have H6 : Own .i64 w5 base 3 (.slice (some ⟨b, off, none⟩) m co) out :=
            Own.keep (((H5.set_below (p := ⟨w.heap.size, 0, none⟩) hbase _).set_below (p := ⟨w.heap.size, 1, none⟩) hbase _).alloc _) hb5
          go_wp2_with fail
          refine (fresh_B' Tn Bn _ false _ hU' HFR.out).mono ?_
          rintro e w6 ⟨rfl, hb6⟩
          have f0 := keepF hb6 (old1 t0 _) ((frozen?_alloc_cells _ _ _ _).trans f0)
          have f1 := keepF hb6 (old1 t1 _) ((frozen?_alloc_cells _ _ _ _).trans f1)
          have t0 := keep1 hb6 (old1 t0 _)
          have t1 := keep1 hb6 (old1 t1 _)
          have B7 := bstep (ball B6 _) hb6
          have H7 := (H6.alloc _).keep hb6
          go_wp2_with fail
          go_roundw
          case rel => exact ⟨k + 1, Tn, Bn, by omega, by go_num, hU', HST, t0, t1, f0, f1, H7, B7⟩
          case measure => simp [intOf]; omega
        · have hN2 : (noteE T' B' y == 0) = false := by simp [hN]
          have HN := Lib.hid hN; clear hN
          go_wp2_with fail
          rw [← HY.out]
          refine (note_any _ _ _ _ hU).mono ?_
          rintro e w4 ⟨rfl, hb4⟩
          have F0 := keepF hb4 t0 f0
          have F1 := keepF hb4 t1 f1
          have T0 := keep1 hb4 t0
          have T1 := keep1 hb4 t1
          have H5 := (hown.keep hb4).alloc (.cells #[.int .i64 (noteT T' B' y), .int .u64 (noteB T' B' y)] 24)
          have B5 := ball (bstep B4 hb4) (.cells #[.int .i64 (noteT T' B' y), .int .u64 (noteB T' B' y)] 24)
          clear t0 t1 f0 f1 hints hown B4 hc
          go_wp2_with fail
          refine (note_any T' B' _ _ hU).mono ?_
          rw [hE'.out]
          rintro e w5 ⟨rfl, hb5⟩
          have f0 := keepF hb5 (old1 T0 _) ((frozen?_alloc_cells _ _ _ _).trans F0)
          have f1 := keepF hb5 (old1 T1 _) ((frozen?_alloc_cells _ _ _ _).trans F1)
          have t0 := keep1 hb5 (old1 T0 _)
          have t1 := keep1 hb5 (old1 T1 _)
          have B6 := bstep B5 hb5
          have H6 := H5.keep hb5
          go_wp2_with fail
          refine (fresh_B' T' B' _ false _ hU HP3.out).mono ?_
          rintro e w6 ⟨rfl, hb6⟩
          have f0 := keepF hb6 (old1 t0 _) ((frozen?_alloc_cells _ _ _ _).trans f0)
          have f1 := keepF hb6 (old1 t1 _) ((frozen?_alloc_cells _ _ _ _).trans f1)
          have t0 := keep1 hb6 (old1 t0 _)
          have t1 := keep1 hb6 (old1 t1 _)
          have B7 := bstep (ball B6 _) hb6
          have H7 := (H6.alloc _).keep hb6
          go_wp2_with fail
          go_roundw
          case rel => exact ⟨k + 1, T', B', by omega, by go_num, hU, hE', t0, t1, f0, f1, H7, B7⟩
          case measure => simp [intOf]; omega
      · go_wp2_with fail
        go_ret
        exact ⟨rfl, B4⟩
  · have hE2 : (noteE T B n == 14) = false := by simp [hE]
    go_enter Try.func8, Try.ntmps8
    go_wp2_with fail
    refine (head_any _).mono ?_
    rintro e w1 ⟨rfl, hb1⟩
    have t0 : w1.cell? ⟨w.heap.size, 0, none⟩ = some (.int .i64 T) := keep1 hb1 (by simp)
    have t1 : w1.cell? ⟨w.heap.size, 1, none⟩ = some (.int .u64 B) := keep1 hb1 (by simp)
    have B1 := bstep (ball (Below.refl w.heap.size w) _) hb1
    go_wp2_with fail
    refine (note_any _ _ _ _ hB).mono ?_
    rintro e w2 ⟨rfl, hb2⟩
    have B2 := ball (bstep B1 hb2) (box (noteT T B n) (noteB T B n))
    go_wp2_with fail
    go_ret
    exact ⟨rfl, B2⟩
end Go.Proofs.Ytlofghfdcfpaiaa
