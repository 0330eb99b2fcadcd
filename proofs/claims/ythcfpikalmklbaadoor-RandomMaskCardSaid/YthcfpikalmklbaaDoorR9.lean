/- Proved: that the laws RandomPerm and RandomSteps return true for every input. Conditions: the table of steps holds its numbers; the numbers fit their types. -/
import Derived.Test.YthcfpikalmklbaaDoorR8
namespace Go.Proofs.YthcfpikalmklbaaDoor
open Go.RowKit Go.Sort Go.BigFrame Go.Proofs.YthcfpikalmklbaaDoor.K
set_option linter.unusedVariables false
set_option linter.unusedSimpArgs false
attribute [local go_sem] cell_alloc_old Oper.semAt_some

theorem info4 : (Tryd.prog.info? 4).map (fun i => (i.zero, i.size, i.bytes)) = some (some (.bool false), 1, 1) := by kernel_rfl

set_option maxRecDepth 100000 in
set_option maxHeartbeats 4000000 in
theorem lawPerm (s n : Int) (w : World) (h0 : 0 ≤ s) (hT : Tab w) : Calls Tryd.prog 6 #[.int .u64 s, .int .i64 n] w fun e w' => e = .returned (.bool true) ∧ Below w.heap.size w w' := by
  by_cases hr : 1 ≤ n ∧ n ≤ 1000
  · obtain ⟨m, rfl⟩ := Int.eq_ofNat_of_zero_le (a := n) (by omega)
    obtain ⟨hin, hone⟩ := permK_once s m h0 (m - 1) (by omega)
    have hlen := permK_len s m (m - 1)
    obtain ⟨P, hP⟩ : ∃ P, permK s m (m - 1) = P := ⟨_, rfl⟩
    rw [hP] at hin hone hlen
    have hn1 : ¬ (m : Int) < 1 := by omega
    have hn2 : ¬ (1000 : Int) < (m : Int) := by omega
    obtain ⟨i0, hi, hz0, hz1, hz2⟩ := info_parts info4
    have hmk : ∀ w, (Instr.makeSlice 32 (.int .i64 m) (.int .i64 m)).run Tryd.prog w = .ok (.slice (some ⟨w.heap.size, 0, none⟩) m m) (w.alloc (.cells (madeCells #[.bool false] m) 4)) := fun w => by
      have := run_make (P := Tryd.prog) w 32 4 i0 (.bool false) Tryd.underlying32 hi hz0 .i64 .i64 m m (by omega) (Int.le_refl _) (by rw [hz2]; omega) (by omega)
      rw [show (Value.bool false).cells = #[Value.bool false] from rfl, hz1] at this
      simpa using this
    have hM := toList_madeCells_one (.bool false) m
    obtain ⟨M, hMe⟩ : ∃ M, M = madeCells #[Value.bool false] m := ⟨_, rfl⟩
    rw [← hMe] at hM hmk
    have HM := Lib.hid hM; clear hM hMe
    have HP := Lib.hid hP; have HIN := Lib.hid hin; have HONE := Lib.hid hone; have HLEN := Lib.hid hlen; have HR := Lib.hid hr
    clear hi hz0 hz1 hz2 hP hin hone hlen hr
    go_enter Tryd.func6, Tryd.ntmps6
    go_wp2_with fail
    refine (head_any _ hT).mono ?_
    rintro e w1 ⟨rfl, b1⟩
    go_wp2_with fail
    refine (perm_any s m _ h0 (hT.keep b1) (by have := HR.out; omega) (by have := HR.out; omega)).mono ?_
    rintro e w2 ⟨g0, cap, rfl, hown, b2⟩
    rw [HP.out] at hown
    have B2 := bstep b1 b2; clear b1 b2
    go_wp2_with fail
    have hg0 := hown.blk
    have hownM : (w2.alloc (.cells M 4)).ownsRow w2.heap.size 4 1 (.slice (some ⟨w2.heap.size, 0, none⟩) m m) m M.toList := World.ownsRow_lit w2 M m (Nat.le_refl _) (by have := HR.out; unfold maxLen; omega) (by rw [← Array.length_toList, HM.out]; simp)
    have hownA : K.Own .i64 (w2.alloc (.cells M 4)) w1.heap.size 3 (.slice (some ⟨g0, 0, none⟩) m cap) P := K.Own.alloc hown _
    have BA : Below w.heap.size w (w2.alloc (.cells M 4)) := ball B2 _
    have hcF : ∀ i, 0 ≤ i → i < m → (w2.alloc (.cells M 4)).cell? ⟨w2.heap.size, (P.getD i 0).toNat, none⟩ = some (.bool false) := fun i _ hi => by
      have hh := HIN.out i hi
      have := World.ownsRow.cellAt hownM (P.getD i 0).toNat (by omega)
      rw [this, HM.out, List.getElem?_replicate, if_pos (by omega)]
    have hfF : ∀ j, (w2.alloc (.cells M 4)).frozen? ⟨w2.heap.size, j, none⟩ = false := fun j => World.ownsRow.frozenAt hownM j
    obtain ⟨g1, hg1⟩ : ∃ g, g = w2.heap.size := ⟨_, rfl⟩
    rw [← hg1] at hcF hfF ⊢
    have hg01 : g0 ≠ g1 := by omega
    have hwg : w.heap.size ≤ g1 := by have := B2.size; omega
    obtain ⟨V, hV⟩ : ∃ V, V = w2.alloc (.cells M 4) := ⟨_, rfl⟩
    rw [← hV] at hcF hfF hownA BA ⊢
    clear hV hownM hown hg0 hg1 B2 hmk
    go_loopw [30] (fun i wr => ∃ k : Nat, k ≤ m ∧ i = .int .i64 k ∧ Below w.heap.size w wr ∧ K.Own .i64 wr w1.heap.size 3 (.slice (some ⟨g0, 0, none⟩) m cap) P ∧ (∀ i, k ≤ i → i < m → wr.cell? ⟨g1, (P.getD i 0).toNat, none⟩ = some (.bool false)) ∧ (∀ j, wr.frozen? ⟨g1, j, none⟩ = false)) (fun i _ => m - (intOf i).toNat)
    case atStart => exact ⟨0, Nat.zero_le _, rfl, BA, hownA, hcF, hfF⟩
    case round =>
      clear BA hownA hcF hfF
      obtain ⟨k, hk, rfl, hB, hown, hcF, hfF⟩ := hrel
      by_cases hlt : k < m
      · have hlt' : (k : Int) < (m : Int) := by omega
        have hk0 : (0 : Int) ≤ (k : Int) := by omega
        have c0 := hown.cellAt (j := k) (by rw [HLEN.out]; exact hlt)
        have hx := HIN.out k hlt
        have c1 := hcF k (Nat.le_refl _) hlt
        obtain ⟨x, hxx⟩ : ∃ x, P.getD k 0 = x := ⟨_, rfl⟩
        rw [hxx] at hx c0 c1
        obtain ⟨y, rfl⟩ := Int.eq_ofNat_of_zero_le hx.1
        have f1 := hfF y
        rw [Int.toNat_natCast] at c1
        have hy0 : (0 : Int) ≤ (y : Int) := by omega
        have hy1 : (y : Int) < (m : Int) := hx.2
        have hy2 : ¬ (y : Int) < 0 := by omega
        have hnext : ∀ i, k + 1 ≤ i → i < m → (wr.setCell ⟨g1, y, none⟩ (.bool true)).cell? ⟨g1, (P.getD i 0).toNat, none⟩ = some (.bool false) := fun i h1 h2 => by
          have hne : (P.getD i 0).toNat ≠ y := fun hh => by
            have h3 := HIN.out i h2
            have h4 := HONE.out i k h2 hlt (by rw [hxx]; omega)
            omega
          exact (World.cell?_setCell_other wr ⟨g1, y, none⟩ ⟨g1, (P.getD i 0).toNat, none⟩ _ (fun h => by simp at h)).trans (hcF i (by omega) h2)
        have hB2 : Below w.heap.size w (wr.setCell ⟨g1, y, none⟩ (.bool true)) := hB.setCell (p := ⟨g1, y, none⟩) hwg _
        have hown2 : K.Own .i64 (wr.setCell ⟨g1, y, none⟩ (.bool true)) w1.heap.size 3 (.slice (some ⟨g0, 0, none⟩) m cap) P := K.Own.other hown (show g0 ≠ g1 from hg01) _
        have HN := Lib.hid hnext; have HF := Lib.hid hfF; have HC := Lib.hid hcF; have HXX := Lib.hid hxx
        clear hnext hfF hcF hxx hown hx
        go_wp2_with fail
        go_roundw
        case rel => exact ⟨k + 1, by omega, by go_num, hB2, hown2, HN.out, fun j => by rw [World.frozen?_setCell]; exact HF.out j⟩
        case measure => simp [intOf]; omega
      · have hkm : m = k := by omega
        subst hkm
        clear hcF hfF
        go_wp2_with fail
        go_ret
        exact ⟨by simp, hB⟩
  · have hout := perm_out s n
    by_cases hlo : n < 1
    · go_enter Tryd.func6, Tryd.ntmps6
      go_wp2_with fail
      refine (head_any _ hT).mono ?_
      rintro e w1 ⟨rfl, b1⟩
      go_wp2_with fail
      refine (hout _ (by omega)).mono ?_
      rintro e w2 ⟨rfl, b2⟩
      have B2 := bstep b1 b2; clear b1 b2
      go_wp2_with fail
      go_ret
      exact ⟨rfl, B2⟩
    · have hhi : 1000 < n := by omega
      go_enter Tryd.func6, Tryd.ntmps6
      go_wp2_with fail
      refine (head_any _ hT).mono ?_
      rintro e w1 ⟨rfl, b1⟩
      go_wp2_with fail
      refine (hout _ (by omega)).mono ?_
      rintro e w2 ⟨rfl, b2⟩
      have B2 := bstep b1 b2; clear b1 b2
      go_wp2_with fail
      go_ret
      exact ⟨rfl, B2⟩

set_option maxRecDepth 100000 in
set_option maxHeartbeats 4000000 in
theorem lawSteps (s n : Int) (w : World) (h0 : 0 ≤ s) (hT : Tab w) : Calls Tryd.prog 7 #[.int .u64 s, .int .i64 n] w fun e w' => e = .returned (.bool true) ∧ Below w.heap.size w w' := by
  by_cases hlo : n < 2
  · go_enter Tryd.func7, Tryd.ntmps7
    go_wp2_with fail
    refine (head_any _ hT).mono ?_
    rintro e w1 ⟨rfl, b1⟩
    go_wp2_with fail
    go_ret
    exact ⟨rfl, b1⟩
  by_cases hhi : 1000 < n
  · go_enter Tryd.func7, Tryd.ntmps7
    go_wp2_with fail
    refine (head_any _ hT).mono ?_
    rintro e w1 ⟨rfl, b1⟩
    go_wp2_with fail
    go_ret
    exact ⟨rfl, b1⟩
  obtain ⟨m, rfl⟩ := Int.eq_ofNat_of_zero_le (a := n) (by omega)
  obtain ⟨hst, hlast⟩ := permK_step s m h0 (by omega) (m - 2) (by omega)
  rw [show m - 2 + 1 = m - 1 from by omega] at hst hlast
  have hpb := pick_below s (n := m) (by omega) (by omega)
  have hlA := permK_len s m (m - 1)
  have hlB := permK_len (nextV s) (m - 1) (m - 2)
  obtain ⟨PA, hPA⟩ : ∃ P, permK s m (m - 1) = P := ⟨_, rfl⟩
  obtain ⟨PB, hPB⟩ : ∃ P, permK (nextV s) (m - 1) (m - 2) = P := ⟨_, rfl⟩
  obtain ⟨j, hj⟩ : ∃ j, pickN s m 0 = j := ⟨_, rfl⟩
  rw [hPA] at hlA hst hlast
  rw [hPB] at hlB hst
  rw [hj] at hst hlast hpb
  have hx := nextV_bd s
  obtain ⟨x, hxe⟩ : ∃ x, nextV s = x := ⟨_, rfl⟩
  rw [hxe] at hx hPB
  obtain ⟨r, hr⟩ : ∃ r : Nat, m - 1 = r := ⟨_, rfl⟩
  have hr1 : (m : Int) - 1 = (r : Int) := by omega
  have hr2 : m - 2 = r - 1 := by omega
  rw [hr] at hst hlast hPA hPB hlB
  rw [hr2] at hPB
  have hx0 := hx.1
  have hm : m = r + 1 := by omega
  have hm2 : m ≤ 1000 := by omega
  have hr0 : 1 ≤ r := by omega
  have HM := Lib.hid hm; have HST := Lib.hid hst; have HLA := Lib.hid hlA; have HLB := Lib.hid hlB; have HPA := Lib.hid hPA; have HPB := Lib.hid hPB; have HXE := Lib.hid hxe; have HLAST := Lib.hid hlast; have HJ := Lib.hid hj
  clear hm hr2 hst hlA hlB hPA hPB hxe hlast hj hx
  go_enter Tryd.func7, Tryd.ntmps7
  go_wp2_with fail
  refine (head_any _ hT).mono ?_
  rintro e w1 ⟨rfl, b1⟩
  go_wp2_with fail
  refine (perm_any s m _ h0 (hT.keep b1) (by have := HM.out; omega) hm2).mono ?_
  rintro e w2 ⟨ga, ca, rfl, howA, b2⟩
  rw [hr, HPA.out] at howA
  have B2 := bstep b1 b2; clear b1 b2
  go_wp2_with fail
  refine (next_at s x _ h0 (hT.keep B2) HXE.out).mono ?_
  rintro e w3 ⟨rfl, b3⟩
  have B3 := bstep B2 b3; clear B2
  have howA := K.Own.keep howA b3; clear b3
  go_wp2_with fail
  refine (perm_any x r _ hx0 (hT.keep B3) hr0 (by have := HM.out; omega)).mono ?_
  rintro e w4 ⟨gb, cb, rfl, howB, b4⟩
  rw [HPB.out] at howB
  have B4 := bstep B3 b4; clear B3
  have howA := K.Own.keep howA b4; clear b4
  go_wp2_with fail
  refine (below_at s m j _ h0 (hT.keep B4) hpb).mono ?_
  rintro e w5 ⟨rfl, b5⟩
  have B5 := bstep B4 b5; clear B4
  have howA := K.Own.keep howA b5
  have howB := K.Own.keep howB b5; clear b5
  go_wp2_with fail
  go_loopw [43] (fun i wr => ∃ k : Nat, k ≤ r ∧ i = .int .i64 k ∧ wr = w5) (fun i _ => r - (intOf i).toNat)
  case atStart => exact ⟨0, Nat.zero_le _, rfl, rfl⟩
  case round =>
    obtain ⟨k, hk, rfl, rfl⟩ := hrel
    by_cases hlt : k < r
    · have hlt' : (k : Int) < (r : Int) := by omega
      have hk0 : (0 : Int) ≤ (k : Int) := by omega
      have cA := howA.cellAt (j := k) (by rw [HLA.out]; have := HM.out; omega)
      have cB := howB.cellAt (j := k) (by rw [HLB.out]; exact hlt)
      have hkm : (k : Int) < (m : Int) := by have := HM.out; omega
      have hs := HST.out k hlt
      generalize PA.getD k 0 = y at *
      generalize PB.getD k 0 = z at *
      by_cases hz : z = (j : Int)
      · rw [if_pos hz] at hs
        subst hz hs
        go_wp2_with fail
        go_roundw
        case rel => exact ⟨k + 1, by omega, by go_num, trivial⟩
        case measure => simp [intOf]; omega
      · rw [if_neg hz] at hs
        subst hs
        go_wp2_with fail
        go_roundw
        case rel => exact ⟨k + 1, by omega, by go_num, trivial⟩
        case measure => simp [intOf]; omega
    · have hkr : r = k := by omega
      subst hkr
      have cA := howA.cellAt (j := r) (by rw [HLA.out]; have := HM.out; omega)
      rw [HLAST.out] at cA
      have hr0' : (0 : Int) ≤ (r : Int) := by omega
      have hrm : (r : Int) < (m : Int) := by have := HM.out; omega
      go_wp2_with fail
      go_ret
      exact ⟨by simp, B5⟩
end Go.Proofs.YthcfpikalmklbaaDoor
