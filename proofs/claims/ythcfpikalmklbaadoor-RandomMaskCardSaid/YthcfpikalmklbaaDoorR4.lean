/- Proved: what random.Perm returns: a list that lies in memory that it has made. Conditions: the table of steps holds its numbers; a state is not negative. -/
import Derived.Test.YthcfpikalmklbaaDoorR3
import Derived.Test.YthcfpikalmklbaaDoorOwn2
import Derived.Test.YthcfpikalmklbaaDoorLateIn
namespace Go.Proofs.YthcfpikalmklbaaDoor
open Go.RowKit Go.Sort Go.BigFrame Go.Proofs.YthcfpikalmklbaaDoor.K
set_option linter.unusedVariables false
set_option linter.unusedSimpArgs false
attribute [local go_sem] cell_alloc_old Oper.semAt_some

def swapI (l : List Int) (i k : Nat) : List Int := (l.set i (l.getD k 0)).set k (l.getD i 0)
def pickN (s : Int) (n k : Nat) : Nat := (halfV (stV s (k + 1)) % ((n - 1 - k : Nat) + 1 : Int)).toNat
def permK (s : Int) (n : Nat) : Nat → List Int
  | 0 => (List.range n).map (fun (j : Nat) => (j : Int))
  | k + 1 => swapI (permK s n k) (n - 1 - k) (pickN s n k)
def fillK (n k : Nat) : List Int := (List.range k).map (fun (j : Nat) => (j : Int)) ++ List.replicate (n - k) 0
theorem permK_len (s : Int) (n : Nat) : ∀ k, (permK s n k).length = n
  | 0 => by simp [permK]
  | k + 1 => by simp [permK, swapI, permK_len s n k]
theorem fillK_len {n k : Nat} (h : k ≤ n) : (fillK n k).length = n := by simp [fillK]; omega
theorem fillK_succ {n k : Nat} (h : k < n) : (fillK n k).set k (k : Int) = fillK n (k + 1) := by
  unfold fillK
  rw [List.set_append_right _ _ (by simp), List.range_succ, List.map_append, List.append_assoc]
  congr 1
  simp only [List.length_map, List.length_range, Nat.sub_self]
  rw [show n - k = (n - (k + 1)) + 1 from by omega, List.replicate_succ]
  simp
theorem fillK_full (n : Nat) : fillK n n = (List.range n).map (fun (j : Nat) => (j : Int)) := by simp [fillK]
theorem pickN_lt (s : Int) {n k : Nat} (h : k < n) (h0 : 0 ≤ s) : pickN s n k ≤ n - 1 - k := by
  unfold pickN
  have := Int.emod_lt_of_pos (halfV (stV s (k + 1))) (b := ((n - 1 - k : Nat) + 1 : Int)) (by omega)
  have := Int.emod_nonneg (halfV (stV s (k + 1))) (b := ((n - 1 - k : Nat) + 1 : Int)) (by omega)
  omega

theorem info3 : (Tryd.prog.info? 3).map (fun i => (i.zero, i.size, i.bytes)) = some (some (.int .i64 0), 1, 8) := by kernel_rfl

def PermPost (s : Int) (n : Nat) (w : World) (e : Ending) (w' : World) : Prop := ∃ g cap, e = .returned (.slice (some ⟨g, 0, none⟩) n cap) ∧ K.Own .i64 w' w.heap.size 3 (.slice (some ⟨g, 0, none⟩) n cap) (permK s n (n - 1)) ∧ Below w.heap.size w w'

theorem halves_at (s : Int) (w : World) :
    Calls Tryd.prog 21 #[.int .u64 s] w fun e w' => e = .returned (.func (.func 22) #[] #[.pointer (some ⟨w.heap.size, 0, none⟩)]) ∧ w.alloc (.cells #[.int .u64 s] 22) = w' := halves_any s w

set_option maxRecDepth 100000 in
set_option maxHeartbeats 8000000 in
theorem perm_any (s : Int) (n : Nat) (w : World) (h0 : 0 ≤ s) (hT : Tab w) (n1 : 1 ≤ n) (n2 : n ≤ 1000) :
    Calls Tryd.prog 15 #[.int .u64 s, .int .i64 n] w (PermPost s n w) := by
  have hw0 : 0 < w.heap.size := World.block_lt_of_cell? _ _ hT.1
  obtain ⟨i0, hi, hz0, hz1, hz2⟩ := info_parts info3
  have hmk : ∀ w, (Instr.makeSlice 27 (.int .i64 n) (.int .i64 n)).run Tryd.prog w = .ok (.slice (some ⟨w.heap.size, 0, none⟩) n n) (w.alloc (.cells (madeCells #[.int .i64 0] n) 3)) := fun w => by
    have := run_make (P := Tryd.prog) w 27 3 i0 (.int .i64 0) Tryd.underlying27 hi hz0 .i64 .i64 n n (by omega) (Int.le_refl _) (by rw [hz2]; omega) (by omega)
    rw [show (Value.int .i64 0).cells = #[Value.int .i64 0] from rfl, hz1] at this
    simpa using this
  have hM := toList_madeCells_one (.int .i64 0) n
  obtain ⟨M, hMe⟩ : ∃ M, M = madeCells #[Value.int .i64 0] n := ⟨_, rfl⟩
  rw [← hMe] at hM hmk
  have HM := Lib.hid hM; clear hM hMe
  have hn1 : ¬ (n : Int) < 1 := by omega
  have hn2 : ¬ (1000 : Int) < (n : Int) := by omega
  clear hi hz0 hz1 hz2
  refine (callsIn_wide (n := 3)).1 ?_
  refine callsIn_of_wp_marks Tryd.func15 rfl trivial ?_ rfl
  simp only [Tryd.ntmps15, List.size_toArray, List.length_cons, List.length_nil, Nat.reduceAdd, Nat.reduceSub, Array.replicate_succ, Array.replicate_zero, List.push_toArray, List.append_toArray, List.nil_append, List.cons_append]
  gi_wp2_with fail
  have hown0 : K.Own .i64 (w.alloc (.cells M 3)) w.heap.size 3 (.slice (some ⟨w.heap.size, 0, none⟩) n n) (fillK n 0) := K.Own.lit .i64 w 3 w.heap.size n M (fillK n 0) (by rw [HM.out]; simp [fillK]) (by rw [fillK_len (Nat.zero_le _)]) (Nat.le_refl _) (by unfold maxLen; omega)
  have hown1 := K.Own.alloc hown0 (.cells #[.slice (some ⟨w.heap.size, 0, none⟩) n n] 27)
  have B0 : Below w.heap.size w ((w.alloc (.cells M 3)).alloc (.cells #[.slice (some ⟨w.heap.size, 0, none⟩) n n] 27)) := ball (ball (Below.refl _ _) _) _
  have l0 : ((w.alloc (.cells M 3)).alloc (.cells #[.slice (some ⟨w.heap.size, 0, none⟩) n n] 27)).cell? ⟨w.heap.size + 1, 0, none⟩ = some (.slice (some ⟨w.heap.size, 0, none⟩) n n) := by simp
  have z0 : ((w.alloc (.cells M 3)).alloc (.cells #[.slice (some ⟨w.heap.size, 0, none⟩) n n] 27)).heap.size = w.heap.size + 2 := by simp
  obtain ⟨V0, hV0⟩ : ∃ V, V = (w.alloc (.cells M 3)).alloc (.cells #[.slice (some ⟨w.heap.size, 0, none⟩) n n] 27) := ⟨_, rfl⟩
  rw [← hV0] at hown1 B0 l0 z0 ⊢
  clear hV0 hown0 hmk
  have HM2 := HM; clear HM
  gi_loopw [6, 19] (fun j i wr => ∃ k : Nat, k ≤ n ∧ i = .int .i64 k ∧ K.Own .i64 wr w.heap.size 3 (.slice (some ⟨w.heap.size, 0, none⟩) n n) (fillK n k) ∧ Below w.heap.size w wr ∧ wr.cell? ⟨w.heap.size + 1, 0, none⟩ = some (.slice (some ⟨w.heap.size, 0, none⟩) n n) ∧ wr.heap.size = w.heap.size + 2) (fun _ i _ => n - (intOf i).toNat)
  case atStart => exact ⟨0, Nat.zero_le _, rfl, hown1, B0, l0, z0⟩
  case round =>
    clear hown1 B0 l0 z0
    obtain ⟨k, hk, rfl, hown, B0, l0, z0⟩ := hrel
    by_cases hlt : k < n
    · have hlt' : (k : Int) < (n : Int) := by omega
      have c0 := hown.cellAt (j := k) (by rw [fillK_len hk]; exact hlt)
      have f0 := hown.frzAt k
      have hown2 := hown.setAt k (k : Int)
      rw [fillK_succ hlt] at hown2
      have B1 : Below w.heap.size w (wr.setCell ⟨w.heap.size, k, none⟩ (.int .i64 k)) := B0.setCell (Nat.le_refl _) _
      have l1 : (wr.setCell ⟨w.heap.size, k, none⟩ (.int .i64 k)).cell? ⟨w.heap.size + 1, 0, none⟩ = some (.slice (some ⟨w.heap.size, 0, none⟩) n n) := (World.cell?_setCell_other wr ⟨w.heap.size, k, none⟩ ⟨w.heap.size + 1, 0, none⟩ _ (fun h => by simp at h)).trans l0
      have z1 : (wr.setCell ⟨w.heap.size, k, none⟩ (.int .i64 k)).heap.size = w.heap.size + 2 := by rw [← z0]; simp
      have Z0 := Lib.hid z0; have Z1 := Lib.hid z1; clear z0 z1
      generalize (fillK n k).getD k 0 = x0 at *
      gi_wp2_with fail
      exact ⟨⟨k + 1, by omega, by go_num, hown2, B1, l1, Z1.out⟩, by simp [intOf]; omega⟩
    · have hkn : n = k := by omega
      subst hkn
      rw [fillK_full] at hown
      have hown : K.Own .i64 wr w.heap.size 3 (.slice (some ⟨w.heap.size, 0, none⟩) n n) (permK s n 0) := hown
      obtain ⟨q0, hq0⟩ : ∃ q : Nat, n - 1 = q := ⟨_, rfl⟩
      have hq : (n : Int) - 1 = (q0 : Int) := by omega
      clear hk
      gi_wp2_with fail
      refine ⟨trivial, ?_⟩
      refine (callsIn_wide.2 (halves_any s _)).mono ?_
      rintro e w1 ⟨rfl, rfl⟩
      gi_wp2_with fail
      have e2 : (wr.alloc (.cells #[.int .i64 (q0 : Int)] 3)).heap.size = w.heap.size + 3 := by simp [z0]
      have B1 : Below w.heap.size w ((wr.alloc (.cells #[.int .i64 (q0 : Int)] 3)).alloc (.cells #[.int .u64 s] 22)) := ball (ball B0 _) _
      have c0 : ((wr.alloc (.cells #[.int .i64 (q0 : Int)] 3)).alloc (.cells #[.int .u64 s] 22)).cell? ⟨w.heap.size + 2, 0, none⟩ = some (.int .i64 q0) := old1 (new0 z0.symm rfl) _
      have f0 : ((wr.alloc (.cells #[.int .i64 (q0 : Int)] 3)).alloc (.cells #[.int .u64 s] 22)).frozen? ⟨w.heap.size + 2, 0, none⟩ = false := by
        rw [frozen?_alloc_cells, frozen?_alloc_cells]; exact frz_new (by rw [z0]; exact Nat.le_refl _)
      have c1 : ((wr.alloc (.cells #[.int .i64 (q0 : Int)] 3)).alloc (.cells #[.int .u64 s] 22)).cell? ⟨w.heap.size + 3, 0, none⟩ = some (.int .u64 s) := new0 e2.symm rfl
      have f1 : ((wr.alloc (.cells #[.int .i64 (q0 : Int)] 3)).alloc (.cells #[.int .u64 s] 22)).frozen? ⟨w.heap.size + 3, 0, none⟩ = false := by
        rw [frozen?_alloc_cells, frozen?_alloc_cells]; exact frz_new (by rw [z0]; exact Nat.le_succ _)
      have l1 : ((wr.alloc (.cells #[.int .i64 (q0 : Int)] 3)).alloc (.cells #[.int .u64 s] 22)).cell? ⟨w.heap.size + 1, 0, none⟩ = some (.slice (some ⟨w.heap.size, 0, none⟩) n n) := old2 l0 _ _
      have hown1 : K.Own .i64 ((wr.alloc (.cells #[.int .i64 (q0 : Int)] 3)).alloc (.cells #[.int .u64 s] 22)) w.heap.size 3 (.slice (some ⟨w.heap.size, 0, none⟩) n n) (permK s n 0) := K.Own.alloc (K.Own.alloc hown _) _
      have z1 : ((wr.alloc (.cells #[.int .i64 (q0 : Int)] 3)).alloc (.cells #[.int .u64 s] 22)).heap.size = w.heap.size + 4 := by simp [z0]
      obtain ⟨V, hV⟩ : ∃ V, V = (wr.alloc (.cells #[.int .i64 (q0 : Int)] 3)).alloc (.cells #[.int .u64 s] 22) := ⟨_, rfl⟩
      rw [← hV] at B1 c0 f0 c1 f1 l1 hown1 z1 ⊢
      clear hV e2 B0 l0 z0 hown
      refine range_plain (gf := 22) (lb := #[.pointer (some ⟨w.heap.size + 3, 0, none⟩)]) rfl (enters_of Tryd.func22 (by kernel_rfl) rfl) ?_
      intro fn V1 rec hrec hD hL hB1 hz1
      obtain ⟨L, hLe⟩ : ∃ L, L = V.heap.size + 1 := ⟨_, rfl⟩
      obtain ⟨D, hDe⟩ : ∃ D, D = V.heap.size := ⟨_, rfl⟩
      rw [← hLe] at hL ⊢
      have B2 := bstep B1 hB1
      have c0 := keep1 hB1 c0
      have c1 := keep1 hB1 c1
      have l1 := keep1 hB1 l1
      have hown1 := K.Own.keep hown1 hB1
      have f0 : V1.frozen? ⟨w.heap.size + 2, 0, none⟩ = false := (hB1.frozen (p := ⟨w.heap.size + 2, 0, none⟩) (by rw [z1]; simp only; omega)).trans f0
      have f1 : V1.frozen? ⟨w.heap.size + 3, 0, none⟩ = false := (hB1.frozen (p := ⟨w.heap.size + 3, 0, none⟩) (by rw [z1]; simp only; omega)).trans f1
      have hT1 := hT.keep B2
      rw [← hDe] at hD hrec ⊢
      have hDL : L = D + 1 := by omega
      have hDw : D = w.heap.size + 4 := by omega
      clear hLe hDe z1 hB1 B1 hz1
      have HDL := Lib.hid hDL; have HDw := Lib.hid hDw
      have Lw : w.heap.size + 4 ≤ L := by omega
      have Dw : w.heap.size + 4 ≤ D := by omega
      have DL : D ≠ L := by omega
      clear hDL hDw
      refine CallsIn.mono (halves1 1 L (w.heap.size + 3) s n
        (fun k W => k < n ∧ Below w.heap.size w W ∧ W.heap[D]? = some (.deferred (some [])) ∧ W.heap[L]? = some (.loop (rec .ready none)) ∧ W.cell? ⟨w.heap.size + 1, 0, none⟩ = some (.slice (some ⟨w.heap.size, 0, none⟩) n n) ∧
          W.cell? ⟨w.heap.size + 2, 0, none⟩ = some (.int .i64 ((n - 1 - k : Nat) : Int)) ∧ W.frozen? ⟨w.heap.size + 2, 0, none⟩ = false ∧ K.Own .i64 W w.heap.size 3 (.slice (some ⟨w.heap.size, 0, none⟩) n n) (permK s n k))
        (fun W => Below w.heap.size w W ∧ W.heap[D]? = some (.deferred (some [])) ∧ W.heap[L]? = some (.loop (rec .done (some (.exit 2)))) ∧ W.cell? ⟨w.heap.size + 1, 0, none⟩ = some (.slice (some ⟨w.heap.size, 0, none⟩) n n) ∧
          K.Own .i64 W w.heap.size 3 (.slice (some ⟨w.heap.size, 0, none⟩) n n) (permK s n (n - 1)))
        h0 ?_ ?_ ?_ V1 (by omega) ⟨by omega, B2, hD, hL, l1, by rw [Nat.sub_zero, hq0]; exact c0, f0, hown1⟩ ⟨c1, f1, hT1, by omega⟩) ?_
      · rintro k W W' ⟨hk, hb, hd, hl, hs, hc, hf, ho⟩ hbb
        exact ⟨hk, bstep hb hbb, (hbb.block _ (Array.getElem?_eq_some_iff.1 hd).1).trans hd, (hbb.block _ (Array.getElem?_eq_some_iff.1 hl).1).trans hl, keep1 hbb hs, keep1 hbb hc, keepF hbb hc hf, K.Own.keep ho hbb⟩
      · rintro k W v ⟨hk, hb, hd, hl, hs, hc, hf, ho⟩
        refine ⟨hk, hb.setCell (p := ⟨w.heap.size + 3, 0, none⟩) (by simp only; omega) _, (Below.heap_setCell W ⟨w.heap.size + 3, 0, none⟩ v D (show D ≠ w.heap.size + 3 by omega)).trans hd, (Below.heap_setCell W ⟨w.heap.size + 3, 0, none⟩ v L (show L ≠ w.heap.size + 3 by omega)).trans hl, ?_, ?_, ?_, ?_⟩
        · exact (World.cell?_setCell_other W ⟨w.heap.size + 3, 0, none⟩ ⟨w.heap.size + 1, 0, none⟩ v (fun h => by simp at h)).trans hs
        · exact (World.cell?_setCell_other W ⟨w.heap.size + 3, 0, none⟩ ⟨w.heap.size + 2, 0, none⟩ v (fun h => by simp at h)).trans hc
        · rw [World.frozen?_setCell]; exact hf
        · exact K.Own.other ho (show w.heap.size ≠ w.heap.size + 3 by omega) v
      · rintro k W ⟨hk, hb, hd, hl, hs, hc, hf, ho⟩ hK _
        refine round_plain hrec hl rfl ?_
        intro W2 hW2
        have hL2 : W2.heap[L]? = some (.loop (rec .busy none)) := by rw [hW2]; exact World.putObj_heap_same (Array.getElem?_eq_some_iff.1 hl).1
        have hD2 : W2.heap[D]? = some (.deferred (some [])) := by rw [hW2]; exact (World.putObj_heap_other DL).trans hd
        have hB2 : Below w.heap.size w W2 := by rw [hW2]; exact putObj_below hb (by omega)
        have hs2 : W2.cell? ⟨w.heap.size + 1, 0, none⟩ = some (.slice (some ⟨w.heap.size, 0, none⟩) n n) := by rw [hW2]; exact (putObj_cell (show w.heap.size + 1 ≠ L by omega)).trans hs
        have hc2 : W2.cell? ⟨w.heap.size + 2, 0, none⟩ = some (.int .i64 ((n - 1 - k : Nat) : Int)) := by rw [hW2]; exact (putObj_cell (show w.heap.size + 2 ≠ L by omega)).trans hc
        have hf2 : W2.frozen? ⟨w.heap.size + 2, 0, none⟩ = false := by rw [hW2]; exact (putObj_frozen (show w.heap.size + 2 ≠ L by omega)).trans hf
        have ho2 : K.Own .i64 W2 w.heap.size 3 (.slice (some ⟨w.heap.size, 0, none⟩) n n) (permK s n k) := by rw [hW2]; exact K.Own.putObj ho _ hl rfl
        have hK2 : Kept (w.heap.size + 3) (stV s (k + 1)) W2 := by
          rw [hW2]
          obtain ⟨g1, g2, g3, g4⟩ := hK
          exact ⟨(putObj_cell (show w.heap.size + 3 ≠ L by omega)).trans g1, (putObj_frozen (show w.heap.size + 3 ≠ L by omega)).trans g2, hT.keep (by rw [hW2] at hB2; exact hB2), g4⟩
        clear hW2 hs hc hf ho hb hd
        simp only [List.zip_toArray, List.zip_cons_cons, List.zip_nil_right, List.foldl_toArray, List.foldl_cons, List.foldl_nil, List.setIfInBounds_toArray, List.set_cons_zero, List.set_cons_succ]
        obtain ⟨q, hq'⟩ : ∃ q, n - 1 - k = q := ⟨_, rfl⟩
        rw [hq'] at hc2
        by_cases hkl : k = n - 1
        · have q00 : q = 0 := by omega
          subst q00
          rw [hkl] at ho2
          clear hq' hkl hK hK2
          rw [hq0] at ho2
          gi_wp2_with fail
          exact ⟨_, _, end_rec hrec (some (.exit 2)) hL2, .inr ⟨rfl, putObj_below hB2 (by omega), (World.putObj_heap_other DL).trans hD2, World.putObj_heap_same (Array.getElem?_eq_some_iff.1 hL2).1,
            (putObj_cell (show w.heap.size + 1 ≠ L by omega)).trans hs2, K.Own.putObj ho2 _ hL2 rfl⟩⟩
        · have hq1 : 1 ≤ q := by omega
          have hqn : q < n := by omega
          have hlen := permK_len s n k
          obtain ⟨P, hP⟩ : ∃ P, permK s n k = P := ⟨_, rfl⟩
          have hp := pickN_lt s hk h0
          have hpe : (halfV (stV s (k + 1))).tmod ((q : Int) + 1) = ((pickN s n k : Nat) : Int) := by
            have hb := half_bd (nextV_bd (stV s k)).1 (nextV_bd (stV s k)).2
            have hb' : 0 ≤ halfV (stV s (k + 1)) := hb.1
            unfold pickN
            rw [hq', Int.tmod_eq_emod_of_nonneg hb']
            exact (Int.toNat_of_nonneg (Int.emod_nonneg (halfV (stV s (k + 1))) (b := ((q : Nat) : Int) + 1) (by omega))).symm
          have hst : permK s n (k + 1) = swapI P q (pickN s n k) := by rw [permK, hP, hq']
          obtain ⟨p, hpp⟩ : ∃ p, pickN s n k = p := ⟨_, rfl⟩
          rw [hpp] at hpe hst hp
          rw [hP] at hlen ho2
          have hpn : p < n := by omega
          obtain ⟨x, hx⟩ : ∃ x, halfV (stV s (k + 1)) = x := ⟨_, rfl⟩
          rw [hx] at hpe ⊢
          have cq := ho2.cellAt (j := q) (by omega)
          have cp := ho2.cellAt (j := p) (by omega)
          have ho3 := (ho2.setAt q (P.getD p 0)).setAt p (P.getD q 0)
          have hsw : swapI P q p = (P.set q (P.getD p 0)).set p (P.getD q 0) := rfl
          rw [← hsw, ← hst] at ho3
          have HST := Lib.hid hst; have HX := Lib.hid hx; have HP := Lib.hid hP; have HPP := Lib.hid hpp; have HQ := Lib.hid hq'; have HLEN := Lib.hid hlen; have HSW := Lib.hid hsw; have HO2 := Lib.hid ho2
          have fq := ho2.frzAt q
          have fp := ho2.frzAt p
          have hq2 : (1 : Int) ≤ (q : Int) := by omega
          have hq3 : (0 : Int) ≤ (q : Int) := by omega
          have hq4 : (q : Int) < (n : Int) := by omega
          have hp3 : (0 : Int) ≤ (p : Int) := by omega
          have hp4 : (p : Int) < (n : Int) := by omega
          clear hst hx hP hpp hq' hlen hsw ho2 hK hkl hp hq1
          generalize P.getD q 0 = y at *
          generalize P.getD p 0 = z at *
          gi_wp2_with fail
          have khs := cell_regrown hs2
          have khc := cell_regrown hc2
          have kcq := cell_regrown cq
          have kcp := cell_regrown cp
          refine' wpIn_region_late [0, 1, 2, 3, 4, 5, 6, 7, 8, 9, 10, 11, 12] [] [13, 14, 15] [2, 3] (by kernel_rfl) (by kernel_rfl) (fun _ => trivial) rfl (fun k' h => CallsIn.inRound _ (callsIn_wide.2 h)) (by kernel_rfl) _
            (fun w' => w'.cell? ⟨w.heap.size + 1, 0, none⟩ = some (.slice (some ⟨w.heap.size, 0, none⟩) n n)) (fun j => if j = 2 then .slice (some ⟨w.heap.size, 0, none⟩) n n else .int .i64 p) (fun _ _ _ _ h => h)
            (fun Z hZ hN => quiet_hole ?hq) (fun _ => .cells #[] 0) (fun _ _ => undef) (fun i hi => by cases hi) ?hlate ?ht
          case hq =>
            intro Q9 hQ9
            show wpQuiet _ _ _ _ [_, _, _, _, _, _, _, _, _, _, _, _, _] _
            repeat (go_big_quiet_step (fail))
            exact wpQuiet_nil hQ9
          case hlate =>
            intro j hj o ho
            simp only [List.mem_cons, List.not_mem_nil, or_false] at hj
            rcases hj with rfl | rfl
            · simp only [List.getElem?_cons_succ, List.getElem?_cons_zero, Option.some.injEq] at ho
              subst ho
              refine ⟨fun w' hw' => by go_simp, fun t ht => ?_⟩
              simp only [Option.some.injEq] at ht
              subst ht
              rfl
            · simp only [List.getElem?_cons_succ, List.getElem?_cons_zero, Option.some.injEq] at ho
              subst ho
              refine ⟨fun w' hw' => by go_simp, fun t ht => ?_⟩
              simp only [Option.some.injEq] at ht
              subst ht
              rfl
          intro π wz hz _ _
          clear khs khc kcq kcp
          have hs3 := keep1 hz hs2
          have hc3 := keep1 hz hc2
          have cq3 := keep1 hz cq
          have cp3 := keep1 hz cp
          have fq3 := keepF hz cq fq
          have fp3 := keepF hz cp fp
          have hf3 := keepF hz hc2 hf2
          refine ⟨hs3, ?_⟩
          have hS4 : (wz.setCell ⟨w.heap.size, q, none⟩ (.int .i64 z)).cell? ⟨w.heap.size + 1, 0, none⟩ = some (.slice (some ⟨w.heap.size, 0, none⟩) n n) := (World.cell?_setCell_other wz ⟨w.heap.size, q, none⟩ ⟨w.heap.size + 1, 0, none⟩ _ (fun h => by simp at h)).trans hs3
          have hS5 : ((wz.setCell ⟨w.heap.size, q, none⟩ (.int .i64 z)).setCell ⟨w.heap.size, p, none⟩ (.int .i64 y)).cell? ⟨w.heap.size + 1, 0, none⟩ = some (.slice (some ⟨w.heap.size, 0, none⟩) n n) := (World.cell?_setCell_other _ ⟨w.heap.size, p, none⟩ ⟨w.heap.size + 1, 0, none⟩ _ (fun h => by simp at h)).trans hS4
          obtain ⟨v4, hv4⟩ := cell?_setCell_some (w := wz) (p := ⟨w.heap.size, q, none⟩) (x := .int .i64 z) (q := ⟨w.heap.size, p, none⟩) (v := .int .i64 z) cp3
          simp only [putsA]
          show wpListSI _ _ _ _ _ _ [_, _, _] _ _
          refine listSI_step rfl fun K hK => ?_
          go_simp
          refine hK _ _ hS4 ?_
          clear hK K
          refine listSI_step rfl fun K hK => ?_
          go_simp
          refine hK _ _ hS4 ?_
          clear hK K
          refine listSI_step rfl fun K hK => ?_
          go_simp
          refine hK _ _ hS5 ?_
          clear hK K
          unfold wpListSI
          have hB3 := bstep hB2 hz
          have hD3 : wz.heap[D]? = some (.deferred (some [])) := (hz.block _ (Array.getElem?_eq_some_iff.1 hD2).1).trans hD2
          have hL3 : wz.heap[L]? = some (.loop (rec .busy none)) := (hz.block _ (Array.getElem?_eq_some_iff.1 hL2).1).trans hL2
          have hK3 := hK2.below hz
          have ho3 : K.Own .i64 ((wz.setCell ⟨w.heap.size, q, none⟩ (.int .i64 z)).setCell ⟨w.heap.size, p, none⟩ (.int .i64 y)) w.heap.size 3 (.slice (some ⟨w.heap.size, 0, none⟩) n n) (permK s n (k + 1)) := by
            have := ((K.Own.keep HO2.out hz).setAt q z).setAt p y
            rw [HST.out, HSW.out]
            exact this
          have hB5 : Below w.heap.size w ((wz.setCell ⟨w.heap.size, q, none⟩ (.int .i64 z)).setCell ⟨w.heap.size, p, none⟩ (.int .i64 y)) := (hB3.setCell (p := ⟨w.heap.size, q, none⟩) (Nat.le_refl _) _).setCell (p := ⟨w.heap.size, p, none⟩) (Nat.le_refl _) _
          have hb5 : ∀ (i : Nat), i ≠ w.heap.size → ((wz.setCell ⟨w.heap.size, q, none⟩ (.int .i64 z)).setCell ⟨w.heap.size, p, none⟩ (.int .i64 y)).heap[i]? = wz.heap[i]? := fun i hi =>
            (Below.heap_setCell _ ⟨w.heap.size, p, none⟩ (.int .i64 y) i hi).trans (Below.heap_setCell _ ⟨w.heap.size, q, none⟩ (.int .i64 z) i hi)
          have hc5 : ∀ (i : Nat), i ≠ w.heap.size → ((wz.setCell ⟨w.heap.size, q, none⟩ (.int .i64 z)).setCell ⟨w.heap.size, p, none⟩ (.int .i64 y)).cell? ⟨i, 0, none⟩ = wz.cell? ⟨i, 0, none⟩ := fun i hi =>
            (World.cell?_setCell_other _ ⟨w.heap.size, p, none⟩ ⟨i, 0, none⟩ (.int .i64 y) (fun h => by simp at h)).trans (World.cell?_setCell_other _ ⟨w.heap.size, q, none⟩ ⟨i, 0, none⟩ (.int .i64 z) (fun h => by simp at h))
          have hf5 : ∀ r : Addr, ((wz.setCell ⟨w.heap.size, q, none⟩ (.int .i64 z)).setCell ⟨w.heap.size, p, none⟩ (.int .i64 y)).frozen? r = wz.frozen? r := fun r => by rw [World.frozen?_setCell, World.frozen?_setCell]
          obtain ⟨V5, hV5⟩ : ∃ V5, (wz.setCell ⟨w.heap.size, q, none⟩ (.int .i64 z)).setCell ⟨w.heap.size, p, none⟩ (.int .i64 y) = V5 := ⟨_, rfl⟩
          rw [hV5] at ho3 hB5 hb5 hc5 hf5 hS5 ⊢
          have hD5 := (hb5 D (by omega)).trans hD3
          have hL5 := (hb5 L (by omega)).trans hL3
          have hc6 := (hc5 (w.heap.size + 2) (by omega)).trans hc3
          have hf6 := (hf5 ⟨w.heap.size + 2, 0, none⟩).trans hf3
          have hk5 : Kept (w.heap.size + 3) (stV s (k + 1)) V5 := ⟨(hc5 (w.heap.size + 3) (by omega)).trans hK3.1, (hf5 _).trans hK3.2.1, hT.keep hB5, hK3.2.2.2⟩
          have hqk : n - 1 - (k + 1) = q - 1 := by have := HQ.out; omega
          have hkn1 : k + 1 < n := by have := HQ.out; omega
          have hq1i : ((q : Int) - 1) = ((q - 1 : Nat) : Int) := by omega
          clear hv4 hV5 hb5 hc5 hf5 hS4 hB3 hD3 hL3 hK3 hc3 hf3 cq3 cp3 fq3 fp3 hs3 hz HO2 HST HSW HP HPP HX
          gi_wp2_with fail
          have n2 : (w.heap.size + 2) ≠ L := by omega
          refine ⟨_, _, end_rec hrec none ((Below.heap_setCell _ ⟨w.heap.size + 2, 0, none⟩ _ L (Ne.symm n2)).trans hL5), .inl ⟨rfl, ⟨hkn1, ?_, ?_, ?_, ?_, ?_, ?_, ?_⟩, ?_, hkn1⟩⟩
          · exact putObj_below (hB5.setCell (p := ⟨w.heap.size + 2, 0, none⟩) (Nat.le_add_right _ _) _) (by omega)
          · exact (World.putObj_heap_other DL).trans ((Below.heap_setCell _ ⟨w.heap.size + 2, 0, none⟩ _ D (show D ≠ w.heap.size + 2 by omega)).trans hD5)
          · exact World.putObj_heap_same (Array.getElem?_eq_some_iff.1 ((Below.heap_setCell _ ⟨w.heap.size + 2, 0, none⟩ _ L (Ne.symm n2)).trans hL5)).1
          · exact (putObj_cell (show w.heap.size + 1 ≠ L by omega)).trans ((World.cell?_setCell_other _ ⟨w.heap.size + 2, 0, none⟩ ⟨w.heap.size + 1, 0, none⟩ _ (fun h => by simp at h)).trans hS5)
          · refine (putObj_cell n2).trans ?_
            refine World.cell?_setCell_same' _ _ _ (by rw [hc6]; rfl) |>.trans ?_
            rw [show q0 - (k + 1) = q - 1 from by omega, ← hq1i]
          · exact (putObj_frozen n2).trans ((World.frozen?_setCell _ _ _ _).trans hf6)
          · exact K.Own.putObj (K.Own.other ho3 (show w.heap.size ≠ w.heap.size + 2 by omega) _) _ ((Below.heap_setCell _ ⟨w.heap.size + 2, 0, none⟩ _ L (Ne.symm n2)).trans hL5) rfl
          · obtain ⟨g1, g2, g3, g4⟩ := hk5
            exact ⟨(putObj_cell (show w.heap.size + 3 ≠ L by omega)).trans ((World.cell?_setCell_other _ ⟨w.heap.size + 2, 0, none⟩ ⟨w.heap.size + 3, 0, none⟩ _ (fun h => by simp at h)).trans g1),
              (putObj_frozen (show w.heap.size + 3 ≠ L by omega)).trans ((World.frozen?_setCell _ _ _ _).trans g2),
              hT.keep (putObj_below (hB5.setCell (p := ⟨w.heap.size + 2, 0, none⟩) (Nat.le_add_right _ _) _) (by omega)), g4⟩
      · rintro e W' ⟨⟨v, rfl⟩, hb, hd, hl, hs, ho⟩
        refine ⟨some (.exit 2), _, endLoop_rec hrec hl (by simp), ?_⟩
        have hd2 : (W'.putObj L (.loop (rec .exhausted (some (.exit 2))))).heap[D]? = some (.deferred (some [])) := (World.putObj_heap_other DL).trans hd
        have hb2 : Below w.heap.size w (W'.putObj L (.loop (rec .exhausted (some (.exit 2))))) := putObj_below hb (by omega)
        have hs2 : (W'.putObj L (.loop (rec .exhausted (some (.exit 2))))).cell? ⟨w.heap.size + 1, 0, none⟩ = some (.slice (some ⟨w.heap.size, 0, none⟩) n n) := (putObj_cell (show w.heap.size + 1 ≠ L by omega)).trans hs
        have ho2 := K.Own.putObj ho (.loop (rec .exhausted (some (.exit 2)))) hl rfl
        have ho3 := K.Own.putObj ho2 (.deferred none) hd2 rfl
        have hb3 := putObj_below (o := .deferred none) hb2 (show w.heap.size ≤ D by omega)
        clear hl hs hd hb ho ho2
        gi_wp2_with fail
        refine ⟨by simp, .inl ⟨_, _, rfl, run_takeDeferred hd2, ?_⟩⟩
        refine ⟨_, ?_, ⟨w.heap.size, n, rfl, ho3, hb3⟩⟩
        simp [results, Tryd.results15, go_sem]
end Go.Proofs.YthcfpikalmklbaaDoor
