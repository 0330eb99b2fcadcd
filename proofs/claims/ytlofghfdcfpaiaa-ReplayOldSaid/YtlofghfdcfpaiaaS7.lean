/- Proved: that the law ReplayOnce returns true for every input. Conditions: the list of steps lies in memory. -/
import Derived.Test.YtlofghfdcfpaiaaS6
import Derived.Test.YtlofghfdcfpaiaaS3
namespace Go.Proofs.Ytlofghfdcfpaiaa
open Go.RowKit Go.Sort Go.Maps Go.BigFrame
set_option linter.unusedVariables false
attribute [local go_sem] cell_alloc_old

theorem zero4 (w : World) : (zeroValue 4).run Try.prog w = .ok (.bool false) w := by kernel_rfl
theorem law3 : Keyed Try.prog 3 := int_keyed Try.underlying3
theorem i64_wf {n : Int} (h1 : -9223372036854775808 ≤ n) (h2 : n ≤ 9223372036854775807) : (Lit.int .i64 n).wf = true := WalkArith.wf_i64 ⟨h1, h2⟩

theorem valid_B' (T : Int) (B : Nat) (F : Bool) (w : World) (hB : B < U) (h : validN T B = F) :
    Calls Try.prog 12 #[.agg #[.int .i64 T, .int .u64 B]] w fun e w' => e = .returned (.bool F) ∧ Below w.heap.size w w' :=
  (valid_any T B w hB).mono fun e w'' ⟨a, b⟩ => ⟨by rw [a, h], b ▸ ball (Below.refl _ _) _⟩

set_option maxHeartbeats 4000000 in
theorem lawOnce (a : Option Addr) (cap : Nat) (zs : List Int) (w : World) (hz : IntsAt .i8 w a zs) (hm : zs.length ≤ maxLen) (hwf : ∀ z ∈ zs, (Lit.int .i8 z).wf = true) :
    Calls Try.prog 4 #[.slice a zs.length cap] w fun e w' => e = .returned (.bool true) ∧ Below w.heap.size w w' := by
  have hmm := @run_makeMap Try.prog
  go_enter Try.func4, Try.ntmps4
  go_wp2_with fail
  refine (head_any _).mono ?_
  rintro e w1 ⟨rfl, hb1⟩
  have hz1 := hz.keep hb1
  go_wp2_with fail
  have B2 := ball (ball hb1 (.map #[] 0)) (box 0 0)
  have hz2 := hz.keep B2
  refine (counters_any a cap zs _ hz2 hm hwf).mono ?_
  rintro e w3 ⟨v, rfl, out, hown, hl100, hbd, hb3⟩
  have mp : SetAt Try.prog 3 4 w3 w1.heap.size 0 (fun _ => false) := SetAt.keep ((SetAt.made w1).alloc _) hb3
  have z3 := hb3.size
  simp only [World.size_alloc] at z3
  obtain ⟨ao, co, rfl, hints, hlc, hcm⟩ := hown.shape
  have t0 : w3.cell? ⟨w1.heap.size + 1, 0, none⟩ = some (.int .i64 0) := keep1 hb3 (by simp)
  have t1 : w3.cell? ⟨w1.heap.size + 1, 1, none⟩ = some (.int .u64 0) := keep1 hb3 (by simp)
  have f0 : w3.frozen? ⟨w1.heap.size + 1, 0, none⟩ = false := keepF hb3 (v := .int .i64 0) (by simp) (by simp)
  have f1 : w3.frozen? ⟨w1.heap.size + 1, 1, none⟩ = false := keepF hb3 (v := .int .u64 0) (by simp) (by simp)
  have B3 := bstep B2 hb3
  have z1 := hb1.size
  clear hz1 hz2 hints hb3 B2
  simp only [World.size_alloc] at hown
  generalize hlen : out.length = m at *
  have HL := Lib.hid hlen; clear hlen
  have HBD := Lib.hid hbd; clear hbd
  generalize hb : w1.heap.size = b at *
  clear hb hb1 hmm
  go_wp2_with fail
  go_loopw [6, 18] (fun t i wr => ∃ (k : Nat) (T' : Int) (B' : Nat) (f : Int → Bool), k ≤ m ∧ i = .int .i64 k ∧ t = .int .i64 T' ∧ Once T' B' f ∧ T' ≤ 13200 ∧ SetAt Try.prog 3 4 wr b k f ∧
      wr.cell? ⟨b + 1, 0, none⟩ = some (.int .i64 T') ∧ wr.cell? ⟨b + 1, 1, none⟩ = some (.int .u64 B') ∧
      wr.frozen? ⟨b + 1, 0, none⟩ = false ∧ wr.frozen? ⟨b + 1, 1, none⟩ = false ∧ Own .i64 wr (b + 1 + 1) 3 (.slice ao m co) out ∧ Below w.heap.size w wr) (fun _ i _ => m - (intOf i).toNat)
  case atStart => exact ⟨0, 0, 0, _, Nat.zero_le _, rfl, rfl, Once.nil, by decide, mp, t0, t1, f0, f1, hown, B3⟩
  case round =>
    obtain ⟨k, T', B', f, hk, rfl, rfl, hO, hT', mp, t0, t1, f0, f1, hown, B4⟩ := hrel
    have hints := hown.ints
    clear B3
    have hU := hO.lt
    obtain ⟨v1, v2⟩ := valid_bd hO.valid
    by_cases hlt : k < m
    · obtain ⟨c, off, ha, hc⟩ : ∃ c off, ao = some ⟨c, off, none⟩ ∧ wr.cell? ⟨c, off + k, none⟩ = some (.int .i64 (out.getD k 0)) := by
        rcases hints with h | ⟨c, off, ha, h⟩
        · subst h; have := HL.out; simp at this; omega
        · exact ⟨c, off, ha, h k (by rw [HL.out]; exact hlt)⟩
      subst ha
      have hx : 1 ≤ out.getD k 0 ∧ out.getD k 0 ≤ 13200 := by
        have hk' : k < out.length := by rw [HL.out]; exact hlt
        rw [List.getD_eq_getElem?_getD, List.getElem?_eq_getElem hk']
        exact HBD.out _ (List.getElem_mem hk')
      generalize out.getD k 0 = x at *
      have hlook := mp.look (t := 32) Try.underlying32 Try.underlying3 Try.underlying4 zero4 (i64_wf (n := x) (by omega) (by omega))
      have hfr := hO.fresh (n := x) (by omega) (by omega)
      cases hW : (!f x && decide (T' - 64 < x))
      · cases hfx : f x
        · rw [hfx] at hlook
          have hge : ¬ T' - 64 < x := by rw [hfx] at hW; simpa using hW
          have hge' : decide (T' - 64 < x) = false := by simpa using hge
          obtain n1 := hO.no (n := x) (by omega) (by omega) hW
          rw [hW] at hfr
          have N1 := Lib.hid n1; have FR := Lib.hid hfr; have HV := Lib.hid hO.valid
          clear n1 hfr hW
          clear hfx
          go_wp2_with fail
          refine (note_any _ _ _ _ hU).mono ?_
          rw [N1.out]
          rintro e w4 ⟨rfl, hb4⟩
          have mp4 := (mp.keep hb4).alloc (.cells #[.int .i64 (noteT T' B' x), .int .u64 (noteB T' B' x)] 24)
          have F0 := keepF hb4 t0 f0
          have F1 := keepF hb4 t1 f1
          have T0 := keep1 hb4 t0
          have T1 := keep1 hb4 t1
          have H5 := (hown.keep hb4).alloc (.cells #[.int .i64 (noteT T' B' x), .int .u64 (noteB T' B' x)] 24)
          have B5 := ball (bstep B4 hb4) (.cells #[.int .i64 (noteT T' B' x), .int .u64 (noteB T' B' x)] 24)
          clear t0 t1 f0 f1 hints hown B4 hc hlook mp
          go_wp2_with fail
          refine (fresh_B' T' B' _ false _ hU FR.out).mono ?_
          rintro e w5 ⟨rfl, hb5⟩
          have f0 := keepF hb5 (old1 T0 _) ((frozen?_alloc_cells _ _ _ _).trans F0)
          have f1 := keepF hb5 (old1 T1 _) ((frozen?_alloc_cells _ _ _ _).trans F1)
          have t0 := keep1 hb5 (old1 T0 _)
          have t1 := keep1 hb5 (old1 T1 _)
          have mp5 := mp4.keep hb5
          have H6 := H5.keep hb5
          have B6 := bstep B5 hb5
          clear T0 T1 F0 F1 H5 B5 mp4
          go_wp2_with fail
          refine (valid_B' T' B' true _ hU HV.out).mono ?_
          rintro e w7 ⟨rfl, hb7⟩
          have f0 := keepF hb7 t0 f0
          have f1 := keepF hb7 t1 f1
          have t0 := keep1 hb7 t0
          have t1 := keep1 hb7 t1
          have mp7 := mp5.keep hb7
          have H8 := H6.keep hb7
          have B8 := bstep B6 hb7
          go_wp2_with fail
          go_roundw
          case rel =>
            obtain ⟨D, hD, hDf⟩ := mp7
            exact ⟨k + 1, T', B', f, by omega, by go_num, rfl, hO, hT', ⟨D, hD.mono (Nat.le_succ k), hDf⟩, t0, t1, f0, f1, H8, B8⟩
          case measure => simp [intOf]; omega
        · rw [hfx] at hlook
          obtain n1 := hO.no (n := x) (by omega) (by omega) hW
          rw [hW] at hfr
          have N1 := Lib.hid n1; have FR := Lib.hid hfr; have HV := Lib.hid hO.valid
          clear n1 hfr hW
          clear hfx
          go_wp2_with fail
          refine (note_any _ _ _ _ hU).mono ?_
          rw [N1.out]
          rintro e w4 ⟨rfl, hb4⟩
          have mp4 := (mp.keep hb4).alloc (.cells #[.int .i64 (noteT T' B' x), .int .u64 (noteB T' B' x)] 24)
          have F0 := keepF hb4 t0 f0
          have F1 := keepF hb4 t1 f1
          have T0 := keep1 hb4 t0
          have T1 := keep1 hb4 t1
          have H5 := (hown.keep hb4).alloc (.cells #[.int .i64 (noteT T' B' x), .int .u64 (noteB T' B' x)] 24)
          have B5 := ball (bstep B4 hb4) (.cells #[.int .i64 (noteT T' B' x), .int .u64 (noteB T' B' x)] 24)
          clear t0 t1 f0 f1 hints hown B4 hc hlook mp
          go_wp2_with fail
          refine (fresh_B' T' B' _ false _ hU FR.out).mono ?_
          rintro e w5 ⟨rfl, hb5⟩
          have f0 := keepF hb5 (old1 T0 _) ((frozen?_alloc_cells _ _ _ _).trans F0)
          have f1 := keepF hb5 (old1 T1 _) ((frozen?_alloc_cells _ _ _ _).trans F1)
          have t0 := keep1 hb5 (old1 T0 _)
          have t1 := keep1 hb5 (old1 T1 _)
          have mp5 := mp4.keep hb5
          have H6 := H5.keep hb5
          have B6 := bstep B5 hb5
          clear T0 T1 F0 F1 H5 B5 mp4
          go_wp2_with fail
          refine (valid_B' T' B' true _ hU HV.out).mono ?_
          rintro e w7 ⟨rfl, hb7⟩
          have f0 := keepF hb7 t0 f0
          have f1 := keepF hb7 t1 f1
          have t0 := keep1 hb7 t0
          have t1 := keep1 hb7 t1
          have mp7 := mp5.keep hb7
          have H8 := H6.keep hb7
          have B8 := bstep B6 hb7
          go_wp2_with fail
          go_roundw
          case rel =>
            obtain ⟨D, hD, hDf⟩ := mp7
            exact ⟨k + 1, T', B', f, by omega, by go_num, rfl, hO, hT', ⟨D, hD.mono (Nat.le_succ k), hDf⟩, t0, t1, f0, f1, H8, B8⟩
          case measure => simp [intOf]; omega
      · obtain ⟨n1, n2, n3⟩ := hO.yes (n := x) (by omega) (by omega) hW
        rw [hW] at hfr
        simp only [Bool.and_eq_true, decide_eq_true_eq, Bool.not_eq_true'] at hW
        obtain ⟨hW1, hW2⟩ := hW
        have hW2' : decide (T' - 64 < x) = true := by simpa using hW2
        rw [hW1] at hlook
        obtain ⟨M, hM⟩ : ∃ M, M = max T' x := ⟨_, rfl⟩
        rw [← hM] at n2 n3
        have hM13 : M ≤ 13200 := by omega
        have hV := n3.valid
        have hU2 := n3.lt
        generalize hBn : noteB T' B' x = Bn at *
        have HM := Lib.hid hM; have N1 := Lib.hid n1; have N2 := Lib.hid n2; have N3 := Lib.hid n3; have HBn := Lib.hid hBn; have FR := Lib.hid hfr; have HV := Lib.hid hV
        clear hM n1 n2 n3 hBn hfr hV
        go_wp2_with fail
        refine (note_any _ _ _ _ hU).mono ?_
        rw [N1.out, N2.out, HBn.out]
        rintro e w4 ⟨rfl, hb4⟩
        have mp4 := (mp.keep hb4).alloc (.cells #[.int .i64 M, .int .u64 Bn] 24)
        have F0 := keepF hb4 t0 f0
        have F1 := keepF hb4 t1 f1
        have T0 := keep1 hb4 t0
        have T1 := keep1 hb4 t1
        have H5 := (hown.keep hb4).alloc (.cells #[.int .i64 M, .int .u64 Bn] 24)
        have B5 := ball (bstep B4 hb4) (.cells #[.int .i64 M, .int .u64 Bn] 24)
        clear t0 t1 f0 f1 hints hown B4 hc hlook mp
        go_wp2_with fail
        refine (fresh_B' T' B' _ true _ hU FR.out).mono ?_
        rintro e w5 ⟨rfl, hb5⟩
        have x0 : w5.cell? ⟨w4.heap.size, 0, none⟩ = some (.int .i64 M) := keep1 hb5 (by simp)
        have x1 : w5.cell? ⟨w4.heap.size, 1, none⟩ = some (.int .u64 Bn) := keep1 hb5 (by simp)
        have f0 := keepF hb5 (old1 T0 _) ((frozen?_alloc_cells _ _ _ _).trans F0)
        have f1 := keepF hb5 (old1 T1 _) ((frozen?_alloc_cells _ _ _ _).trans F1)
        have t0 := keep1 hb5 (old1 T0 _)
        have t1 := keep1 hb5 (old1 T1 _)
        have mp5 := mp4.keep hb5
        have H6 := H5.keep hb5
        have B6 := bstep B5 hb5
        clear T0 T1 F0 F1 H5 B5 mp4
        have zb := World.block_lt_of_cell? _ _ t0
        simp only at zb
        obtain ⟨D, hD, hDf⟩ := (mp5.set (p := ⟨b + 1, 0, none⟩) (by simp) (.int .i64 M)).set (p := ⟨b + 1, 1, none⟩) (by simp) (.int .u64 Bn)
        go_wp2_with (first | (at_mapUpdate; refine wpList_mapUpdate_own _ rfl _ _ _ 32 rfl 3 4 law3 Try.underlying32 _ b k _ rfl hD (by unfold maxLen; omega) _ _ _ rfl rfl (keyOf_int_mk Try.underlying3 (i64_wf (n := x) (by omega) (by omega))) _ [] (plainElem_bool Try.underlying4 true) ?_; intro w6 hown6 hgrow6; have y0 : w6.cell? ⟨b + 1, 0, none⟩ = some (.int .i64 M) := hgrow6.cell (by go_simp) (by simp); have y1 : w6.cell? ⟨b + 1, 1, none⟩ = some (.int .u64 Bn) := hgrow6.cell (by go_simp) (by simp)))
        have g0 : w6.frozen? ⟨b + 1, 0, none⟩ = false := by rw [World.frozen?_of_block (hgrow6.block (b + 1) (by simp; omega) (by simp))]; go_simp
        have g1 : w6.frozen? ⟨b + 1, 1, none⟩ = false := by rw [World.frozen?_of_block (hgrow6.block (b + 1) (by simp; omega) (by simp))]; go_simp
        have mp6 : SetAt Try.prog 3 4 w6 b (k + 1) (fun m => if m = x then true else f m) := by
          refine ⟨_, hown6, fun y => ?_⟩
          by_cases hy : y = x
          · subst hy
            rw [atKey_put_same (by obtain ⟨es, cl, _, _, _, h⟩ := hD; exact ⟨_, h⟩) (by trivial)]; simp
          · rw [atKey_put_other (by simp [hy]), hDf y]; simp [hy]
        have H7 : Own .i64 w6 (b + 1 + 1) 3 (.slice (some ⟨c, off, none⟩) m co) out := by
          have h := (H6.set_below (p := ⟨b + 1, 0, none⟩) (Nat.lt_succ_self _) (.int .i64 M)).set_below (p := ⟨b + 1, 1, none⟩) (Nat.lt_succ_self _) (.int .u64 Bn)
          exact World.ownsRow.kept h hgrow6 (.inr (by have := (World.ownsRow.lt h c rfl).1; simp [Value.ownBlock]; omega))
        have B7 : Below w.heap.size w w6 := by
          refine Below.grown ((B6.setCell (p := ⟨b + 1, 0, none⟩) (by simp; omega) _).setCell (p := ⟨b + 1, 1, none⟩) (by simp; omega) _) hgrow6 (by simp; omega) (fun j hj => by cases hj; omega)
        refine (valid_B' M Bn true _ hU2 HV.out).mono ?_
        rintro e w7 ⟨rfl, hb7⟩
        have f0 := keepF hb7 y0 g0
        have f1 := keepF hb7 y1 g1
        have t0 := keep1 hb7 y0
        have t1 := keep1 hb7 y1
        have mp7 := mp6.keep hb7
        have H8 := H7.keep hb7
        have B8 := bstep B7 hb7
        have hMM : (max T' x == max T' x) = true := by simp
        clear y0 y1 g0 g1 mp6 H7 B7 hown6 hgrow6 hD
        have hM2 := HM.out
        rw [← hM2]
        have HM := Lib.hid hM2; clear hM2
        go_wp2_with fail
        go_roundw
        case rel => exact ⟨k + 1, M, Bn, _, by omega, by go_num, rfl, N3.out, hM13, mp7, t0, t1, f0, f1, H8, B8⟩
        case measure => simp [intOf]; omega
    · clear hints
      obtain ⟨W, hW⟩ : ∃ W, W = wr := ⟨_, rfl⟩
      rw [← hW] at t0 t1 mp B4 ⊢
      clear hW hown f0 f1
      have HO := Lib.hid hO; clear hO
      go_wp2_with fail
      go_loopw [12] (fun i wr => ∃ q : Nat, 1 ≤ q ∧ (q : Int) ≤ T' + 4 ∧ i = .int .i64 q ∧ wr.cell? ⟨b + 1, 0, none⟩ = some (.int .i64 T') ∧ wr.cell? ⟨b + 1, 1, none⟩ = some (.int .u64 B') ∧ SetAt Try.prog 3 4 wr b k f ∧ Below w.heap.size w wr) (fun i _ => (T' + 4 - intOf i).toNat)
      case atStart => exact ⟨1, Nat.le_refl _, by omega, rfl, t0, t1, mp, B4⟩
      case round =>
        clear t0 t1 mp B4
        obtain ⟨q, hq1, hq2, rfl, t0, t1, mp, B4⟩ := hrel
        by_cases hq : (q : Int) ≤ T' + 3
        · have hfr := HO.out.fresh (n := q) (by omega) (by omega)
          have hlook := mp.look_regrown (t := 32) Try.underlying32 Try.underlying3 Try.underlying4 zero4 (i64_wf (n := q) (by omega) (by omega))
          have q0 := cell_regrown t0
          have q1 := cell_regrown t1
          cases hfx : f q
          · rw [hfx] at hlook hfr
            cases hd : decide (T' - 64 < (q : Int))
            · rw [hd] at hfr
              have FR := Lib.hid hfr; clear hfr hfx
              go_wp2_with fail
              refine wp_region_quiet_below (by kernel_rfl) (by kernel_rfl) ?_
              repeat (go_big_quiet_step (first
                | (go_at_call 14; exact rg_of fun w' h => fresh_B' T' B' _ false _ hU FR.out)))
              refine wpQuiet_nil ?_
              intro _ hw'
              obtain ⟨⟨dq, osq⟩, hw''⟩ := hw'
              subst hw''
              have hb := below_regrown wr dq osq
              have t0 := keep1 hb t0
              have t1 := keep1 hb t1
              have mp := mp.keep hb
              have B5 := bstep B4 hb
              clear q0 q1 hlook B4
              go_wp2_with fail
              go_roundw
              case rel => exact ⟨q + 1, by omega, by omega, by go_num, t0, t1, mp, B5⟩
              case measure => simp [intOf]; omega
            · rw [hd] at hfr
              have FR := Lib.hid hfr; clear hfr hfx
              go_wp2_with fail
              refine wp_region_quiet_below (by kernel_rfl) (by kernel_rfl) ?_
              repeat (go_big_quiet_step (first
                | (go_at_call 14; exact rg_of fun w' h => fresh_B' T' B' _ true _ hU FR.out)))
              refine wpQuiet_nil ?_
              intro _ hw'
              obtain ⟨⟨dq, osq⟩, hw''⟩ := hw'
              subst hw''
              have hb := below_regrown wr dq osq
              have t0 := keep1 hb t0
              have t1 := keep1 hb t1
              have mp := mp.keep hb
              have B5 := bstep B4 hb
              clear q0 q1 hlook B4
              go_wp2_with fail
              go_roundw
              case rel => exact ⟨q + 1, by omega, by omega, by go_num, t0, t1, mp, B5⟩
              case measure => simp [intOf]; omega
          · rw [hfx] at hlook hfr
            have FR := Lib.hid hfr; clear hfr hfx
            go_wp2_with fail
            refine wp_region_quiet_below (by kernel_rfl) (by kernel_rfl) ?_
            repeat (go_big_quiet_step (first
              | (go_at_call 14; exact rg_of fun w' h => fresh_B' T' B' _ false _ hU FR.out)))
            refine wpQuiet_nil ?_
            intro _ hw'
            obtain ⟨⟨dq, osq⟩, hw''⟩ := hw'
            subst hw''
            have hb := below_regrown wr dq osq
            have t0 := keep1 hb t0
            have t1 := keep1 hb t1
            have mp := mp.keep hb
            have B5 := bstep B4 hb
            clear q0 q1 hlook B4
            go_wp2_with fail
            go_roundw
            case rel => exact ⟨q + 1, by omega, by omega, by go_num, t0, t1, mp, B5⟩
            case measure => simp [intOf]; omega
        · go_wp2_with fail
          go_ret
          exact ⟨rfl, B4⟩
end Go.Proofs.Ytlofghfdcfpaiaa
