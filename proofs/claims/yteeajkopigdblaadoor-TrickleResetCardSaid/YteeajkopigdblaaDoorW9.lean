/- Proved: what speaking of the statements returns: in which frames a node speaks, and its timer afterwards. Conditions: the table of steps holds its numbers; the list lies in memory. -/
import Derived.Test.YteeajkopigdblaaDoorW8
namespace Go.Proofs.YteeajkopigdblaaDoor
open Go.RowKit Go.Sort Go.BigFrame Go.Proofs.YteeajkopigdblaaDoor.K
set_option linter.unusedVariables false
set_option linter.unusedSimpArgs false
attribute [local go_sem] cell_alloc_old

def SpeakPost (u : Tk) (bs : List Bool) (w : World) (e : Ending) (w' : World) : Prop := ∃ a cap, e = .returned (.tuple #[.slice a bs.length cap, u.v]) ∧ BoolsAt w' a bs ∧ Below w.heap.size w w'
theorem info4 : (Tryd.prog.info? 4).map (fun i => (i.zero, i.size, i.bytes)) = some (some (.bool false), 1, 1) := by kernel_rfl
theorem runL_len (t : Tk) (n : Int) (hs : List Int) (k : Nat) : (runL t n hs k).length = k := by simp [runL]
theorem runL_succ (t : Tk) (n : Int) (hs : List Int) (k : Nat) : runL t n hs (k + 1) = runL t n hs k ++ [runB t n hs k] := by simp [runL, List.range_succ]
theorem heardAt_in {hs : List Int} {k : Nat} (h : k < hs.length) (h0 : 0 ≤ hs.getD k 0) : (heardAt hs k : Int) = hs.getD k 0 % 4 := by
  unfold heardAt; rw [if_pos h]; exact Int.toNat_of_nonneg (Int.emod_nonneg _ (by decide))

theorem own_set5 {w : World} {k : Nat} {v : Value} {bs : List Bool} (h : OwnB w (k + 2) v bs) (i b f c s : Int) : OwnB (((((w.setCell ⟨k, 0, none⟩ (.int .i64 i)).setCell ⟨k, 1, none⟩ (.int .i64 b)).setCell ⟨k, 2, none⟩ (.int .i64 f)).setCell ⟨k, 3, none⟩ (.int .i64 c)).setCell ⟨k, 4, none⟩ (.int .i64 s)) (k + 2) v bs :=
  ((((h.below (p := ⟨k, 0, none⟩) (show k < k + 2 by omega) _).below (p := ⟨k, 1, none⟩) (show k < k + 2 by omega) _).below (p := ⟨k, 2, none⟩) (show k < k + 2 by omega) _).below (p := ⟨k, 3, none⟩) (show k < k + 2 by omega) _).below (p := ⟨k, 4, none⟩) (show k < k + 2 by omega) _

theorem own_set5' {w : World} {k : Nat} {v : Value} {bs : List Bool} (h : OwnB w (k + 2) v bs) (i b f c s : Int) : OwnB (((((w.setCell ⟨k + 1, 0, none⟩ (.int .i64 i)).setCell ⟨k + 1, 1, none⟩ (.int .i64 b)).setCell ⟨k + 1, 2, none⟩ (.int .i64 f)).setCell ⟨k + 1, 3, none⟩ (.int .i64 c)).setCell ⟨k + 1, 4, none⟩ (.int .i64 s)) (k + 1 + 1) v bs :=
  ((((h.below (p := ⟨k + 1, 0, none⟩) (show k + 1 < k + 2 by omega) _).below (p := ⟨k + 1, 1, none⟩) (show k + 1 < k + 2 by omega) _).below (p := ⟨k + 1, 2, none⟩) (show k + 1 < k + 2 by omega) _).below (p := ⟨k + 1, 3, none⟩) (show k + 1 < k + 2 by omega) _).below (p := ⟨k + 1, 4, none⟩) (show k + 1 < k + 2 by omega) _
theorem BoolsAt.drew {w : World} {a : Option Addr} {bs : List Bool} (h : BoolsAt w a bs) : BoolsAt w.drew a bs := h

set_option maxRecDepth 100000 in
set_option maxHeartbeats 1000000 in
theorem speak_any (t : Tk) (n : Int) (m : Nat) (a : Option Addr) (cap : Nat) (hs : List Int) (w : World) (hT : Tab w) (n0 : 0 ≤ n) (n1 : n ≤ 900000100) (hm : m ≤ 100) (hl : IntsAt .u8 w a hs) (hlm : hs.length ≤ maxLen) (hw : ∀ z ∈ hs, (Lit.int .u8 z).wf = true) :
    Calls Tryd.prog 12 #[t.v, .int .i64 n, .int .i64 m, .slice a hs.length cap] w (SpeakPost (runT t n hs m) (runL t n hs m) w) := by
  obtain ⟨i0, hi, hz0, hz1, hz2⟩ := info_parts info4
  unfold maxLen at hlm
  obtain ⟨L, hL⟩ : ∃ L, L = hs.length := ⟨_, rfl⟩
  rw [← hL] at hlm ⊢
  have HL := Lib.hid hL; clear hL
  have HW := Lib.hid hw; clear hw
  have SP := Lib.hid (Sp.new w t)
  go_enter Tryd.func12, Tryd.ntmps12
  go_wp2_with fail
  obtain ⟨V, hV⟩ : ∃ V, (w.alloc (.cells #[.int .i64 t.i, .int .i64 t.b, .int .i64 t.f, .int .i64 t.c, .int .i64 t.s] 23)).alloc (.cells #[.int .i64 0, .int .i64 0, .int .i64 0, .int .i64 0, .int .i64 0] 23) = V := ⟨_, rfl⟩
  rw [hV] at SP ⊢
  clear hV
  go_loopw [10, 11] (fun v i wr => ∃ k : Nat, k ≤ m ∧ i = .int .i64 k ∧ OwnB wr (w.heap.size + 2) v (runL t n hs k) ∧ Sp w wr (runT t n hs k)) (fun _ i _ => m - (intOf i).toNat)
  case atStart => exact ⟨0, Nat.zero_le _, rfl, World.ownsRow_nil _ _ _ _, SP.out⟩
  case round =>
    clear SP
    obtain ⟨k, hk, rfl, hown, hsp⟩ := hrel
    have HOWN := Lib.hid hown; have SP := Lib.hid hsp; clear hown hsp
    by_cases hlt : k < m
    · have hlt' : (k : Int) < (m : Int) := by omega
      have hk100 : (k : Int) < 100 := by omega
      obtain ⟨u, hu⟩ : ∃ u, runT t n hs k = u := ⟨_, rfl⟩
      have HU := Lib.hid hu
      rw [hu] at SP
      clear hu
      go_wp2_with fail
      go_loopw [12] (fun j wr2 => ∃ q : Nat, q ≤ heardAt hs k ∧ j = .int .i64 q ∧ OwnB wr2 (w.heap.size + 2) _ (runL t n hs k) ∧ Sp w wr2 (hearsV u q)) (fun j _ => heardAt hs k - (intOf j).toNat)
      case atStart => exact ⟨0, Nat.zero_le _, rfl, HOWN.out, SP.out⟩
      case round =>
        clear HOWN SP
        obtain ⟨q, hq, rfl, hown, hsp⟩ := hrel
        have HOWN := Lib.hid hown; have SP := Lib.hid hsp; clear hown hsp
        by_cases hqh : q < heardAt hs k
        · have hkL : k < hs.length := by
            apply Decidable.byContradiction; intro hh; unfold heardAt at hqh; rw [if_neg hh] at hqh; omega
          obtain ⟨b, off, rfl, hc⟩ : ∃ b off, a = some ⟨b, off, none⟩ ∧ ∀ j, j < hs.length → w.cell? ⟨b, off + j, none⟩ = some (.int .u8 (hs.getD j 0)) := by
            rcases hl with h | h
            · rw [h] at hkL; cases hkL
            · exact h
          have hz := u8_bd (wf_at HW.out hkL)
          have hh := heardAt_in hkL hz.1
          have hc1 := hc k hkL
          obtain ⟨z, hzz⟩ : ∃ z, hs.getD k 0 = z := ⟨_, rfl⟩
          rw [hzz] at hz hh hc1
          obtain ⟨z0, z1⟩ := hz
          have hq4 : (q : Int) < z % 4 := by omega
          have d0 := keep1 SP.out.B hc1
          have hkL2 : (k : Int) < (L : Int) := by have := HL.out; omega
          have hkL0 : (0 : Int) ≤ (k : Int) := by omega
          obtain ⟨c0, c1, c2, c3, c4⟩ := SP.out.T
          have HH := Lib.hid hh
          have HC := Lib.hid hc
          obtain ⟨u2, hu2⟩ : ∃ u2, hearV (hearsV u q) = u2 := ⟨_, rfl⟩
          have HU2 := Lib.hid hu2
          have HQ := Lib.hid hqh
          clear hc1 hh hl hc hu2 hzz hqh
          go_wp2_with fail
          refine (hear_at (hearsV u q) u2 _ HU2.out).mono ?_
          rintro e w1 ⟨rfl, bb⟩
          have SP := Lib.hid (SP.out.keep bb)
          have HOWN := Lib.hid (HOWN.out.keep bb)
          clear c0 c1 c2 c3 c4 d0 bb
          obtain ⟨c0, c1, c2, c3, c4⟩ := SP.out.T
          have f0 := SP.out.FT 0; have f1 := SP.out.FT 1; have f2 := SP.out.FT 2; have f3 := SP.out.FT 3; have f4 := SP.out.FT 4
          go_wp2_with fail
          have SPZ := Lib.hid (SP.out.set u2.i u2.b u2.f u2.c u2.s)
          have HOZ := Lib.hid (((((HOWN.out.below (p := ⟨w.heap.size, 0, none⟩) (show w.heap.size < w.heap.size + 2 by omega) (.int .i64 u2.i)).below (p := ⟨w.heap.size, 1, none⟩) (show w.heap.size < w.heap.size + 2 by omega) (.int .i64 u2.b)).below (p := ⟨w.heap.size, 2, none⟩) (show w.heap.size < w.heap.size + 2 by omega) (.int .i64 u2.f)).below (p := ⟨w.heap.size, 3, none⟩) (show w.heap.size < w.heap.size + 2 by omega) (.int .i64 u2.c)).below (p := ⟨w.heap.size, 4, none⟩) (show w.heap.size < w.heap.size + 2 by omega) (.int .i64 u2.s))
          go_roundw
          case rel => exact ⟨q + 1, HQ.out, by go_num, HOZ.out, by rw [show hearsV u (q + 1) = u2 from HU2.out]; exact SPZ.out⟩
          case measure => have := HQ.out; simp [intOf]; omega
        · have hqe : q = heardAt hs k := by omega
          subst hqe
          obtain ⟨u2, hu2⟩ : ∃ u2, tickT (hearsV u (heardAt hs k)) (n + k) = u2 := ⟨_, rfl⟩
          obtain ⟨y, hy⟩ : ∃ y, tickB (hearsV u (heardAt hs k)) (n + k) = y := ⟨_, rfl⟩
          have hr2 : runT t n hs (k + 1) = u2 := by rw [← hu2, ← HU.out]; rfl
          have hrb : runB t n hs k = y := by rw [← hy, ← HU.out]; rfl
          have HU2 := Lib.hid hu2; have HY := Lib.hid hy; have HR2 := Lib.hid hr2; have HRB := Lib.hid hrb
          clear hu2 hy hr2 hrb
          obtain ⟨c0, c1, c2, c3, c4⟩ := SP.out.T
          by_cases hkL : k < hs.length
          · obtain ⟨b, off, rfl, hc⟩ : ∃ b off, a = some ⟨b, off, none⟩ ∧ ∀ j, j < hs.length → w.cell? ⟨b, off + j, none⟩ = some (.int .u8 (hs.getD j 0)) := by
              rcases hl with h | h
              · rw [h] at hkL; cases hkL
              · exact h
            have hz := u8_bd (wf_at HW.out hkL)
            have hh := heardAt_in hkL hz.1
            have hc1 := hc k hkL
            obtain ⟨z, hzz⟩ : ∃ z, hs.getD k 0 = z := ⟨_, rfl⟩
            rw [hzz] at hz hh hc1
            obtain ⟨z0, z1⟩ := hz
            obtain ⟨qq, hqq⟩ : ∃ qq, heardAt hs k = qq := ⟨_, rfl⟩
            have hq4 : ¬ (qq : Int) < z % 4 := by omega
            have d0 := keep1 SP.out.B hc1
            have hkL2 : (k : Int) < (L : Int) := by have := HL.out; omega
            have hkL0 : (0 : Int) ≤ (k : Int) := by omega
            have HHL := Lib.hid hl
            rw [hqq] at HU2 HY SP c0 c1 c2 c3 c4 ⊢
            have HQQ := Lib.hid hqq
            clear hh hl hc hzz hqq hqh hc1 hq
            go_wp2_with fail
            refine (tick_at (hearsV u qq) u2 (n + k) y _ (hT.keep SP.out.B) HU2.out HY.out).mono ?_
            rintro e w1 ⟨rfl, bb⟩
            have SP := Lib.hid (SP.out.keep bb)
            have HOWN := Lib.hid (HOWN.out.keep bb)
            clear bb
            have SPA := Lib.hid (SP.out.alloc (.cells #[.int .i64 u2.i, .int .i64 u2.b, .int .i64 u2.f, .int .i64 u2.c, .int .i64 u2.s] 23))
            have hsz := SP.out.S
            go_upto_region 10 with (fail)
            have TX := TkAt.new w1 u2 23
            have HOA := Lib.hid (World.ownsRow.alloc HOWN.out (.cells #[.int .i64 u2.i, .int .i64 u2.b, .int .i64 u2.f, .int .i64 u2.c, .int .i64 u2.s] 23) : OwnB (w1.alloc (.cells #[.int .i64 u2.i, .int .i64 u2.b, .int .i64 u2.f, .int .i64 u2.c, .int .i64 u2.s] 23)) _ _ _)
            obtain ⟨V2, hV2⟩ : ∃ V2, w1.alloc (.cells #[.int .i64 u2.i, .int .i64 u2.b, .int .i64 u2.f, .int .i64 u2.c, .int .i64 u2.s] 23) = V2 := ⟨_, rfl⟩
            obtain ⟨k8, hk8⟩ : ∃ k8, w1.heap.size = k8 := ⟨_, rfl⟩
            rw [hV2] at SPA TX HOA ⊢
            rw [hk8] at TX ⊢
            clear hV2 hk8 hsz SP HOWN
            obtain ⟨c0, c1, c2, c3, c4⟩ := SPA.out.T
            obtain ⟨x0, x1, x2, x3, x4⟩ := TX
            have f0 := SPA.out.FT 0; have f1 := SPA.out.FT 1; have f2 := SPA.out.FT 2; have f3 := SPA.out.FT 3; have f4 := SPA.out.FT 4
            go_upto_region 11 with (fail)
            have SPZ := Lib.hid (SPA.out.set u2.i u2.b u2.f u2.c u2.s)
            have HOZ := Lib.hid (own_set5 HOA.out u2.i u2.b u2.f u2.c u2.s)
            obtain ⟨Z, hZ⟩ : ∃ Z, ((((V2.setCell ⟨w.heap.size, 0, none⟩ (.int .i64 u2.i)).setCell ⟨w.heap.size, 1, none⟩ (.int .i64 u2.b)).setCell ⟨w.heap.size, 2, none⟩ (.int .i64 u2.f)).setCell ⟨w.heap.size, 3, none⟩ (.int .i64 u2.c)).setCell ⟨w.heap.size, 4, none⟩ (.int .i64 u2.s) = Z := ⟨_, rfl⟩
            rw [hZ] at SPZ HOZ ⊢
            clear hZ c0 c1 c2 c3 c4 x0 x1 x2 x3 x4 f0 f1 f2 f3 f4 SPA HOA
            have HLEN := Lib.hid (runL_len t n hs k)
            have HSUC := Lib.hid (runL_succ t n hs k)
            have hZs := SPZ.out.S
            have hown := HOZ.out
            go_wp2_with (first
              | (at_builtin; refine wpList_append_own _ rfl _ _ 27 rfl (w.heap.size + 2) 4 i0 (.bool false) 1 1 Tryd.underlying27 hi hz0 hz1 hz2 rfl (by decide) _ _ _ rfl (World.ownsRow.alloc hown _) ⟨Z.heap.size, 0, none⟩ 1 1 [.bool y] rfl rfl (one_new _ _ _) (one_bool _) (by have := HLEN.out; unfold maxLen; omega) (by have := HLEN.out; omega) (by simp; omega) ?_; intro v' w2 hown' hgrow _))
            have SP2 := Lib.hid (SPZ.out.grown HOZ.out (Nat.le_refl _) hgrow)
            have HO2 := Lib.hid (OwnB.push hown')
            clear hown' hgrow hown
            go_wp2_with fail
            go_roundw
            case rel => exact ⟨k + 1, by omega, by go_num, by rw [HSUC.out, HRB.out]; exact HO2.out, by rw [HR2.out]; exact SP2.out⟩
            case measure => simp [intOf]; omega
          · have hkL2 : ¬ (k : Int) < (L : Int) := by have := HL.out; omega
            obtain ⟨qq, hqq⟩ : ∃ qq, heardAt hs k = qq := ⟨_, rfl⟩
            rw [hqq] at HU2 HY SP c0 c1 c2 c3 c4 ⊢
            have HQQ := Lib.hid hqq
            clear hqq hqh hq
            go_wp2_with fail
            refine (tick_at (hearsV u qq) u2 (n + k) y _ (hT.keep SP.out.B) HU2.out HY.out).mono ?_
            rintro e w1 ⟨rfl, bb⟩
            have SP := Lib.hid (SP.out.keep bb)
            have HOWN := Lib.hid (HOWN.out.keep bb)
            clear bb
            have SPA := Lib.hid (SP.out.alloc (.cells #[.int .i64 u2.i, .int .i64 u2.b, .int .i64 u2.f, .int .i64 u2.c, .int .i64 u2.s] 23))
            have hsz := SP.out.S
            go_upto_region 10 with (fail)
            have TX := TkAt.new w1 u2 23
            have HOA := Lib.hid (World.ownsRow.alloc HOWN.out (.cells #[.int .i64 u2.i, .int .i64 u2.b, .int .i64 u2.f, .int .i64 u2.c, .int .i64 u2.s] 23) : OwnB (w1.alloc (.cells #[.int .i64 u2.i, .int .i64 u2.b, .int .i64 u2.f, .int .i64 u2.c, .int .i64 u2.s] 23)) _ _ _)
            obtain ⟨V2, hV2⟩ : ∃ V2, w1.alloc (.cells #[.int .i64 u2.i, .int .i64 u2.b, .int .i64 u2.f, .int .i64 u2.c, .int .i64 u2.s] 23) = V2 := ⟨_, rfl⟩
            obtain ⟨k8, hk8⟩ : ∃ k8, w1.heap.size = k8 := ⟨_, rfl⟩
            rw [hV2] at SPA TX HOA ⊢
            rw [hk8] at TX ⊢
            clear hV2 hk8 hsz SP HOWN
            obtain ⟨c0, c1, c2, c3, c4⟩ := SPA.out.T
            obtain ⟨x0, x1, x2, x3, x4⟩ := TX
            have f0 := SPA.out.FT 0; have f1 := SPA.out.FT 1; have f2 := SPA.out.FT 2; have f3 := SPA.out.FT 3; have f4 := SPA.out.FT 4
            go_upto_region 11 with (fail)
            have SPZ := Lib.hid (SPA.out.set u2.i u2.b u2.f u2.c u2.s)
            have HOZ := Lib.hid (own_set5 HOA.out u2.i u2.b u2.f u2.c u2.s)
            obtain ⟨Z, hZ⟩ : ∃ Z, ((((V2.setCell ⟨w.heap.size, 0, none⟩ (.int .i64 u2.i)).setCell ⟨w.heap.size, 1, none⟩ (.int .i64 u2.b)).setCell ⟨w.heap.size, 2, none⟩ (.int .i64 u2.f)).setCell ⟨w.heap.size, 3, none⟩ (.int .i64 u2.c)).setCell ⟨w.heap.size, 4, none⟩ (.int .i64 u2.s) = Z := ⟨_, rfl⟩
            rw [hZ] at SPZ HOZ ⊢
            clear hZ c0 c1 c2 c3 c4 x0 x1 x2 x3 x4 f0 f1 f2 f3 f4 SPA HOA
            have HLEN := Lib.hid (runL_len t n hs k)
            have HSUC := Lib.hid (runL_succ t n hs k)
            have hZs := SPZ.out.S
            have hown := HOZ.out
            go_wp2_with (first
              | (at_builtin; refine wpList_append_own _ rfl _ _ 27 rfl (w.heap.size + 2) 4 i0 (.bool false) 1 1 Tryd.underlying27 hi hz0 hz1 hz2 rfl (by decide) _ _ _ rfl (World.ownsRow.alloc hown _) ⟨Z.heap.size, 0, none⟩ 1 1 [.bool y] rfl rfl (one_new _ _ _) (one_bool _) (by have := HLEN.out; unfold maxLen; omega) (by have := HLEN.out; omega) (by simp; omega) ?_; intro v' w2 hown' hgrow _))
            have SP2 := Lib.hid (SPZ.out.grown HOZ.out (Nat.le_refl _) hgrow)
            have HO2 := Lib.hid (OwnB.push hown')
            clear hown' hgrow hown
            go_wp2_with fail
            go_roundw
            case rel => exact ⟨k + 1, by omega, by go_num, by rw [HSUC.out, HRB.out]; exact HO2.out, by rw [HR2.out]; exact SP2.out⟩
            case measure => simp [intOf]; omega
    · have hkn : m = k := by omega
      subst hkn
      obtain ⟨a2, cap2, rfl, hbs, _, _⟩ := HOWN.out.shape
      obtain ⟨u, hu⟩ : ∃ u, runT t n hs m = u := ⟨_, rfl⟩
      rw [hu] at SP
      obtain ⟨bs, hb⟩ : ∃ bs, runL t n hs m = bs := ⟨_, rfl⟩
      rw [hb] at hbs HOWN
      rw [hb]
      have HU := Lib.hid hu; have HB := Lib.hid hb
      clear hu hb
      have HBS := Lib.hid hbs; clear hbs
      go_wp2_with fail
      have nb1 : ¬ w.heap.size = w.heap.size + 1 := by omega
      have nb2 : ¬ w.heap.size + 1 = w.heap.size := by omega
      obtain ⟨c0, c1, c2, c3, c4⟩ := SP.out.T
      obtain ⟨z0, z1, z2, z3, z4⟩ := SP.out.Z
      simp only at z0 z1 z2 z3 z4
      have f0 := SP.out.FZ 0; have f1 := SP.out.FZ 1; have f2 := SP.out.FZ 2; have f3 := SP.out.FZ 3; have f4 := SP.out.FZ 4
      go_region
      clear c0 c1 c2 c3 c4 z0 z1 z2 z3 z4 f0 f1 f2 f3 f4 nb1 nb2
      have q := (SP.out.Z.setAll u.i u.b u.f u.c u.s).drew
      have BZ := Below.drew (below_set5 SP.out.B (Nat.le_succ _) u.i u.b u.f u.c u.s)
      have HO2 : OwnB _ (w.heap.size + 1 + 1) _ bs := own_set5' HOWN.out u.i u.b u.f u.c u.s
      obtain ⟨Z, hZ⟩ : ∃ Z, ((((wr.setCell ⟨w.heap.size + 1, 0, none⟩ (.int .i64 u.i)).setCell ⟨w.heap.size + 1, 1, none⟩ (.int .i64 u.b)).setCell ⟨w.heap.size + 1, 2, none⟩ (.int .i64 u.f)).setCell ⟨w.heap.size + 1, 3, none⟩ (.int .i64 u.c)).setCell ⟨w.heap.size + 1, 4, none⟩ (.int .i64 u.s) = Z := ⟨_, rfl⟩
      have BZ : Below w.heap.size w Z.drew := by rw [← hZ]; exact BZ
      rw [hZ] at q HO2 ⊢
      clear hZ
      obtain ⟨q0, q1, q2, q3, q4⟩ := q
      simp only at q0 q1 q2 q3 q4
      go_wp2_with fail
      refine bodyPost_ret (v := .tuple #[.slice a2 bs.length cap2, u.v]) (by simp [results, Tryd.results12, go_sem, q0, q1, q2, q3, q4]) rfl ?_
      obtain ⟨a3, cap3, h3, hb3, _⟩ := HO2.shape
      simp only [Value.slice.injEq] at h3
      rw [HU.out, HB.out]
      exact ⟨a2, cap2, rfl, by rw [h3.1]; exact hb3.drew, BZ⟩
end Go.Proofs.YteeajkopigdblaaDoor
