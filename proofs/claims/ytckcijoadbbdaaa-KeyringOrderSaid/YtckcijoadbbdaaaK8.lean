/- Proved: that the law KeyringStep returns true for every input. Conditions: the lists lie in memory; the numbers fit their types. -/
import Derived.Test.YtckcijoadbbdaaaK3
import Derived.Test.YtckcijoadbbdaaaMix
namespace Go.Proofs.Ytckcijoadbbdaaa
open Go.RowKit Go.Sort Go.BigFrame
set_option linter.unusedVariables false
set_option linter.unusedSimpArgs false
attribute [local go_sem] cell_alloc_old

theorem ep_in {q d : Int} (h0 : 0 ≤ q) (h1 : q ≤ 499999) (d0 : 0 ≤ d) (d1 : d ≤ 1999) : slotN (2000 * q + d) = true ∧ epV (2000 * q + d) = q ∧ epE (2000 * q + d) = 0 := by
  have hs : slotN (2000 * q + d) = true := by simp [slotN]; omega
  refine ⟨hs, ?_, ?_⟩
  · simp only [epV, hs, if_true]; omega
  · simp [epE, hs]
theorem knows_in {f n e : Int} (h0 : 0 ≤ f) (h1 : e ≤ 499999) (h2 : f ≤ e) (h3 : e < n) (h4 : n ≤ e + 2) : knowsR f n e = true := by
  have h5 : 0 ≤ f ∧ f ≤ 500000 ∧ f + 1 ≤ n ∧ n ≤ 500002 := by omega
  have h6 : f ≤ e ∧ e < n := by omega
  simp [knowsR, validR, h5, h6]
theorem age_step {f n q a : Int} (h0 : 0 ≤ f) (hq : q ≤ 499999) (h2 : f ≤ q) (h3 : q < n) (h4 : n ≤ q + 2) (ha : epV a = q) (hs : slotN a = true) : ageF f n a = q ∧ ageN f n a = n := by
  have hv : validR f n = true := by have h5 : 0 ≤ f ∧ f ≤ 500000 ∧ f + 1 ≤ n ∧ n ≤ 500002 := by omega
                                    simp [validR, h5]
  by_cases h : q ≤ f
  · have hk : ageK f n a = true := by simp [ageK, hs, hv, ha, h]
    have : f = q := by omega
    exact ⟨by unfold ageF; rw [if_pos hk]; exact this, by simp [ageN, hk]⟩
  · have hk : ageK f n a = false := by simp [ageK, hs, hv, ha]; omega
    have hn : ¬ n ≤ q := by omega
    exact ⟨by simp [ageF, hk, ha, hn], by simp [ageN, hk, ha, hn]⟩
theorem learn_step {f n q a : Int} (h0 : 0 ≤ f) (hq : q ≤ 499999) (h2 : f ≤ q) (h3 : q < n) (h4 : n ≤ q + 2) (ha : epV a = q) (hs : slotN a = true) : learnF f n q (q + 2) a = f ∧ learnN f n q (q + 2) a = q + 2 := by
  have k1 := knows_in h0 hq h2 h3 h4
  have k2 : knowsR q (q + 2) q = true := knows_in (by omega) hq (by omega) (by omega) (by omega)
  have hc : learnC f n q (q + 2) a = true := by simp [learnC, hs, ha, k1, k2]
  refine ⟨by simp only [learnF, hc, if_true]; omega, by simp only [learnN, hc, if_true]; omega⟩
theorem root_step {q a : Int} (ha : epV a = q) (hs : slotN a = true) : rootF a = q ∧ rootN a = q + 2 := by
  simp only [epV, hs, if_true] at ha
  simp [rootF, rootN, hs, ha]
theorem mod2000 {z : Int} (h : 0 ≤ z) : ∃ d, z.tmod 2000 = d ∧ 0 ≤ d ∧ d ≤ 1999 := ⟨z % 2000, Int.tmod_eq_emod_of_nonneg h, by omega, by omega⟩
theorem u16_at {zs : List Int} (h : ∀ z ∈ zs, (Lit.int .u16 z).wf = true) (k : Nat) : 0 ≤ zs.getD k 0 ∧ zs.getD k 0 ≤ 65535 := by
  by_cases hk : k < zs.length
  · exact wf_bd (wf_at h hk)
  · rw [List.getD_eq_getElem?_getD, List.getElem?_eq_none (by omega)]; simp

set_option maxRecDepth 100000 in
set_option maxHeartbeats 8000000 in
theorem lawStep (s : Int) (aa : Option Addr) (ca : Nat) (za : List Int) (ab : Option Addr) (cb : Nat) (zb : List Int) (w : World) (h0 : 0 ≤ s) (h1 : s ≤ 4294967295)
    (hza : IntsAt .u16 w aa za) (hma : za.length ≤ maxLen) (hwa : ∀ z ∈ za, (Lit.int .u16 z).wf = true) (hzb : IntsAt .u16 w ab zb) (hmb : zb.length ≤ maxLen) (hwb : ∀ z ∈ zb, (Lit.int .u16 z).wf = true) :
    Calls Try.prog 9 #[.int .u32 s, .slice aa za.length ca, .slice ab zb.length cb] w fun e w' => e = .returned (.bool true) ∧ Below w.heap.size w w' := by
  obtain ⟨a, ha⟩ : ∃ a, s % 999996000 = a := ⟨_, rfl⟩
  have a0 : 0 ≤ a := by omega
  have a1 : a < 999996000 := by omega
  obtain ⟨b, hb⟩ : ∃ b, b = a % 999920000 := ⟨_, rfl⟩
  have eb : a.tmod 999920000 = b := by rw [Int.tmod_eq_emod_of_nonneg a0, hb]
  have b0 : 0 ≤ b := by omega
  have b1 : b < 999920000 := by omega
  obtain ⟨q, hq⟩ : ∃ q, q = b / 2000 := ⟨_, rfl⟩
  have q0 : 0 ≤ q := by omega
  have q1 : q ≤ 499959 := by omega
  obtain ⟨d, hd⟩ : ∃ d, d = b % 2000 := ⟨_, rfl⟩
  have ed : b.tmod 2000 = d := by rw [Int.tmod_eq_emod_of_nonneg b0, hd]
  have es : b - d = 2000 * q := by omega
  have d0 : 0 ≤ d := by omega
  have d1 : d ≤ 1999 := by omega
  have eq0 : (2000 * q).tdiv 2000 = q := by rw [Int.tdiv_eq_ediv_of_nonneg (by omega)]; omega
  have eq1 : 2000 * q / 2000 = q := by omega
  have HA := Lib.hid ha
  clear ha hb hq hd
  unfold maxLen at hma hmb
  generalize hna : za.length = n at *
  generalize hnb : zb.length = m at *
  have HNA := Lib.hid hna; have HNB := Lib.hid hnb; clear hna hnb
  go_enter Try.func9, Try.ntmps9
  go_wp2_with fail
  refine (head_any _).mono ?_
  rintro e w1 ⟨rfl, hb1⟩
  have BB := hb1
  go_wp2_with fail
  refine (slot_at s a _ h0 h1 HA.out).mono ?_
  rintro e w2 ⟨rfl, hb2⟩
  have BB := bstep BB hb2
  go_wp2_with fail
  refine (ring_any q (q + 1) _).mono ?_
  rintro e w3 ⟨rfl, hb3⟩
  have BB := bstep BB hb3
  clear eb ed es eq0 eq1 b0 b1 d0 d1
  go_wp2_with fail
  obtain ⟨R, hR⟩ : ∃ R, R = w3.heap.size := ⟨_, rfl⟩
  have t0 : (w3.alloc (.cells #[.int .i64 q, .int .i64 (q + 1)] 23)).cell? ⟨R, 0, none⟩ = some (.int .i64 q) := by rw [hR]; simp
  have t1 : (w3.alloc (.cells #[.int .i64 q, .int .i64 (q + 1)] 23)).cell? ⟨R, 1, none⟩ = some (.int .i64 (q + 1)) := by rw [hR]; simp
  have f0 : (w3.alloc (.cells #[.int .i64 q, .int .i64 (q + 1)] 23)).frozen? ⟨R, 0, none⟩ = false := by rw [hR]; go_simp
  have f1 : (w3.alloc (.cells #[.int .i64 q, .int .i64 (q + 1)] 23)).frozen? ⟨R, 1, none⟩ = false := by rw [hR]; go_simp
  have hR' : w.heap.size ≤ R := by rw [hR]; exact BB.size
  have B0 : Below w.heap.size w (w3.alloc (.cells #[.int .i64 q, .int .i64 (q + 1)] 23)) := ball BB _
  rw [← hR]
  clear hR BB hb1 hb2 hb3
  obtain ⟨W, hW⟩ : ∃ W, W = w3.alloc (.cells #[.int .i64 q, .int .i64 (q + 1)] 23) := ⟨_, rfl⟩
  rw [← hW] at t0 t1 f0 f1 B0 ⊢
  clear hW
  go_loopw [9, 11] (fun f i wr => ∃ (k : Nat) (e x y : Int), k ≤ 30 ∧ k ≤ n ∧ i = .int .i64 k ∧ e = q + k ∧ f = .int .i64 (2000 * e) ∧ 0 ≤ x ∧ x ≤ e ∧ e < y ∧ y ≤ e + 2 ∧
      wr.cell? ⟨R, 0, none⟩ = some (.int .i64 x) ∧ wr.cell? ⟨R, 1, none⟩ = some (.int .i64 y) ∧ wr.frozen? ⟨R, 0, none⟩ = false ∧ wr.frozen? ⟨R, 1, none⟩ = false ∧ Below w.heap.size w wr) (fun _ i _ => 30 - (intOf i).toNat)
  case atStart => exact ⟨0, q, q, q + 1, by omega, by omega, rfl, by omega, rfl, by omega, by omega, by omega, by omega, t0, t1, f0, f1, B0⟩
  case round =>
    clear t0 t1 f0 f1 B0
    obtain ⟨k, e, x, y, hk, hkn, rfl, he, rfl, x0, x1, y0, y1, t0, t1, f0, f1, BB⟩ := hrel
    have e0 : 0 ≤ e := by omega
    have e1 : e ≤ 499989 := by omega
    have HE := Lib.hid he; clear he
    by_cases hlt : k < n ∧ k < 30
    · obtain ⟨hlt, hl3⟩ := hlt
      have hlt' : (k : Int) < (n : Int) := by omega
      have hl3' : (k : Int) < 30 := by omega
      obtain ⟨ba, oa, haa, hca⟩ : ∃ b off, aa = some ⟨b, off, none⟩ ∧ w.cell? ⟨b, off + k, none⟩ = some (.int .u16 (za.getD k 0)) := by
        rcases hza with h | ⟨b, off, ha, h⟩
        · subst h; have := HNA.out; simp at this; omega
        · exact ⟨b, off, ha, h k (by rw [HNA.out]; exact hlt)⟩
      subst haa
      obtain ⟨ua0, ua1⟩ := u16_at hwa k
      obtain ⟨da, hda, da0, da1⟩ := mod2000 ua0
      replace hca := keep1 BB hca
      generalize za.getD k 0 = xa at *
      obtain ⟨ss, sv, se⟩ := ep_in (q := e) (d := 0) e0 (by omega) (by omega) (by omega)
      rw [Int.add_zero] at ss sv se
      obtain ⟨hs, hv, hE⟩ := ep_in (q := e) (d := da) e0 (by omega) da0 da1
      obtain ⟨F, hF⟩ : ∃ F, F = 2000 * e := ⟨_, rfl⟩
      have F0 : 0 ≤ F := by omega
      have F1 : F ≤ 999978000 := by omega
      rw [← hF] at ss sv se hs hv hE ⊢
      have SS := Lib.hid ss; have SV := Lib.hid sv; have SE := Lib.hid se; have HS := Lib.hid hs; have HV := Lib.hid hv; have HEE := Lib.hid hE; have HF := Lib.hid hF
      clear ss sv se hs hv hE hF
      by_cases hm : k < m
      · have hm' : (k : Int) < (m : Int) := by omega
        obtain ⟨bb, ob, hbb, hcb⟩ : ∃ b off, ab = some ⟨b, off, none⟩ ∧ w.cell? ⟨b, off + k, none⟩ = some (.int .u16 (zb.getD k 0)) := by
          rcases hzb with h | ⟨b, off, ha, h⟩
          · subst h; have := HNB.out; simp at this; omega
          · exact ⟨b, off, ha, h k (by rw [HNB.out]; exact hm)⟩
        subst hbb
        obtain ⟨ub0, ub1⟩ := u16_at hwb k
        obtain ⟨db, hdb, db0, db1⟩ := mod2000 ub0
        replace hcb := keep1 BB hcb
        generalize zb.getD k 0 = xb at *
        by_cases hfs : db ≤ da
        · skip
          have AG : slotN (F + db) = true ∧ epV (F + db) = e ∧ epE (F + db) = 0 := by
            have h := ep_in (q := e) (d := db) e0 (by omega) db0 db1
            rw [← HF.out] at h
            exact h
          have AS := Lib.hid AG.1; have AV := Lib.hid AG.2.1; clear AG
          have hcmp : decide (F + db ≤ F + da) = true := by simp; omega
          have hcmp2 : decide (F + da < F + db) = false := by simp; omega
          have hcmp3 : decide (db ≤ da) = true := by simp; omega
          have hcmp4 : decide (da < db) = false := by simp; omega
          have K1 := Lib.hid (knows_in (f := x) (n := y) (e := e) x0 (by omega) x1 y0 y1)
          have st := age_step (f := x) (n := y) (q := e) (a := F + db) x0 (by omega) x1 y0 y1 AV.out AS.out
          have A1 := Lib.hid st.1; have A2 := Lib.hid st.2; clear st
          have st := learn_step (f := e) (n := y) (q := e) (a := F + da) e0 (by omega) (Int.le_refl e) y0 y1 HV.out HS.out
          have L1 := Lib.hid st.1; have L2 := Lib.hid st.2; clear st
          have st := root_step (q := e) (a := F + da) HV.out HS.out
          have R1 := Lib.hid st.1; have R2 := Lib.hid st.2; clear st
          have K2 := Lib.hid (knows_in (f := e) (n := e + 2) (e := e) e0 (by omega) (Int.le_refl e) (by omega) (by omega))
          have K3 := Lib.hid (knows_in (f := e) (n := e + 2) (e := e + 1) e0 (by omega) (by omega) (by omega) (by omega))
          have Ft0 := f0; have Ft1 := f1; clear f0 f1
          go_wp2_with fail
          refine (ep_at F e 0 _ SV.out SE.out).mono ?_
          rintro e w1 ⟨rfl, hb1⟩
          have Ft0 := keepF hb1 (t0) (Ft0)
          have t0 := keep1 hb1 (t0)
          have Ft1 := keepF hb1 (t1) (Ft1)
          have t1 := keep1 hb1 (t1)
          have BB := bstep BB hb1
          clear hca hda hcb hdb
          go_wp2_with fail
          refine (kn_at x y e true _ K1.out).mono ?_
          rintro e w2 ⟨rfl, hb2⟩
          have Ft0 := keepF hb2 (t0) (Ft0)
          have t0 := keep1 hb2 (t0)
          have Ft1 := keepF hb2 (t1) (Ft1)
          have t1 := keep1 hb2 (t1)
          have BB := bstep BB hb2
          go_wp2_with fail
          refine (age_at x y (F + db) e y _ A1.out A2.out).mono ?_
          rintro e w3 ⟨rfl, hb3⟩
          have Ft0 := keepF hb3 (t0) (Ft0)
          have t0 := keep1 hb3 (t0)
          have Ft1 := keepF hb3 (t1) (Ft1)
          have t1 := keep1 hb3 (t1)
          have BB := bstep BB hb3
          go_wp2_with fail
          obtain ⟨V3, hV⟩ : ∃ V, V = (w3.setCell ⟨R, 0, none⟩ (.int .i64 (e))).setCell ⟨R, 1, none⟩ (.int .i64 (y)) := ⟨_, rfl⟩
          have hBV : Below w.heap.size w V3 := by rw [hV]; exact (BB.setCell hR' _).setCell hR' _
          have u0 : V3.cell? ⟨R, 0, none⟩ = some (.int .i64 (e)) := by rw [hV]; go_simp
          have u1 : V3.cell? ⟨R, 1, none⟩ = some (.int .i64 (y)) := by rw [hV]; go_simp
          have g0 : V3.frozen? ⟨R, 0, none⟩ = false := by rw [hV]; go_simp
          have g1 : V3.frozen? ⟨R, 1, none⟩ = false := by rw [hV]; go_simp
          rw [← hV]; clear hV t0 t1 Ft0 Ft1 BB
          have t0 := u0; have t1 := u1; have Ft0 := g0; have Ft1 := g1; have BB := hBV; clear u0 u1 g0 g1 hBV
          go_wp2_with fail
          have kt0 := cell_regrown t0
          have kt1 := cell_regrown t1
          refine' wp_region_mixed [0, 1, 2, 3, 4] [] [5] (by kernel_rfl) (by kernel_rfl) _ (fun Z hZ hN => quiet_hole ?hq1) (fun _ => .cells #[] 0) (fun _ _ => undef) (fun i hi => by cases hi) ?ht1
          case hq1 =>
            intro Q9 hQ9
            show wpQuiet _ _ _ _ [_, _, _, _, _] _
            repeat (go_big_quiet_step (first
              | (go_at_call 15; exact rgX hZ fun w' h => root_at (F + da) e (e + 2) _ R1.out R2.out)
              | (go_at_call 17; exact rgX hZ fun w' h => learn_at e y e (e + 2) (F + da) _ _ _ L1.out L2.out)))
            exact wpQuiet_nil hQ9
          rintro π z4 hz4 hπ hπd
          simp only [List.filterMap_cons, List.filterMap_nil, List.getElem?_cons_zero, List.getElem?_cons_succ, putsA, Option.bind_some, Act.put, List.setIfInBounds_toArray, List.set_cons_zero, List.set_cons_succ]
          show wpList _ _ _ [_] _ _
          have Ft0 := keepF hz4 t0 Ft0
          have t0 := keep1 hz4 t0
          have Ft1 := keepF hz4 t1 Ft1
          have t1 := keep1 hz4 t1
          clear kt0 kt1
          have BB := bstep BB hz4
          go_wp2_with fail
          obtain ⟨V4, hV⟩ : ∃ V, V = (z4.setCell ⟨R, 0, none⟩ (.int .i64 (e))).setCell ⟨R, 1, none⟩ (.int .i64 (e + 2)) := ⟨_, rfl⟩
          have hBV : Below w.heap.size w V4 := by rw [hV]; exact (BB.setCell hR' _).setCell hR' _
          have u0 : V4.cell? ⟨R, 0, none⟩ = some (.int .i64 (e)) := by rw [hV]; go_simp
          have u1 : V4.cell? ⟨R, 1, none⟩ = some (.int .i64 (e + 2)) := by rw [hV]; go_simp
          have g0 : V4.frozen? ⟨R, 0, none⟩ = false := by rw [hV]; go_simp
          have g1 : V4.frozen? ⟨R, 1, none⟩ = false := by rw [hV]; go_simp
          rw [← hV]; clear hV t0 t1 Ft0 Ft1 BB
          have t0 := u0; have t1 := u1; have Ft0 := g0; have Ft1 := g1; have BB := hBV; clear u0 u1 g0 g1 hBV
          go_wp2_with fail
          refine (kn_at e (e + 2) e true _ K2.out).mono ?_
          rintro e w5 ⟨rfl, hb5⟩
          have Ft0 := keepF hb5 (t0) (Ft0)
          have t0 := keep1 hb5 (t0)
          have Ft1 := keepF hb5 (t1) (Ft1)
          have t1 := keep1 hb5 (t1)
          have BB := bstep BB hb5
          go_wp2_with fail
          refine (kn_at e (e + 2) (e + 1) true _ K3.out).mono ?_
          rintro e w6 ⟨rfl, hb6⟩
          have Ft0 := keepF hb6 (t0) (Ft0)
          have t0 := keep1 hb6 (t0)
          have Ft1 := keepF hb6 (t1) (Ft1)
          have t1 := keep1 hb6 (t1)
          have BB := bstep BB hb6
          go_wp2_with fail
          go_roundw
          case rel => refine ⟨k + 1, e + 1, e, e + 2, by omega, by omega, by go_num, by have := HE.out; omega, ?_, by omega, by omega, by omega, by omega, t0, t1, Ft0, Ft1, BB⟩; have := HF.out; first | (rw [this, show 2000 * (e + 1) = 2000 * e + 2000 from by omega]; done) | (congr 1; omega)
          case measure => simp [intOf]; omega
        · skip
          have AG : slotN (F + db) = true ∧ epV (F + db) = e ∧ epE (F + db) = 0 := by
            have h := ep_in (q := e) (d := db) e0 (by omega) db0 db1
            rw [← HF.out] at h
            exact h
          have AS := Lib.hid AG.1; have AV := Lib.hid AG.2.1; clear AG
          have hcmp : decide (F + db ≤ F + da) = false := by simp; omega
          have hcmp2 : decide (F + da < F + db) = true := by simp; omega
          have hcmp3 : decide (db ≤ da) = false := by simp; omega
          have hcmp4 : decide (da < db) = true := by simp; omega
          have K1 := Lib.hid (knows_in (f := x) (n := y) (e := e) x0 (by omega) x1 y0 y1)
          have st := learn_step (f := x) (n := y) (q := e) (a := F + da) x0 (by omega) x1 y0 y1 HV.out HS.out
          have L1 := Lib.hid st.1; have L2 := Lib.hid st.2; clear st
          have st := age_step (f := x) (n := e + 2) (q := e) (a := F + db) x0 (by omega) x1 (by omega) (by omega) AV.out AS.out
          have A1 := Lib.hid st.1; have A2 := Lib.hid st.2; clear st
          have st := root_step (q := e) (a := F + da) HV.out HS.out
          have R1 := Lib.hid st.1; have R2 := Lib.hid st.2; clear st
          have K2 := Lib.hid (knows_in (f := e) (n := e + 2) (e := e) e0 (by omega) (Int.le_refl e) (by omega) (by omega))
          have K3 := Lib.hid (knows_in (f := e) (n := e + 2) (e := e + 1) e0 (by omega) (by omega) (by omega) (by omega))
          have Ft0 := f0; have Ft1 := f1; clear f0 f1
          go_wp2_with fail
          refine (ep_at F e 0 _ SV.out SE.out).mono ?_
          rintro e w1 ⟨rfl, hb1⟩
          have Ft0 := keepF hb1 (t0) (Ft0)
          have t0 := keep1 hb1 (t0)
          have Ft1 := keepF hb1 (t1) (Ft1)
          have t1 := keep1 hb1 (t1)
          have BB := bstep BB hb1
          clear hca hda hcb hdb
          go_wp2_with fail
          refine (kn_at x y e true _ K1.out).mono ?_
          rintro e w2 ⟨rfl, hb2⟩
          have Ft0 := keepF hb2 (t0) (Ft0)
          have t0 := keep1 hb2 (t0)
          have Ft1 := keepF hb2 (t1) (Ft1)
          have t1 := keep1 hb2 (t1)
          have BB := bstep BB hb2
          go_wp2_with fail
          have kt0 := cell_regrown t0
          have kt1 := cell_regrown t1
          refine' wp_region_mixed [0, 1, 2, 3, 4] [] [5] (by kernel_rfl) (by kernel_rfl) _ (fun Z hZ hN => quiet_hole ?hq2) (fun _ => .cells #[] 0) (fun _ _ => undef) (fun i hi => by cases hi) ?ht2
          case hq2 =>
            intro Q9 hQ9
            show wpQuiet _ _ _ _ [_, _, _, _, _] _
            repeat (go_big_quiet_step (first
              | (go_at_call 15; exact rgX hZ fun w' h => root_at (F + da) e (e + 2) _ R1.out R2.out)
              | (go_at_call 17; exact rgX hZ fun w' h => learn_at x y e (e + 2) (F + da) _ _ _ L1.out L2.out)))
            exact wpQuiet_nil hQ9
          rintro π z3 hz3 hπ hπd
          simp only [List.filterMap_cons, List.filterMap_nil, List.getElem?_cons_zero, List.getElem?_cons_succ, putsA, Option.bind_some, Act.put, List.setIfInBounds_toArray, List.set_cons_zero, List.set_cons_succ]
          show wpList _ _ _ [_] _ _
          have Ft0 := keepF hz3 t0 Ft0
          have t0 := keep1 hz3 t0
          have Ft1 := keepF hz3 t1 Ft1
          have t1 := keep1 hz3 t1
          clear kt0 kt1
          have BB := bstep BB hz3
          go_wp2_with fail
          obtain ⟨V3, hV⟩ : ∃ V, V = (z3.setCell ⟨R, 0, none⟩ (.int .i64 (x))).setCell ⟨R, 1, none⟩ (.int .i64 (e + 2)) := ⟨_, rfl⟩
          have hBV : Below w.heap.size w V3 := by rw [hV]; exact (BB.setCell hR' _).setCell hR' _
          have u0 : V3.cell? ⟨R, 0, none⟩ = some (.int .i64 (x)) := by rw [hV]; go_simp
          have u1 : V3.cell? ⟨R, 1, none⟩ = some (.int .i64 (e + 2)) := by rw [hV]; go_simp
          have g0 : V3.frozen? ⟨R, 0, none⟩ = false := by rw [hV]; go_simp
          have g1 : V3.frozen? ⟨R, 1, none⟩ = false := by rw [hV]; go_simp
          rw [← hV]; clear hV t0 t1 Ft0 Ft1 BB
          have t0 := u0; have t1 := u1; have Ft0 := g0; have Ft1 := g1; have BB := hBV; clear u0 u1 g0 g1 hBV
          go_wp2_with fail
          refine (age_at x (e + 2) (F + db) e (e + 2) _ A1.out A2.out).mono ?_
          rintro e w4 ⟨rfl, hb4⟩
          have Ft0 := keepF hb4 (t0) (Ft0)
          have t0 := keep1 hb4 (t0)
          have Ft1 := keepF hb4 (t1) (Ft1)
          have t1 := keep1 hb4 (t1)
          have BB := bstep BB hb4
          go_wp2_with fail
          obtain ⟨V4, hV⟩ : ∃ V, V = (w4.setCell ⟨R, 0, none⟩ (.int .i64 (e))).setCell ⟨R, 1, none⟩ (.int .i64 (e + 2)) := ⟨_, rfl⟩
          have hBV : Below w.heap.size w V4 := by rw [hV]; exact (BB.setCell hR' _).setCell hR' _
          have u0 : V4.cell? ⟨R, 0, none⟩ = some (.int .i64 (e)) := by rw [hV]; go_simp
          have u1 : V4.cell? ⟨R, 1, none⟩ = some (.int .i64 (e + 2)) := by rw [hV]; go_simp
          have g0 : V4.frozen? ⟨R, 0, none⟩ = false := by rw [hV]; go_simp
          have g1 : V4.frozen? ⟨R, 1, none⟩ = false := by rw [hV]; go_simp
          rw [← hV]; clear hV t0 t1 Ft0 Ft1 BB
          have t0 := u0; have t1 := u1; have Ft0 := g0; have Ft1 := g1; have BB := hBV; clear u0 u1 g0 g1 hBV
          go_wp2_with fail
          refine (kn_at e (e + 2) e true _ K2.out).mono ?_
          rintro e w5 ⟨rfl, hb5⟩
          have Ft0 := keepF hb5 (t0) (Ft0)
          have t0 := keep1 hb5 (t0)
          have Ft1 := keepF hb5 (t1) (Ft1)
          have t1 := keep1 hb5 (t1)
          have BB := bstep BB hb5
          go_wp2_with fail
          refine (kn_at e (e + 2) (e + 1) true _ K3.out).mono ?_
          rintro e w6 ⟨rfl, hb6⟩
          have Ft0 := keepF hb6 (t0) (Ft0)
          have t0 := keep1 hb6 (t0)
          have Ft1 := keepF hb6 (t1) (Ft1)
          have t1 := keep1 hb6 (t1)
          have BB := bstep BB hb6
          go_wp2_with fail
          go_roundw
          case rel => refine ⟨k + 1, e + 1, e, e + 2, by omega, by omega, by go_num, by have := HE.out; omega, ?_, by omega, by omega, by omega, by omega, t0, t1, Ft0, Ft1, BB⟩; have := HF.out; first | (rw [this, show 2000 * (e + 1) = 2000 * e + 2000 from by omega]; done) | (congr 1; omega)
          case measure => simp [intOf]; omega
      · have hm' : decide ((k : Int) < (m : Int)) = false := by simp; omega
        have AG : slotN (F) = true ∧ epV (F) = e ∧ epE (F) = 0 := by
          have h := ep_in (q := e) (d := 0) e0 (by omega) (by omega) (by omega)
          rw [← HF.out] at h
          rw [Int.add_zero] at h; exact h
        have AS := Lib.hid AG.1; have AV := Lib.hid AG.2.1; clear AG
        have K1 := Lib.hid (knows_in (f := x) (n := y) (e := e) x0 (by omega) x1 y0 y1)
        have st := age_step (f := x) (n := y) (q := e) (a := F) x0 (by omega) x1 y0 y1 AV.out AS.out
        have A1 := Lib.hid st.1; have A2 := Lib.hid st.2; clear st
        have st := learn_step (f := e) (n := y) (q := e) (a := F + da) e0 (by omega) (Int.le_refl e) y0 y1 HV.out HS.out
        have L1 := Lib.hid st.1; have L2 := Lib.hid st.2; clear st
        have st := root_step (q := e) (a := F + da) HV.out HS.out
        have R1 := Lib.hid st.1; have R2 := Lib.hid st.2; clear st
        have K2 := Lib.hid (knows_in (f := e) (n := e + 2) (e := e) e0 (by omega) (Int.le_refl e) (by omega) (by omega))
        have K3 := Lib.hid (knows_in (f := e) (n := e + 2) (e := e + 1) e0 (by omega) (by omega) (by omega) (by omega))
        have Ft0 := f0; have Ft1 := f1; clear f0 f1
        go_wp2_with fail
        refine (ep_at F e 0 _ SV.out SE.out).mono ?_
        rintro e w1 ⟨rfl, hb1⟩
        have Ft0 := keepF hb1 (t0) (Ft0)
        have t0 := keep1 hb1 (t0)
        have Ft1 := keepF hb1 (t1) (Ft1)
        have t1 := keep1 hb1 (t1)
        have BB := bstep BB hb1
        clear hca hda
        go_wp2_with fail
        refine (kn_at x y e true _ K1.out).mono ?_
        rintro e w2 ⟨rfl, hb2⟩
        have Ft0 := keepF hb2 (t0) (Ft0)
        have t0 := keep1 hb2 (t0)
        have Ft1 := keepF hb2 (t1) (Ft1)
        have t1 := keep1 hb2 (t1)
        have BB := bstep BB hb2
        go_wp2_with fail
        refine (age_at x y (F) e y _ A1.out A2.out).mono ?_
        rintro e w3 ⟨rfl, hb3⟩
        have Ft0 := keepF hb3 (t0) (Ft0)
        have t0 := keep1 hb3 (t0)
        have Ft1 := keepF hb3 (t1) (Ft1)
        have t1 := keep1 hb3 (t1)
        have BB := bstep BB hb3
        go_wp2_with fail
        obtain ⟨V3, hV⟩ : ∃ V, V = (w3.setCell ⟨R, 0, none⟩ (.int .i64 (e))).setCell ⟨R, 1, none⟩ (.int .i64 (y)) := ⟨_, rfl⟩
        have hBV : Below w.heap.size w V3 := by rw [hV]; exact (BB.setCell hR' _).setCell hR' _
        have u0 : V3.cell? ⟨R, 0, none⟩ = some (.int .i64 (e)) := by rw [hV]; go_simp
        have u1 : V3.cell? ⟨R, 1, none⟩ = some (.int .i64 (y)) := by rw [hV]; go_simp
        have g0 : V3.frozen? ⟨R, 0, none⟩ = false := by rw [hV]; go_simp
        have g1 : V3.frozen? ⟨R, 1, none⟩ = false := by rw [hV]; go_simp
        rw [← hV]; clear hV t0 t1 Ft0 Ft1 BB
        have t0 := u0; have t1 := u1; have Ft0 := g0; have Ft1 := g1; have BB := hBV; clear u0 u1 g0 g1 hBV
        go_wp2_with fail
        have kt0 := cell_regrown t0
        have kt1 := cell_regrown t1
        refine' wp_region_mixed [0, 1, 2, 3, 4] [] [5] (by kernel_rfl) (by kernel_rfl) _ (fun Z hZ hN => quiet_hole ?hq3) (fun _ => .cells #[] 0) (fun _ _ => undef) (fun i hi => by cases hi) ?ht3
        case hq3 =>
          intro Q9 hQ9
          show wpQuiet _ _ _ _ [_, _, _, _, _] _
          repeat (go_big_quiet_step (first
            | (go_at_call 15; exact rgX hZ fun w' h => root_at (F + da) e (e + 2) _ R1.out R2.out)
            | (go_at_call 17; exact rgX hZ fun w' h => learn_at e y e (e + 2) (F + da) _ _ _ L1.out L2.out)))
          exact wpQuiet_nil hQ9
        rintro π z4 hz4 hπ hπd
        simp only [List.filterMap_cons, List.filterMap_nil, List.getElem?_cons_zero, List.getElem?_cons_succ, putsA, Option.bind_some, Act.put, List.setIfInBounds_toArray, List.set_cons_zero, List.set_cons_succ]
        show wpList _ _ _ [_] _ _
        have Ft0 := keepF hz4 t0 Ft0
        have t0 := keep1 hz4 t0
        have Ft1 := keepF hz4 t1 Ft1
        have t1 := keep1 hz4 t1
        clear kt0 kt1
        have BB := bstep BB hz4
        go_wp2_with fail
        obtain ⟨V4, hV⟩ : ∃ V, V = (z4.setCell ⟨R, 0, none⟩ (.int .i64 (e))).setCell ⟨R, 1, none⟩ (.int .i64 (e + 2)) := ⟨_, rfl⟩
        have hBV : Below w.heap.size w V4 := by rw [hV]; exact (BB.setCell hR' _).setCell hR' _
        have u0 : V4.cell? ⟨R, 0, none⟩ = some (.int .i64 (e)) := by rw [hV]; go_simp
        have u1 : V4.cell? ⟨R, 1, none⟩ = some (.int .i64 (e + 2)) := by rw [hV]; go_simp
        have g0 : V4.frozen? ⟨R, 0, none⟩ = false := by rw [hV]; go_simp
        have g1 : V4.frozen? ⟨R, 1, none⟩ = false := by rw [hV]; go_simp
        rw [← hV]; clear hV t0 t1 Ft0 Ft1 BB
        have t0 := u0; have t1 := u1; have Ft0 := g0; have Ft1 := g1; have BB := hBV; clear u0 u1 g0 g1 hBV
        go_wp2_with fail
        refine (kn_at e (e + 2) e true _ K2.out).mono ?_
        rintro e w5 ⟨rfl, hb5⟩
        have Ft0 := keepF hb5 (t0) (Ft0)
        have t0 := keep1 hb5 (t0)
        have Ft1 := keepF hb5 (t1) (Ft1)
        have t1 := keep1 hb5 (t1)
        have BB := bstep BB hb5
        go_wp2_with fail
        refine (kn_at e (e + 2) (e + 1) true _ K3.out).mono ?_
        rintro e w6 ⟨rfl, hb6⟩
        have Ft0 := keepF hb6 (t0) (Ft0)
        have t0 := keep1 hb6 (t0)
        have Ft1 := keepF hb6 (t1) (Ft1)
        have t1 := keep1 hb6 (t1)
        have BB := bstep BB hb6
        go_wp2_with fail
        go_roundw
        case rel => refine ⟨k + 1, e + 1, e, e + 2, by omega, by omega, by go_num, by have := HE.out; omega, ?_, by omega, by omega, by omega, by omega, t0, t1, Ft0, Ft1, BB⟩; have := HF.out; first | (rw [this, show 2000 * (e + 1) = 2000 * e + 2000 from by omega]; done) | (congr 1; omega)
        case measure => simp [intOf]; omega
    · have hlt' : decide ((k : Int) < (n : Int)) = true → decide ((k : Int) < 30) = false := by simp; omega
      by_cases h1 : k < n
      · have h2 : k = 30 := by omega
        subst h2
        have h1' : (30 : Int) < (n : Int) := by omega
        clear hlt'
        go_wp2_with fail
        go_ret
        exact ⟨rfl, BB⟩
      · have h2 : k = n := by omega
        subst h2
        clear hlt'
        go_wp2_with fail
        go_ret
        exact ⟨rfl, BB⟩
end Go.Proofs.Ytckcijoadbbdaaa
