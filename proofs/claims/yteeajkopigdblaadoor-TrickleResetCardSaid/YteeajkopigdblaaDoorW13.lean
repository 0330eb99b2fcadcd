/- Proved: that the law TrickleGrowth returns true for every input. Conditions: the table of steps holds its numbers; the list lies in memory. -/
import Derived.Test.YteeajkopigdblaaDoorW12
import Derived.Deep.RegionHeld3
import Derived.Deep.DrawnRows
namespace Go.Proofs.YteeajkopigdblaaDoor
open Go.RowKit Go.Sort Go.BigFrame Go.Proofs.YteeajkopigdblaaDoor.K
set_option linter.unusedVariables false
set_option linter.unusedSimpArgs false
attribute [local go_sem] cell_alloc_old
attribute [local go_sem ↓] Go.wp_at_zero Go.wp_at_succ

/-- A block whose cells may be written. -/
def Fz (w : World) (k : Nat) : Prop := (∀ j, w.frozen? ⟨k, j, none⟩ = false) ∧ k < w.heap.size
theorem Fz.keep {w w' : World} {k : Nat} (h : Fz w k) (hb : Below w.heap.size w w') : Fz w' k := ⟨fun j => (hb.frozen (p := ⟨k, j, none⟩) h.2).trans (h.1 j), Nat.lt_of_lt_of_le h.2 hb.size⟩
theorem Fz.alloc {w : World} {k : Nat} (h : Fz w k) (o : Obj) : Fz (w.alloc o) k := h.keep (Below.alloc (Below.refl _ w) (Nat.le_refl _) o)
theorem Fz.drewN {w : World} {k : Nat} (h : Fz w k) (n : Nat) : Fz (w.drewN n) k := h
theorem Fz.new (w : World) (vs : Array Value) (ty : TypeId) : Fz (w.alloc (.cells vs ty)) w.heap.size := ⟨fun j => (frozen?_alloc_cells _ _ _ _).trans (frz_new (Nat.le_refl _)), by simp⟩
theorem Fz.set5 {w : World} {k : Nat} (h : Fz w k) (k8 : Nat) (i b f c s : Int) : Fz (((((w.setCell ⟨k8, 0, none⟩ (.int .i64 i)).setCell ⟨k8, 1, none⟩ (.int .i64 b)).setCell ⟨k8, 2, none⟩ (.int .i64 f)).setCell ⟨k8, 3, none⟩ (.int .i64 c)).setCell ⟨k8, 4, none⟩ (.int .i64 s)) k :=
  ⟨fun j => by simp only [World.frozen?_setCell]; exact h.1 j, by simpa using h.2⟩
theorem size5 (w : World) : (Go.sizeOf 5).run Tryd.prog w = .ok 1 w := by kernel_rfl
def dropA (a : Option Addr) (cap M : Nat) : Option Addr := if cap = M then a else a.map (·.add M)
theorem slice_run (a : Option Addr) (Ln cap M : Nat) (h : M ≤ Ln) (w : World) : (Instr.slice 24 (.slice a Ln cap) (some (.int .i64 (M : Int))) none none).run Tryd.prog w = .ok (.slice (dropA a cap M) (Ln - M) (cap - M)) w := by
  have ht : Tryd.prog.underlying 24 = some (.slice (Tryd.prog.elem 24)) := by simp [Program.elem, Tryd.underlying24]
  have he : Tryd.prog.elem 24 = 5 := by simp [Program.elem, Tryd.underlying24]
  rw [run_slice_l w 24 _ _ _ ht .i64 _ (by omega) (by omega), he, size5]
  unfold dropA
  simp [Result.andThen, sliced]
theorem drop_ints {w : World} {a : Option Addr} {cap M : Nat} {hs : List Int} (h : IntsAt .u8 w a hs) (hc : hs.length ≤ cap) : IntsAt .u8 w (dropA a cap M) (hs.drop M) := by
  rcases Nat.lt_or_ge M hs.length with hM | hM
  · rcases h with h | ⟨b, off, rfl, h⟩
    · rw [h] at hM; cases hM
    · refine .inr ⟨b, off + M, ?_, fun j hj => ?_⟩
      · unfold dropA; rw [if_neg (by omega)]
        simp [Addr.add]
      · rw [List.length_drop] at hj
        have := h (M + j) (by omega)
        rw [Nat.add_assoc, this]; simp [List.getD_eq_getElem?_getD]
  · left; simp [hM]
theorem heard_drop (hs : List Int) (k : Nat) : heardAt (hs.drop (min k hs.length)) 0 = heardAt hs k := by
  unfold heardAt
  by_cases h : k < hs.length
  · rw [if_pos h, if_pos (by rw [List.length_drop]; omega), Nat.min_eq_left (Nat.le_of_lt h)]
    simp [List.getD_eq_getElem?_getD]
  · rw [if_neg h, if_neg (by rw [List.length_drop]; omega)]
theorem run_one (t : Tk) (n : Int) (hs : List Int) (k : Nat) : runT (runT t n hs k) (n + k) (hs.drop (min k hs.length)) 1 = runT t n hs (k + 1) := by
  show tickT (hearsV (runT t n hs k) (heardAt (hs.drop (min k hs.length)) 0)) (n + k + ((0 : Nat) : Int)) = tickT (hearsV (runT t n hs k) (heardAt hs k)) (n + k)
  rw [heard_drop]; simp
theorem wf_drop {hs : List Int} {M : Nat} (h : ∀ z ∈ hs, (Lit.int .u8 z).wf = true) : ∀ z ∈ hs.drop M, (Lit.int .u8 z).wf = true := fun z hz => h z (List.mem_of_mem_drop hz)

set_option maxRecDepth 100000 in
set_option maxHeartbeats 2000000 in
theorem lawGrowth (t : Tk) (n : Int) (a : Option Addr) (cap : Nat) (hs : List Int) (w : World) (hT : Tab w) (hl : IntsAt .u8 w a hs) (hlc : hs.length ≤ cap) (hcm : cap ≤ maxLen) (hw : ∀ z ∈ hs, (Lit.int .u8 z).wf = true) : Calls Tryd.prog 6 #[t.v, .int .i64 n, .slice a hs.length cap] w (Fine w) := by
  have hlm := Nat.le_trans hlc hcm
  obtain ⟨Ln, hLn⟩ : ∃ Ln, hs.length = Ln := ⟨_, rfl⟩
  have HLN := Lib.hid hLn; have HLM := Lib.hid hlm; have HW := Lib.hid hw; have HLC := Lib.hid hlc
  rw [hLn]
  have ln1 : (Ln : Int) ≤ 9223372036854775807 := by rw [hLn] at hlm; unfold maxLen at hlm; omega
  clear hLn hlm hw hlc hcm
  cases hv : usableB t n
  · have HV := Lib.hid hv; clear hv
    go_enter Tryd.func6, Tryd.ntmps6
    go_wp2_with fail
    have Tt := TkAt.new w t 23
    have BB : Below w.heap.size w (w.alloc (.cells #[.int .i64 t.i, .int .i64 t.b, .int .i64 t.f, .int .i64 t.c, .int .i64 t.s] 23)) := ball (Below.refl _ _) _
    obtain ⟨V1, hV1⟩ : ∃ V1, w.alloc (.cells #[.int .i64 t.i, .int .i64 t.b, .int .i64 t.f, .int .i64 t.c, .int .i64 t.s] 23) = V1 := ⟨_, rfl⟩
    rw [hV1] at Tt BB  ⊢
    clear hV1
    refine (head_any _ (hT.keep BB)).mono ?_
    rintro e w2 ⟨rfl, b2⟩
    have Tt := Tt.keep b2
    replace BB := bstep BB b2
    clear b2
    obtain ⟨t0, t1, t2, t3, t4⟩ := id Tt
    go_wp2_with fail
    refine (usable_at t n false _ HV.out).mono ?_
    clear t0 t1 t2 t3 t4
    rintro e w3 ⟨rfl, b3⟩
    have Tt := Tt.keep b3
    replace BB := bstep BB b3
    clear b3
    obtain ⟨t0, t1, t2, t3, t4⟩ := id Tt
    go_wp2_with fail
    go_ret
    exact ⟨rfl, BB⟩
  have HG := Lib.hid (fun k hk => grow_of hv hs k hk)
  have HI := Lib.hid (fun k hk => run_inv hv hs k hk)
  obtain ⟨hV, hnb, _, hn⟩ := usable_iff.1 hv
  have hb0 := hV.b0
  have n0 : 0 ≤ n := by omega
  have HV := Lib.hid hv
  clear hV hv
  go_enter Tryd.func6, Tryd.ntmps6
  go_wp2_with fail
  have TF := Fz.new w #[.int .i64 t.i, .int .i64 t.b, .int .i64 t.f, .int .i64 t.c, .int .i64 t.s] 23
  have Tt := TkAt.new w t 23
  have BB : Below w.heap.size w (w.alloc (.cells #[.int .i64 t.i, .int .i64 t.b, .int .i64 t.f, .int .i64 t.c, .int .i64 t.s] 23)) := ball (Below.refl _ _) _
  obtain ⟨V1, hV1⟩ : ∃ V1, w.alloc (.cells #[.int .i64 t.i, .int .i64 t.b, .int .i64 t.f, .int .i64 t.c, .int .i64 t.s] 23) = V1 := ⟨_, rfl⟩
  rw [hV1] at Tt BB TF ⊢
  clear hV1
  refine (head_any _ (hT.keep BB)).mono ?_
  rintro e w2 ⟨rfl, b2⟩
  have Tt := Tt.keep b2
  have TF := TF.keep b2
  replace BB := bstep BB b2
  clear b2
  obtain ⟨t0, t1, t2, t3, t4⟩ := id Tt
  go_wp2_with fail
  refine (usable_at t n true _ HV.out).mono ?_
  clear t0 t1 t2 t3 t4
  rintro e w3 ⟨rfl, b3⟩
  have Tt := Tt.keep b3
  have TF := TF.keep b3
  replace BB := bstep BB b3
  clear b3
  obtain ⟨t0, t1, t2, t3, t4⟩ := id Tt
  go_wp2_with fail
  go_loopw [7, 9] (fun up i wr => ∃ k : Nat, k ≤ 40 ∧ i = .int .i64 k ∧ up = .bool true ∧ Below w.heap.size w wr ∧ TkAt wr w.heap.size (runT t n hs k) ∧ Fz wr w.heap.size) (fun _ i _ => 40 - (intOf i).toNat)
  case atStart => exact ⟨0, Nat.zero_le _, rfl, rfl, BB, Tt, TF⟩
  case round =>
    clear BB Tt TF
    obtain ⟨k, hk, rfl, rfl, BB, Tt, TF⟩ := hrel
  
    by_cases hlt : k < 40
    · have hlt' : (k : Int) < 40 := by omega
      have hk0 : (0 : Int) ≤ (k : Int) := by omega
      obtain ⟨hVu, hub, hui⟩ := HI.out k (by omega)
      have hG := HG.out k (by omega)
      have hr1 := run_one t n hs k
      rw [HLN.out] at hr1
      obtain ⟨u, hu⟩ : ∃ u, runT t n hs k = u := ⟨_, rfl⟩
      obtain ⟨u2, hu2⟩ : ∃ u2, runT t n hs (k + 1) = u2 := ⟨_, rfl⟩
      rw [hu, hu2] at hG hr1
      rw [hu] at hVu hub hui Tt
      obtain ⟨M, hM⟩ : ∃ M : Nat, min k Ln = M := ⟨_, rfl⟩
      rw [hM] at hr1
      have hmin : min (k : Int) (Ln : Int) = (M : Int) := by omega
      have hML : M ≤ Ln := by omega
      have hM0 : (0 : Int) ≤ (M : Int) := by omega
      have hM1 : (M : Int) ≤ (Ln : Int) := by omega
      have hsl := slice_run a Ln cap M hML
      have hd := drop_ints (cap := cap) (M := M) (hl.keep BB) HLC.out
      obtain ⟨aM, haM⟩ : ∃ aM, dropA a cap M = aM := ⟨_, rfl⟩
      rw [haM] at hsl hd
      have hdl : (hs.drop M).length = Ln - M := by rw [List.length_drop, HLN.out]
      obtain ⟨c0, c1, c2, c3, c4⟩ := id Tt
      have HD := Lib.hid hd; have HDL := Lib.hid hdl; have HR1 := Lib.hid hr1; have HGR := Lib.hid hG; have HU2 := Lib.hid hu2
      have hT2 := hT.keep BB
      clear hd hdl hr1 hG haM hM hu hu2
      go_wp2_with fail
      have nb1 : ¬ wr.heap.size = w.heap.size := by have := TF.2; omega
      have nb2 : ¬ w.heap.size = wr.heap.size := by have := TF.2; omega
      have hwr : IntKind.i64.wrap (n + (k : Int)) = n + (k : Int) := IntWalk.i64_in _ (by omega)
      go_region_held3 (fun w' => w'.cell? ⟨w.heap.size, 0, none⟩ = some (.int .i64 u.i) ∧ w'.cell? ⟨w.heap.size, 1, none⟩ = some (.int .i64 u.b) ∧ w'.cell? ⟨w.heap.size, 2, none⟩ = some (.int .i64 u.f) ∧ w'.cell? ⟨w.heap.size, 3, none⟩ = some (.int .i64 u.c) ∧ w'.cell? ⟨w.heap.size, 4, none⟩ = some (.int .i64 u.s))
        (first | go_keep | (go_split_ands; exact ⟨old1 d0 _, old1 d1 _, old1 d2 _, old1 d3 _, old1 d4 _⟩))
        (first
          | (go_at_call 12
             refine (speak_at u u2 (n + k) 1 1 (Ln - M) aM (cap - M) (hs.drop M) _ (hT2.keep (by repeat (first | exact Below.refl _ _ | refine Below.drew ?_ | refine Below.alloc ?_ (by simp <;> omega) _))) (by omega) (by omega) (by decide) (by decide) rfl HR1.out HDL.out (HD.out.keep (by repeat (first | exact Below.refl _ _ | refine Below.drew ?_ | refine Below.alloc ?_ (by simp <;> omega) _))) (Nat.le_trans (by rw [List.length_drop]; exact Nat.sub_le _ _) HLM.out) (wf_drop HW.out)).mono ?_
             rintro e w4 ⟨bk, off, cp, rfl, hlb, bb⟩
             clear hlb
             have TW : TkAt w4 w.heap.size u := by first | exact Tt.drew.keep bb | exact (Tt.drew.alloc _).keep bb | exact (Tt.alloc _).drew.keep bb
             obtain ⟨d0, d1, d2, d3, d4⟩ := id TW
             have FW : Fz w4 w.heap.size := by first | exact Fz.keep (w := wr.drew) TF bb | exact Fz.keep (w := wr.drew.alloc _) (Fz.alloc (w := wr.drew) TF _) bb | exact Fz.keep (w := (wr.alloc _).drew) (TF.alloc _) bb
             have BW : Below w.heap.size w w4 := by first | exact bstep (Below.drew BB) bb | exact bstep (ball (Below.drew BB) _) bb | exact bstep (Below.drew (ball BB _)) bb
             have hsz9 := FW.2
             have TZ : TkAt w4 wr.heap.size ⟨0, 0, 0, 0, 0⟩ := by first | exact (TkAt.new wr.drew ⟨0, 0, 0, 0, 0⟩ 23).keep bb | exact ((TkAt.new wr ⟨0, 0, 0, 0, 0⟩ 23).drew).keep bb
             have FZ : Fz w4 wr.heap.size := by first | exact (Fz.new wr.drew #[.int .i64 0, .int .i64 0, .int .i64 0, .int .i64 0, .int .i64 0] 23).keep bb | exact Fz.keep (w := (wr.alloc (.cells #[.int .i64 0, .int .i64 0, .int .i64 0, .int .i64 0, .int .i64 0] 23)).drew) (Fz.new wr #[.int .i64 0, .int .i64 0, .int .i64 0, .int .i64 0, .int .i64 0] 23) bb
             obtain ⟨y0, y1, y2, y3, y4⟩ := id TZ
             simp only at y0 y1 y2 y3 y4
             have g0 := FZ.1 0; have g1 := FZ.1 1; have g2 := FZ.1 2; have g3 := FZ.1 3; have g4 := FZ.1 4)
          | (go_at_call 12
             refine (speak_at u u2 (n + k) 1 1 (Ln - M) aM (cap - M) (hs.drop M) _ (hT2.keep (by repeat (first | exact Below.refl _ _ | refine Below.drew ?_ | refine Below.alloc ?_ (by simp <;> omega) _))) (by omega) (by omega) (by decide) (by decide) rfl HR1.out HDL.out (HD.out.keep (by repeat (first | exact Below.refl _ _ | refine Below.drew ?_ | refine Below.alloc ?_ (by simp <;> omega) _))) (Nat.le_trans (by rw [List.length_drop]; exact Nat.sub_le _ _) HLM.out) (wf_drop HW.out)).mono ?_
             rintro e w4 ⟨bk, off, cp, rfl, hlb, bb⟩
             clear hlb
             have TW : TkAt w4 w.heap.size u := by first | exact Tt.drew.keep bb | exact (Tt.drew.alloc _).keep bb | exact (Tt.alloc _).drew.keep bb
             obtain ⟨d0, d1, d2, d3, d4⟩ := id TW
             have FW : Fz w4 w.heap.size := by first | exact Fz.keep (w := wr.drew) TF bb | exact Fz.keep (w := wr.drew.alloc _) (Fz.alloc (w := wr.drew) TF _) bb | exact Fz.keep (w := (wr.alloc _).drew) (TF.alloc _) bb
             have BW : Below w.heap.size w w4 := by first | exact bstep (Below.drew BB) bb | exact bstep (ball (Below.drew BB) _) bb | exact bstep (Below.drew (ball BB _)) bb
             have hsz9 := FW.2))
      · have T3 := TW.alloc (.cells #[.int .i64 u2.i, .int .i64 u2.b, .int .i64 u2.f, .int .i64 u2.c, .int .i64 u2.s] 23)
        have F3 := FW.alloc (.cells #[.int .i64 u2.i, .int .i64 u2.b, .int .i64 u2.f, .int .i64 u2.c, .int .i64 u2.s] 23)
        have T11 := TkAt.new w4 u2 23
        have BZ := ball BW (.cells #[.int .i64 u2.i, .int .i64 u2.b, .int .i64 u2.f, .int .i64 u2.c, .int .i64 u2.s] 23)
        have hne : ¬ w4.heap.size = w.heap.size := by have := FW.2; omega
        obtain ⟨Z, hZ⟩ : ∃ Z, w4.alloc (.cells #[.int .i64 u2.i, .int .i64 u2.b, .int .i64 u2.f, .int .i64 u2.c, .int .i64 u2.s] 23) = Z := ⟨_, rfl⟩
        obtain ⟨k11, hk11⟩ : ∃ k11, w4.heap.size = k11 := ⟨_, rfl⟩
        rw [hZ] at T3 F3 T11 BZ ⊢
        rw [hk11] at T11 hne ⊢
        clear hZ hk11
        have T11 : TkAt Z k11 u2 := T11
        clear c0 c1 c2 c3 c4 d0 d1 d2 d3 d4 TW FW BW hsz9 bb Tt TF hwr hsl nb1 nb2
        have hG := HGR.out
        simp only [growB, Bool.and_eq_true, Bool.or_eq_true, decide_eq_true_eq] at hG
        obtain ⟨⟨gi, gb⟩, gk⟩ := hG
        obtain ⟨c0, c1, c2, c3, c4⟩ := id T3
        obtain ⟨x0, x1, x2, x3, x4⟩ := id T11
        have f0 := F3.1 0; have f1 := F3.1 1; have f2 := F3.1 2; have f3 := F3.1 3; have f4 := F3.1 4
        have ub0 := hVu.b0; have ub1 := hVu.b1
        have ui0 : 1 ≤ u.i := by have := hVu.len; omega
        have ui1 : u.i ≤ 8 := by have := hVu.len; omega
        have hne2 : ¬ w.heap.size = k11 := fun h => hne h.symm
        have T3' := Lib.hid (T3.setAll u2.i u2.b u2.f u2.c u2.s)
        have BZ' := Lib.hid (below_set5 BZ (k := w.heap.size) (Nat.le_refl _) u2.i u2.b u2.f u2.c u2.s)
        have F3' := Lib.hid (F3.set5 w.heap.size u2.i u2.b u2.f u2.c u2.s)
        have GB := Lib.hid gb; have GK := Lib.hid gk; have HV9 := Lib.hid hVu
        clear gb gk hVu T3 F3 BZ T11
        by_cases hb : u2.b = u.b
        · have hbb : (u2.b == u.b) = true := by simpa using hb
          have HB := Lib.hid hb; clear hb
          by_cases h7 : k < 7
          · have h7' : (k : Int) < 7 := by omega
            go_wp2_with fail
            go_roundw
            case rel => exact ⟨k + 1, by omega, by go_num, rfl, BZ'.out, by rw [HU2.out]; exact T3'.out, F3'.out⟩
            case measure => simp [intOf]; omega
          · have h7' : ¬ (k : Int) < 7 := by omega
            have h8 : (u2.i == 8) = true := by have := GK.out; simp; omega
            go_wp2_with fail
            go_roundw
            case rel => exact ⟨k + 1, by omega, by go_num, rfl, BZ'.out, by rw [HU2.out]; exact T3'.out, F3'.out⟩
            case measure => simp [intOf]; omega
        · have hbb : (u2.b == u.b) = false := by simpa using hb
          have hb2 : (u2.b == u.b + u.i) = true := by have := GB.out; simp; omega
          have hb3 : (u2.b == n + (k : Int)) = true := by have := GB.out; simp; omega
          clear hb
          by_cases h7 : k < 7
          · have h7' : (k : Int) < 7 := by omega
            go_wp2_with fail
            go_roundw
            case rel => exact ⟨k + 1, by omega, by go_num, rfl, BZ'.out, by rw [HU2.out]; exact T3'.out, F3'.out⟩
            case measure => simp [intOf]; omega
          · have h7' : ¬ (k : Int) < 7 := by omega
            have h8 : (u2.i == 8) = true := by have := GK.out; simp; omega
            go_wp2_with fail
            go_roundw
            case rel => exact ⟨k + 1, by omega, by go_num, rfl, BZ'.out, by rw [HU2.out]; exact T3'.out, F3'.out⟩
            case measure => simp [intOf]; omega
      · have T3 := TW.other5 (k8 := wr.heap.size) nb1 u2.i u2.b u2.f u2.c u2.s
        have F3 := FW.set5 wr.heap.size u2.i u2.b u2.f u2.c u2.s
        have T11 := TZ.setAll u2.i u2.b u2.f u2.c u2.s
        have BZ := below_set5 BW (k := wr.heap.size) BB.size u2.i u2.b u2.f u2.c u2.s
        have hne := nb1
        obtain ⟨Z, hZ⟩ : ∃ Z, ((((w4.setCell ⟨wr.heap.size, 0, none⟩ (.int .i64 u2.i)).setCell ⟨wr.heap.size, 1, none⟩ (.int .i64 u2.b)).setCell ⟨wr.heap.size, 2, none⟩ (.int .i64 u2.f)).setCell ⟨wr.heap.size, 3, none⟩ (.int .i64 u2.c)).setCell ⟨wr.heap.size, 4, none⟩ (.int .i64 u2.s) = Z := ⟨_, rfl⟩
        obtain ⟨k11, hk11⟩ : ∃ k11, wr.heap.size = k11 := ⟨_, rfl⟩
        rw [hZ] at T3 F3 T11 BZ ⊢
        rw [hk11] at T11 hne ⊢
        clear hZ hk11 y0 y1 y2 y3 y4 g0 g1 g2 g3 g4 TZ FZ
        have T11 : TkAt Z k11 u2 := T11
        clear c0 c1 c2 c3 c4 d0 d1 d2 d3 d4 TW FW BW hsz9 bb Tt TF hwr hsl nb1 nb2
        have hG := HGR.out
        simp only [growB, Bool.and_eq_true, Bool.or_eq_true, decide_eq_true_eq] at hG
        obtain ⟨⟨gi, gb⟩, gk⟩ := hG
        obtain ⟨c0, c1, c2, c3, c4⟩ := id T3
        obtain ⟨x0, x1, x2, x3, x4⟩ := id T11
        have f0 := F3.1 0; have f1 := F3.1 1; have f2 := F3.1 2; have f3 := F3.1 3; have f4 := F3.1 4
        have ub0 := hVu.b0; have ub1 := hVu.b1
        have ui0 : 1 ≤ u.i := by have := hVu.len; omega
        have ui1 : u.i ≤ 8 := by have := hVu.len; omega
        have hne2 : ¬ w.heap.size = k11 := fun h => hne h.symm
        have T3' := Lib.hid (T3.setAll u2.i u2.b u2.f u2.c u2.s)
        have BZ' := Lib.hid (below_set5 BZ (k := w.heap.size) (Nat.le_refl _) u2.i u2.b u2.f u2.c u2.s)
        have F3' := Lib.hid (F3.set5 w.heap.size u2.i u2.b u2.f u2.c u2.s)
        have GB := Lib.hid gb; have GK := Lib.hid gk; have HV9 := Lib.hid hVu
        clear gb gk hVu T3 F3 BZ T11
        by_cases hb : u2.b = u.b
        · have hbb : (u2.b == u.b) = true := by simpa using hb
          have HB := Lib.hid hb; clear hb
          by_cases h7 : k < 7
          · have h7' : (k : Int) < 7 := by omega
            go_wp2_with fail
            go_roundw
            case rel => exact ⟨k + 1, by omega, by go_num, rfl, BZ'.out, by rw [HU2.out]; exact T3'.out, F3'.out⟩
            case measure => simp [intOf]; omega
          · have h7' : ¬ (k : Int) < 7 := by omega
            have h8 : (u2.i == 8) = true := by have := GK.out; simp; omega
            go_wp2_with fail
            go_roundw
            case rel => exact ⟨k + 1, by omega, by go_num, rfl, BZ'.out, by rw [HU2.out]; exact T3'.out, F3'.out⟩
            case measure => simp [intOf]; omega
        · have hbb : (u2.b == u.b) = false := by simpa using hb
          have hb2 : (u2.b == u.b + u.i) = true := by have := GB.out; simp; omega
          have hb3 : (u2.b == n + (k : Int)) = true := by have := GB.out; simp; omega
          clear hb
          by_cases h7 : k < 7
          · have h7' : (k : Int) < 7 := by omega
            go_wp2_with fail
            go_roundw
            case rel => exact ⟨k + 1, by omega, by go_num, rfl, BZ'.out, by rw [HU2.out]; exact T3'.out, F3'.out⟩
            case measure => simp [intOf]; omega
          · have h7' : ¬ (k : Int) < 7 := by omega
            have h8 : (u2.i == 8) = true := by have := GK.out; simp; omega
            go_wp2_with fail
            go_roundw
            case rel => exact ⟨k + 1, by omega, by go_num, rfl, BZ'.out, by rw [HU2.out]; exact T3'.out, F3'.out⟩
            case measure => simp [intOf]; omega
      · have T3 := TW.other5 (k8 := wr.heap.size) nb1 u2.i u2.b u2.f u2.c u2.s
        have F3 := FW.set5 wr.heap.size u2.i u2.b u2.f u2.c u2.s
        have T11 := TZ.setAll u2.i u2.b u2.f u2.c u2.s
        have BZ := below_set5 BW (k := wr.heap.size) BB.size u2.i u2.b u2.f u2.c u2.s
        have hne := nb1
        obtain ⟨Z, hZ⟩ : ∃ Z, ((((w4.setCell ⟨wr.heap.size, 0, none⟩ (.int .i64 u2.i)).setCell ⟨wr.heap.size, 1, none⟩ (.int .i64 u2.b)).setCell ⟨wr.heap.size, 2, none⟩ (.int .i64 u2.f)).setCell ⟨wr.heap.size, 3, none⟩ (.int .i64 u2.c)).setCell ⟨wr.heap.size, 4, none⟩ (.int .i64 u2.s) = Z := ⟨_, rfl⟩
        obtain ⟨k11, hk11⟩ : ∃ k11, wr.heap.size = k11 := ⟨_, rfl⟩
        rw [hZ] at T3 F3 T11 BZ ⊢
        rw [hk11] at T11 hne ⊢
        clear hZ hk11 y0 y1 y2 y3 y4 g0 g1 g2 g3 g4 TZ FZ
        have T11 : TkAt Z k11 u2 := T11
        clear c0 c1 c2 c3 c4 d0 d1 d2 d3 d4 TW FW BW hsz9 bb Tt TF hwr hsl nb1 nb2
        have hG := HGR.out
        simp only [growB, Bool.and_eq_true, Bool.or_eq_true, decide_eq_true_eq] at hG
        obtain ⟨⟨gi, gb⟩, gk⟩ := hG
        obtain ⟨c0, c1, c2, c3, c4⟩ := id T3
        obtain ⟨x0, x1, x2, x3, x4⟩ := id T11
        have f0 := F3.1 0; have f1 := F3.1 1; have f2 := F3.1 2; have f3 := F3.1 3; have f4 := F3.1 4
        have ub0 := hVu.b0; have ub1 := hVu.b1
        have ui0 : 1 ≤ u.i := by have := hVu.len; omega
        have ui1 : u.i ≤ 8 := by have := hVu.len; omega
        have hne2 : ¬ w.heap.size = k11 := fun h => hne h.symm
        have T3' := Lib.hid (T3.setAll u2.i u2.b u2.f u2.c u2.s)
        have BZ' := Lib.hid (below_set5 BZ (k := w.heap.size) (Nat.le_refl _) u2.i u2.b u2.f u2.c u2.s)
        have F3' := Lib.hid (F3.set5 w.heap.size u2.i u2.b u2.f u2.c u2.s)
        have GB := Lib.hid gb; have GK := Lib.hid gk; have HV9 := Lib.hid hVu
        clear gb gk hVu T3 F3 BZ T11
        by_cases hb : u2.b = u.b
        · have hbb : (u2.b == u.b) = true := by simpa using hb
          have HB := Lib.hid hb; clear hb
          by_cases h7 : k < 7
          · have h7' : (k : Int) < 7 := by omega
            go_wp2_with fail
            go_roundw
            case rel => exact ⟨k + 1, by omega, by go_num, rfl, BZ'.out, by rw [HU2.out]; exact T3'.out, F3'.out⟩
            case measure => simp [intOf]; omega
          · have h7' : ¬ (k : Int) < 7 := by omega
            have h8 : (u2.i == 8) = true := by have := GK.out; simp; omega
            go_wp2_with fail
            go_roundw
            case rel => exact ⟨k + 1, by omega, by go_num, rfl, BZ'.out, by rw [HU2.out]; exact T3'.out, F3'.out⟩
            case measure => simp [intOf]; omega
        · have hbb : (u2.b == u.b) = false := by simpa using hb
          have hb2 : (u2.b == u.b + u.i) = true := by have := GB.out; simp; omega
          have hb3 : (u2.b == n + (k : Int)) = true := by have := GB.out; simp; omega
          clear hb
          by_cases h7 : k < 7
          · have h7' : (k : Int) < 7 := by omega
            go_wp2_with fail
            go_roundw
            case rel => exact ⟨k + 1, by omega, by go_num, rfl, BZ'.out, by rw [HU2.out]; exact T3'.out, F3'.out⟩
            case measure => simp [intOf]; omega
          · have h7' : ¬ (k : Int) < 7 := by omega
            have h8 : (u2.i == 8) = true := by have := GK.out; simp; omega
            go_wp2_with fail
            go_roundw
            case rel => exact ⟨k + 1, by omega, by go_num, rfl, BZ'.out, by rw [HU2.out]; exact T3'.out, F3'.out⟩
            case measure => simp [intOf]; omega
    · have hk40 : k = 40 := by omega
      subst hk40
      go_wp2_with fail
      go_ret
      exact ⟨rfl, BB⟩
end Go.Proofs.YteeajkopigdblaaDoor
