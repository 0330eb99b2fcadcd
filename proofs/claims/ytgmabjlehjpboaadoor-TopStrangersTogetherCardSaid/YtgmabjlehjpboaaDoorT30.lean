/- Proved: that nobody is welcomed by words without the own key. Conditions: the arguments lie in memory; the table of steps lies where it lay. -/
import Derived.Test.YtgmabjlehjpboaaDoorT29
namespace Go.Proofs.YtgmabjlehjpboaaDoor
open Go.RowKit Go.Sort Go.BigFrame Go.Proofs.YtgmabjlehjpboaaDoor.K
set_option linter.unusedVariables false
set_option linter.unusedSimpArgs false
attribute [local go_sem] cell_alloc_old

open Go.Maps Go.Shelf
theorem OkL.expire {l : List Hf} (h : OkL l) (fr : Int) : OkL (expireV l fr) := ⟨Nat.le_trans (List.length_filter_le _ _) h.len, fun x hx => h.ok x (List.mem_filter.1 hx).1, h.srt.filter _⟩
/-- No proof has the own key. -/
def Imp (L : List Hf) : Prop := ∀ h ∈ L, h.pr = true → h.k ≠ 1000000 + h.s
theorem Imp.nil : Imp [] := fun _ h => by simp at h
theorem Imp.expire {L : List Hf} (h : Imp L) (fr : Int) : Imp (expireV L fr) := fun x hx => h x (List.mem_filter.1 hx).1
theorem Imp.welc {L : List Hf} (h : Imp L) (me ra rb : Int) : welcF (toldV L me 3 true) ra rb = [] := by
  unfold welcF
  rw [List.map_eq_nil_iff, List.filter_eq_nil_iff]
  intro y hy
  unfold toldV at hy
  split at hy
  · obtain ⟨g, hg, rfl⟩ := List.mem_map.1 hy
    obtain ⟨h1, h2⟩ := List.mem_filter.1 hg
    have := h g h1 (by simpa using h2)
    unfold judgeE wordOf
    simp only
    split
    · split
      · decide
      · split
        · decide
        · split
          · decide
          · rw [if_neg (by decide), if_pos (by simpa using this)]; decide
    · decide
  · simp at hy
/-- The word as it comes to the sponsor. -/
def impW (x : Wd) : Wd := if (x.key == IntKind.i64.wrap (1000000 + x.s)) = true then ⟨x.k, x.s, x.p, x.n, x.c, 0, x.f, x.x⟩ else x
theorem impW_s (x : Wd) : (impW x).s = x.s := by unfold impW; split <;> rfl
theorem impW_key {x : Wd} (h : nodeB (impW x).s = true) : (impW x).key ≠ 1000000 + (impW x).s := by
  rw [impW_s] at h ⊢
  have h' : 0 ≤ x.s ∧ x.s < 60 := by simpa [nodeB] using h
  have hw : IntKind.i64.wrap (1000000 + x.s) = 1000000 + x.s := IntWalk.i64_in _ (by omega)
  unfold impW
  rw [hw]
  split
  · simp only; omega
  · rename_i he
    simpa using he
theorem Imp.hear {L M : List Hf} {x : Wd} {fr : Int} (h : Imp L) (hk : HearOk L (impW x) fr M) : Imp M := by
  obtain ⟨ok, rfl | ⟨c, rfl⟩ | ⟨g, _, rfl⟩⟩ := hk
  · exact h
  · intro y hy hp
    rcases mem_put.1 hy with rfl | ⟨h1, _⟩
    · cases hp
    · exact h y h1 hp
  · intro y hy hp
    rcases mem_put.1 hy with rfl | ⟨h1, _⟩
    · exact impW_key (ok.ok _ (mem_put.2 (.inl rfl))).s
    · exact h y h1 hp
theorem IntsAt.at {k : IntKind} {w wr : World} {a : Option Addr} {zs : List Int} (h : IntsAt k w a zs) (hb : Below w.heap.size w wr) {i : Nat} (hi : i < zs.length) : ∃ b off, a = some ⟨b, off, none⟩ ∧ wr.cell? ⟨b, off + i, none⟩ = some (.int k (zs.getD i 0)) := by
  rcases h.keep hb with rfl | ⟨b, off, ha, h⟩
  · simp at hi
  · exact ⟨b, off, ha, h i hi⟩
theorem mod6 (z : Int) (h0 : 0 ≤ z) : 0 ≤ z.tmod 6 ∧ z.tmod 6 ≤ 5 := by rw [Int.tmod_eq_emod_of_nonneg h0]; omega
theorem u8_bd {zs : List Int} (hwf : ∀ z ∈ zs, (Lit.int .u8 z).wf = true) {i : Nat} (hi : i < zs.length) : 0 ≤ zs.getD i 0 ∧ zs.getD i 0 ≤ 255 := by
  have h := wf_bd (wf_at hwf hi)
  have e1 : IntKind.u8.min = 0 := by decide
  have e2 : IntKind.u8.max = 255 := by decide
  rw [e1, e2] at h; exact h
set_option maxRecDepth 100000 in
set_option maxHeartbeats 4000000 in
theorem imp_a (me ra rb : Int) (W : List Wd) (m cw : Nat) (aw : Option Addr) (zs : List Int) (ns cs : Nat) (sa : Option Addr) (w : World) (hTab : Tab w) (hm : Hid (m = W.length)) (hw : WsAt w aw W) (hs : Hid (ns = zs.length)) (hz : IntsAt .u8 w sa zs) (hwf : ∀ z ∈ zs, (Lit.int .u8 z).wf = true) (hns : ns ≤ maxLen) (hmm : m ≤ maxLen) (hg : 60 < m) :
    Calls Tryd.prog 4 #[.int .i64 me, .slice aw m cw, .slice sa ns cs, .agg #[.int .i64 ra, .int .i64 rb]] w (Ans (.bool true) w) := by
  have hmx : maxLen = 9223372036854775807 := rfl
  have HWF := Lib.hid hwf; clear hwf
  go_enter Tryd.func4, Tryd.ntmps4
  go_upto_region 1 with (fail)
  have Tr := CAt.new (w) [.int .i64 ra, .int .i64 rb] 35
  have BB : Below w.heap.size w ((w).alloc (.cells #[.int .i64 ra, .int .i64 rb] 35)) := ball (Below.refl _ _) _
  obtain ⟨V1, hV1⟩ : ∃ V1, w.alloc (.cells #[.int .i64 ra, .int .i64 rb] 35) = V1 := ⟨_, rfl⟩
  rw [hV1] at BB Tr ⊢
  clear hV1
  go_wp2_with fail
  refine (head_any V1 (hTab.keep BB)).mono ?_
  rintro e w2 ⟨rfl, b2⟩
  replace Tr := Tr.keep b2
  replace BB := bstep BB b2
  clear b2
  have hg2 : (60 : Int) < (m : Int) := by omega
  go_wp2_with fail
  go_ret
  exact ⟨rfl, BB⟩
set_option maxRecDepth 100000 in
set_option maxHeartbeats 4000000 in
theorem imp_b (me ra rb : Int) (W : List Wd) (m cw : Nat) (aw : Option Addr) (zs : List Int) (ns cs : Nat) (sa : Option Addr) (w : World) (hTab : Tab w) (hm : Hid (m = W.length)) (hw : WsAt w aw W) (hs : Hid (ns = zs.length)) (hz : IntsAt .u8 w sa zs) (hwf : ∀ z ∈ zs, (Lit.int .u8 z).wf = true) (hns : ns ≤ maxLen) (hmm : m ≤ maxLen) (hg : ¬ 60 < m) (hn : ns < m) :
    Calls Tryd.prog 4 #[.int .i64 me, .slice aw m cw, .slice sa ns cs, .agg #[.int .i64 ra, .int .i64 rb]] w (Ans (.bool true) w) := by
  have hmx : maxLen = 9223372036854775807 := rfl
  have HWF := Lib.hid hwf; clear hwf
  go_enter Tryd.func4, Tryd.ntmps4
  go_upto_region 1 with (fail)
  have Tr := CAt.new (w) [.int .i64 ra, .int .i64 rb] 35
  have BB : Below w.heap.size w ((w).alloc (.cells #[.int .i64 ra, .int .i64 rb] 35)) := ball (Below.refl _ _) _
  obtain ⟨V1, hV1⟩ : ∃ V1, w.alloc (.cells #[.int .i64 ra, .int .i64 rb] 35) = V1 := ⟨_, rfl⟩
  rw [hV1] at BB Tr ⊢
  clear hV1
  go_wp2_with fail
  refine (head_any V1 (hTab.keep BB)).mono ?_
  rintro e w2 ⟨rfl, b2⟩
  replace Tr := Tr.keep b2
  replace BB := bstep BB b2
  clear b2
  have hg2 : ¬ (60 : Int) < (m : Int) := by omega
  have hg3 : (ns : Int) < (m : Int) := by omega
  go_wp2_with fail
  go_ret
  exact ⟨rfl, BB⟩
set_option maxRecDepth 100000 in
set_option maxHeartbeats 4000000 in
theorem imp_c (me ra rb : Int) (W : List Wd) (m cw : Nat) (aw : Option Addr) (zs : List Int) (ns cs : Nat) (sa : Option Addr) (w : World) (hTab : Tab w) (hm : Hid (m = W.length)) (hw : WsAt w aw W) (hs : Hid (ns = zs.length)) (hz : IntsAt .u8 w sa zs) (hwf : ∀ z ∈ zs, (Lit.int .u8 z).wf = true) (hns : ns ≤ maxLen) (hmm : m ≤ maxLen) (hg : ¬ 60 < m) (hn : ¬ ns < m) :
    Calls Tryd.prog 4 #[.int .i64 me, .slice aw m cw, .slice sa ns cs, .agg #[.int .i64 ra, .int .i64 rb]] w (Ans (.bool true) w) := by
  have hmx : maxLen = 9223372036854775807 := rfl
  have HWF := Lib.hid hwf; clear hwf
  go_enter Tryd.func4, Tryd.ntmps4
  go_upto_region 1 with (fail)
  have Tr := CAt.new (w) [.int .i64 ra, .int .i64 rb] 35
  have BB : Below w.heap.size w ((w).alloc (.cells #[.int .i64 ra, .int .i64 rb] 35)) := ball (Below.refl _ _) _
  obtain ⟨V1, hV1⟩ : ∃ V1, w.alloc (.cells #[.int .i64 ra, .int .i64 rb] 35) = V1 := ⟨_, rfl⟩
  rw [hV1] at BB Tr ⊢
  clear hV1
  go_wp2_with fail
  refine (head_any V1 (hTab.keep BB)).mono ?_
  rintro e w2 ⟨rfl, b2⟩
  replace Tr := Tr.keep b2
  replace BB := bstep BB b2
  clear b2
  have hg2 : decide ((60 : Int) < (m : Int)) = false := by simp; omega
  have hg3 : decide ((ns : Int) < (m : Int)) = false := by simp; omega
  go_upto_region 7 with (fail)
  go_loopw [10, 11, 30] (fun v fv iv wr => ∃ (i : Nat) (F : Int) (L : List Hf) (a' : Option Addr) (n' c' : Nat), i ≤ m ∧ iv = .int .i64 i ∧ fv = .int .i64 F ∧ 0 ≤ F ∧ F ≤ 5 * i ∧ v = .slice a' n' c' ∧ Hid (n' = L.length) ∧ HsAt wr a' L ∧ Hid (OkL L) ∧ Hid (Imp L) ∧ Below w.heap.size w wr ∧ CAt wr w.heap.size [.int .i64 ra, .int .i64 rb]) (fun _ _ iv _ => m - (intOf iv).toNat)
  case atStart => exact ⟨0, 0, [], none, 0, 0, Nat.zero_le _, rfl, rfl, by omega, by omega, rfl, Lib.hid rfl, HsAt.nil _, Lib.hid OkL.nil, Lib.hid Imp.nil, BB, Tr⟩
  case round =>
    clear BB Tr
    obtain ⟨i, F, L, a', n', c', hi, rfl, rfl, hF0, hF1, rfl, hn', hl, OK, IM, BB, Tr⟩ := hrel
    by_cases hlt : i < m
    · have hlt' : (i : Int) < (m : Int) := by omega
      have hk0 : (0 : Int) ≤ (i : Int) := by omega
      have hwk : IntKind.i64.wrap ((i : Int) + 1) = (i : Int) + 1 := IntWalk.i64_in _ (by omega)
      have hls : (i : Int) < (ns : Int) := by omega
      obtain ⟨b, off, e1, c0, c1', c2, c3, c4, c5, c6, c7⟩ := At.wd hw BB (i := i) (by rw [← hm.out]; exact hlt)
      obtain ⟨sb, soff, e2, d0⟩ := IntsAt.at hz BB (i := i) (by rw [← hs.out]; omega)
      have hzb := u8_bd HWF.out (i := i) (by rw [← hs.out]; omega)
      obtain ⟨z, hz'⟩ : ∃ z, zs.getD i 0 = z := ⟨_, rfl⟩
      rw [hz'] at d0 hzb
      clear hz'
      obtain ⟨x, hx⟩ : ∃ x, W.getD i default = x := ⟨_, rfl⟩
      rw [hx] at c0 c1' c2 c3 c4 c5 c6 c7
      clear hx
      subst e1 e2
      have hmd := mod6 z hzb.1
      obtain ⟨d, hd⟩ : ∃ d, z.tmod 6 = d := ⟨_, rfl⟩
      rw [hd] at hmd
      have hcv : IntKind.i64.wrap z = z := IntWalk.i64_in _ (by omega)
      have hwF : IntKind.i64.wrap (F + d) = F + d := IntWalk.i64_in _ (by omega)
      have hfr : inB (F + d) 999999988 = true := by unfold inB; simp only [decide_eq_true_eq]; omega
      have HFR := Lib.hid hfr; clear hfr
      have hz9 : 0 ≤ z := hzb.1
      have BW : Fr wr wr := Below.refl _ _
      have D0 := Lib.hid d0
      go_upto_region 9 with (fail)
      clear c0 c1' c2 c3 c4 c5 c6 c7 d0
      have bs3 : w.heap.size ≤ wr.heap.size := BB.size
      have lt3r : w.heap.size < wr.heap.size := World.block_lt_of_cell? wr ⟨w.heap.size, 0, none⟩ (Tr 0 _ rfl)
      have Tx := CAt.new (wr) [.int .i64 x.k, .int .i64 x.s, .int .i64 x.p, .int .i64 x.n, .int .i64 x.c, .int .i64 x.key, .int .i64 x.f, .int .i64 x.x] 43
      have Fx := Fz.new (wr) #[.int .i64 x.k, .int .i64 x.s, .int .i64 x.p, .int .i64 x.n, .int .i64 x.c, .int .i64 x.key, .int .i64 x.f, .int .i64 x.x] 43
      replace Tr := Tr.alloc (.cells #[.int .i64 x.k, .int .i64 x.s, .int .i64 x.p, .int .i64 x.n, .int .i64 x.c, .int .i64 x.key, .int .i64 x.f, .int .i64 x.x] 43)
      replace BW := BW.keep (Below.alloc (Below.refl _ (wr)) (Nat.le_refl _) (.cells #[.int .i64 x.k, .int .i64 x.s, .int .i64 x.p, .int .i64 x.n, .int .i64 x.c, .int .i64 x.key, .int .i64 x.f, .int .i64 x.x] 43))
      replace BB := ball BB (.cells #[.int .i64 x.k, .int .i64 x.s, .int .i64 x.p, .int .i64 x.n, .int .i64 x.c, .int .i64 x.key, .int .i64 x.f, .int .i64 x.x] 43)
      obtain ⟨V3, hV3⟩ : ∃ V3, wr.alloc (.cells #[.int .i64 x.k, .int .i64 x.s, .int .i64 x.p, .int .i64 x.n, .int .i64 x.c, .int .i64 x.key, .int .i64 x.f, .int .i64 x.x] 43) = V3 := ⟨_, rfl⟩
      rw [hV3] at BB Tr Tx Fx BW ⊢
      clear hV3
      obtain ⟨k3, hk3⟩ : ∃ k3, wr.heap.size = k3 := ⟨_, rfl⟩
      rw [hk3] at Tx Fx bs3 lt3r ⊢
      have HK3 := Lib.hid hk3; clear hk3
      have x0 := Tx 0 _ rfl
      have fx0 := Fx.1 0
      have x1 := Tx 1 _ rfl
      have fx1 := Fx.1 1
      have x2 := Tx 2 _ rfl
      have fx2 := Fx.1 2
      have x3 := Tx 3 _ rfl
      have fx3 := Fx.1 3
      have x4 := Tx 4 _ rfl
      have fx4 := Fx.1 4
      have x5 := Tx 5 _ rfl
      have fx5 := Fx.1 5
      have x6 := Tx 6 _ rfl
      have fx6 := Fx.1 6
      have x7 := Tx 7 _ rfl
      have fx7 := Fx.1 7
      obtain ⟨y, hy⟩ : ∃ y, impW x = y := ⟨_, rfl⟩
      have HY := Lib.hid hy
      by_cases he : (x.key == IntKind.i64.wrap (1000000 + x.s)) = true
      · have hye : y = ⟨x.k, x.s, x.p, x.n, x.c, 0, x.f, x.x⟩ := by rw [← hy]; unfold impW; rw [if_pos he]
        have he2 : (x.key == wrap64 (1000000 + x.s)) = true := by rw [← IntWalk.i64_left]; exact he
        clear hy he
        clear x0 fx0 x1 fx1 x2 fx2 x3 fx3 x4 fx4 x5 fx5 x6 fx6 x7 fx7
        have x0 := Tx 0 _ rfl
        have fx0 := Fx.1 0
        have x1 := Tx 1 _ rfl
        have fx1 := Fx.1 1
        have x2 := Tx 2 _ rfl
        have fx2 := Fx.1 2
        have x3 := Tx 3 _ rfl
        have fx3 := Fx.1 3
        have x4 := Tx 4 _ rfl
        have fx4 := Fx.1 4
        have x5 := Tx 5 _ rfl
        have fx5 := Fx.1 5
        have x6 := Tx 6 _ rfl
        have fx6 := Fx.1 6
        have x7 := Tx 7 _ rfl
        have fx7 := Fx.1 7
        go_upto_region 11 with (fail)
        clear x0 fx0 x1 fx1 x2 fx2 x3 fx3 x4 fx4 x5 fx5 x6 fx6 x7 fx7
        have BW2 : Fr wr (V3.setCell ⟨k3, 5, none⟩ (.int .i64 0)) := Below.setCell BW (p := ⟨k3, 5, none⟩) (by have := HK3.out; simp only; omega) _
        replace BW := BW2; clear BW2
        replace Tx := Tx.set 5 (.int .i64 0) (by simp)
        replace Tr := Tr.other (k' := k3) (by omega) 5 (.int .i64 0)
        replace Fx := Fx.set ⟨k3, 5, none⟩ (.int .i64 0)
        replace BB := BB.setCell (p := ⟨k3, 5, none⟩) (by first | exact Nat.le_refl _ | (simp only; omega)) (.int .i64 0)
        obtain ⟨V4, hV4⟩ : ∃ V4, V3.setCell ⟨k3, 5, none⟩ (.int .i64 0) = V4 := ⟨_, rfl⟩
        rw [hV4] at BB Tr Tx Fx BW ⊢
        clear hV4
        have d0 := keep1 BW D0.out
        have hlV := hl.keep BW
        have x0 := Tx 0 _ rfl
        have fx0 := Fx.1 0
        have x1 := Tx 1 _ rfl
        have fx1 := Fx.1 1
        have x2 := Tx 2 _ rfl
        have fx2 := Fx.1 2
        have x3 := Tx 3 _ rfl
        have fx3 := Fx.1 3
        have x4 := Tx 4 _ rfl
        have fx4 := Fx.1 4
        have x5 := Tx 5 _ rfl
        have fx5 := Fx.1 5
        have x6 := Tx 6 _ rfl
        have fx6 := Fx.1 6
        have x7 := Tx 7 _ rfl
        have fx7 := Fx.1 7
        go_upto_region 12 with (fail)
        clear x0 fx0 x1 fx1 x2 fx2 x3 fx3 x4 fx4 x5 fx5 x6 fx6 x7 fx7
        clear d0
        go_wp2_with fail
        refine (expire_at L n' a' c' (F + d) V4 hn' (by have := OK.out.len; have := hn'.out; omega) hlV).mono ?_
        rintro e w5 ⟨a5, n5, c5, rfl, hn5, hl5, b5, _⟩
        replace Tx := Tx.keep b5; replace Tr := Tr.keep b5
        replace BB := bstep BB b5
        clear b5 hl hlV D0 BW
        have x0 := Tx 0 _ rfl
        have fx0 := Fx.1 0
        have x1 := Tx 1 _ rfl
        have fx1 := Fx.1 1
        have x2 := Tx 2 _ rfl
        have fx2 := Fx.1 2
        have x3 := Tx 3 _ rfl
        have fx3 := Fx.1 3
        have x4 := Tx 4 _ rfl
        have fx4 := Fx.1 4
        have x5 := Tx 5 _ rfl
        have fx5 := Fx.1 5
        have x6 := Tx 6 _ rfl
        have fx6 := Fx.1 6
        have x7 := Tx 7 _ rfl
        have fx7 := Fx.1 7
        go_wp2_with fail
        clear x0 fx0 x1 fx1 x2 fx2 x3 fx3 x4 fx4 x5 fx5 x6 fx6 x7 fx7
        have OK5 : Hid (OkL (expireV L (F + d))) := Lib.hid (OK.out.expire _)
        have IM5 : Hid (Imp (expireV L (F + d))) := Lib.hid (IM.out.expire _)
        obtain ⟨M, hM⟩ : ∃ M, expireV L (F + d) = M := ⟨_, rfl⟩
        rw [hM] at hn5 hl5 OK5 IM5
        clear hM
        subst hye
        refine (hear_any M n5 a5 c5 me (F + d) w5 ⟨x.k, x.s, x.p, x.n, x.c, 0, x.f, x.x⟩ OK5.out hn5 hl5 HFR.out (hTab.keep BB)).mono ?_
        rintro e w6 (⟨err, herr, rfl, b6⟩ | ⟨M2, a6, n6, c6, hM2, rfl, hn6, hl6, b6, _⟩)
        ·
          replace Tx := Tx.keep b6; replace Tr := Tr.keep b6
          replace BB := bstep BB b6
          have hl6 := hl5.keep b6
          have herr2 : (err == 0) = false := by simpa using herr
          clear b6 hl5
          have r0 := Tr 0 _ rfl
          have r1 := Tr 1 _ rfl
          go_wp2_with fail
          clear r0 r1
          refine (welcomes_at M n5 a5 c5 me ra rb w6 OK5.out hn5 hl6).mono ?_
          rintro e w7 ⟨a7, n7, c7, rfl, hn7, _, b7, _⟩
          have hn7' : n7 = 0 := by rw [hn7.out, IM5.out.welc]; rfl
          subst hn7'
          have hl7 := hl6.keep b7
          replace Tr := Tr.keep b7
          replace BB := bstep BB b7
          clear b7 hl6 Tx
          go_wp2_with fail
          go_roundw
          case rel => exact ⟨i + 1, F + d, M, a5, n5, c5, by omega, by go_num, rfl, by omega, by omega, rfl, hn5, hl7, OK5, IM5, BB, Tr⟩
          case measure => simp [intOf]; omega
        ·
          replace Tx := Tx.keep b6; replace Tr := Tr.keep b6
          replace BB := bstep BB b6
          have OK6 : Hid (OkL M2) := Lib.hid hM2.1
          have IM6 : Hid (Imp M2) := Lib.hid (Imp.hear IM5.out (x := x) (by have := HY.out; rw [this]; exact hM2))
          clear b6 hl5 hM2
          have r0 := Tr 0 _ rfl
          have r1 := Tr 1 _ rfl
          go_wp2_with fail
          clear r0 r1
          refine (welcomes_at M2 n6 a6 c6 me ra rb w6 OK6.out hn6 hl6).mono ?_
          rintro e w7 ⟨a7, n7, c7, rfl, hn7, _, b7, _⟩
          have hn7' : n7 = 0 := by rw [hn7.out, IM6.out.welc]; rfl
          subst hn7'
          have hl7 := hl6.keep b7
          replace Tr := Tr.keep b7
          replace BB := bstep BB b7
          clear b7 hl6 Tx
          go_wp2_with fail
          go_roundw
          case rel => exact ⟨i + 1, F + d, M2, a6, n6, c6, by omega, by go_num, rfl, by omega, by omega, rfl, hn6, hl7, OK6, IM6, BB, Tr⟩
          case measure => simp [intOf]; omega
      · have hye : y = x := by rw [← hy]; unfold impW; rw [if_neg he]
        have he2 : (x.key == wrap64 (1000000 + x.s)) = false := by rw [← IntWalk.i64_left]; exact Bool.eq_false_iff.2 he
        clear hy he
        have d0 := keep1 BW D0.out
        have hlV := hl.keep BW
        clear x0 fx0 x1 fx1 x2 fx2 x3 fx3 x4 fx4 x5 fx5 x6 fx6 x7 fx7
        have x0 := Tx 0 _ rfl
        have fx0 := Fx.1 0
        have x1 := Tx 1 _ rfl
        have fx1 := Fx.1 1
        have x2 := Tx 2 _ rfl
        have fx2 := Fx.1 2
        have x3 := Tx 3 _ rfl
        have fx3 := Fx.1 3
        have x4 := Tx 4 _ rfl
        have fx4 := Fx.1 4
        have x5 := Tx 5 _ rfl
        have fx5 := Fx.1 5
        have x6 := Tx 6 _ rfl
        have fx6 := Fx.1 6
        have x7 := Tx 7 _ rfl
        have fx7 := Fx.1 7
        go_upto_region 12 with (fail)
        clear x0 fx0 x1 fx1 x2 fx2 x3 fx3 x4 fx4 x5 fx5 x6 fx6 x7 fx7
        clear d0
        go_wp2_with fail
        refine (expire_at L n' a' c' (F + d) V3 hn' (by have := OK.out.len; have := hn'.out; omega) hlV).mono ?_
        rintro e w5 ⟨a5, n5, c5, rfl, hn5, hl5, b5, _⟩
        replace Tx := Tx.keep b5; replace Tr := Tr.keep b5
        replace BB := bstep BB b5
        clear b5 hl hlV D0 BW
        have x0 := Tx 0 _ rfl
        have fx0 := Fx.1 0
        have x1 := Tx 1 _ rfl
        have fx1 := Fx.1 1
        have x2 := Tx 2 _ rfl
        have fx2 := Fx.1 2
        have x3 := Tx 3 _ rfl
        have fx3 := Fx.1 3
        have x4 := Tx 4 _ rfl
        have fx4 := Fx.1 4
        have x5 := Tx 5 _ rfl
        have fx5 := Fx.1 5
        have x6 := Tx 6 _ rfl
        have fx6 := Fx.1 6
        have x7 := Tx 7 _ rfl
        have fx7 := Fx.1 7
        go_wp2_with fail
        clear x0 fx0 x1 fx1 x2 fx2 x3 fx3 x4 fx4 x5 fx5 x6 fx6 x7 fx7
        have OK5 : Hid (OkL (expireV L (F + d))) := Lib.hid (OK.out.expire _)
        have IM5 : Hid (Imp (expireV L (F + d))) := Lib.hid (IM.out.expire _)
        obtain ⟨M, hM⟩ : ∃ M, expireV L (F + d) = M := ⟨_, rfl⟩
        rw [hM] at hn5 hl5 OK5 IM5
        clear hM
        rw [hye] at HY; clear hye
        refine (hear_any M n5 a5 c5 me (F + d) w5 x OK5.out hn5 hl5 HFR.out (hTab.keep BB)).mono ?_
        rintro e w6 (⟨err, herr, rfl, b6⟩ | ⟨M2, a6, n6, c6, hM2, rfl, hn6, hl6, b6, _⟩)
        ·
          replace Tx := Tx.keep b6; replace Tr := Tr.keep b6
          replace BB := bstep BB b6
          have hl6 := hl5.keep b6
          have herr2 : (err == 0) = false := by simpa using herr
          clear b6 hl5
          have r0 := Tr 0 _ rfl
          have r1 := Tr 1 _ rfl
          go_wp2_with fail
          clear r0 r1
          refine (welcomes_at M n5 a5 c5 me ra rb w6 OK5.out hn5 hl6).mono ?_
          rintro e w7 ⟨a7, n7, c7, rfl, hn7, _, b7, _⟩
          have hn7' : n7 = 0 := by rw [hn7.out, IM5.out.welc]; rfl
          subst hn7'
          have hl7 := hl6.keep b7
          replace Tr := Tr.keep b7
          replace BB := bstep BB b7
          clear b7 hl6 Tx
          go_wp2_with fail
          go_roundw
          case rel => exact ⟨i + 1, F + d, M, a5, n5, c5, by omega, by go_num, rfl, by omega, by omega, rfl, hn5, hl7, OK5, IM5, BB, Tr⟩
          case measure => simp [intOf]; omega
        ·
          replace Tx := Tx.keep b6; replace Tr := Tr.keep b6
          replace BB := bstep BB b6
          have OK6 : Hid (OkL M2) := Lib.hid hM2.1
          have IM6 : Hid (Imp M2) := Lib.hid (Imp.hear IM5.out (x := x) (by have := HY.out; rw [this]; exact hM2))
          clear b6 hl5 hM2
          have r0 := Tr 0 _ rfl
          have r1 := Tr 1 _ rfl
          go_wp2_with fail
          clear r0 r1
          refine (welcomes_at M2 n6 a6 c6 me ra rb w6 OK6.out hn6 hl6).mono ?_
          rintro e w7 ⟨a7, n7, c7, rfl, hn7, _, b7, _⟩
          have hn7' : n7 = 0 := by rw [hn7.out, IM6.out.welc]; rfl
          subst hn7'
          have hl7 := hl6.keep b7
          replace Tr := Tr.keep b7
          replace BB := bstep BB b7
          clear b7 hl6 Tx
          go_wp2_with fail
          go_roundw
          case rel => exact ⟨i + 1, F + d, M2, a6, n6, c6, by omega, by go_num, rfl, by omega, by omega, rfl, hn6, hl7, OK6, IM6, BB, Tr⟩
          case measure => simp [intOf]; omega
    · have hin : i = m := by omega
      subst hin
      have hlt' : ¬ (i : Int) < (i : Int) := by omega
      go_wp2_with fail
      go_ret
      exact ⟨rfl, BB⟩
end Go.Proofs.YtgmabjlehjpboaaDoor
