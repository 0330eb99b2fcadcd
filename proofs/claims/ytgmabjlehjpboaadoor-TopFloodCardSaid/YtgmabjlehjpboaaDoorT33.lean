/- Proved: that floods of words end. Conditions: the arguments lie in memory; the table of steps lies where it lay. -/
import Derived.Test.YtgmabjlehjpboaaDoorT31
import Derived.Test.YtgmabjlehjpboaaDoorT32
namespace Go.Proofs.YtgmabjlehjpboaaDoor
open Go.RowKit Go.Sort Go.BigFrame Go.Proofs.YtgmabjlehjpboaaDoor.K
set_option linter.unusedVariables false
set_option linter.unusedSimpArgs false
attribute [local go_sem] cell_alloc_old

open Go.Maps Go.Shelf
/-- All end within twelve frames. -/
def UntL (L : List Hf) (F : Int) : Prop := ∀ h ∈ L, h.u ≤ F + 12
theorem UntL.nil (F : Int) : UntL [] F := fun _ h => by simp at h
theorem UntL.le {L : List Hf} {F G : Int} (h : UntL L F) (hl : F ≤ G) : UntL L G := fun x hx => by have := h x hx; omega
theorem UntL.expire {L : List Hf} {F : Int} (h : UntL L F) (fr : Int) : UntL (expireV L fr) F := fun x hx => h x (List.mem_filter.1 hx).1
theorem UntL.end {L : List Hf} {F : Int} (h : UntL L F) : expireV L (F + 13) = [] := by
  unfold expireV
  rw [List.filter_eq_nil_iff]
  intro x hx
  have := h x hx
  simp only [endB, Bool.not_eq_true', decide_eq_false_iff_not]
  omega
theorem UntL.hear {L M : List Hf} {x : Wd} {F : Int} (h : UntL L F) (hk : HearOk L x F M) : UntL M F := by
  obtain ⟨ok, rfl | ⟨c, rfl⟩ | ⟨g, hg, rfl⟩⟩ := hk
  · exact h
  · intro y hy
    rcases mem_put.1 hy with rfl | ⟨h1, _⟩
    · exact Int.le_refl _
    · exact h y h1
  · intro y hy
    rcases mem_put.1 hy with rfl | ⟨h1, _⟩
    · exact h g (find_some hg).1
    · exact h y h1
theorem two_filters : ∀ L : List Hf, (L.filter (fun h => h.pr == false)).length + (L.filter (fun h => h.pr == true)).length = L.length
  | [] => rfl
  | y :: r => by
    have := two_filters r
    cases hp : y.pr <;> simp only [List.filter_cons, hp, beq_self_eq_true, if_true, List.length_cons, show (false == true) = false from rfl, show (true == false) = false from rfl, Bool.false_eq_true, if_false] <;> omega
theorem told_sum {L : List Hf} (ok : OkL L) (me : Int) : (toldV L me 2 false).length + (toldV L me 3 true).length ≤ 4 := by
  unfold toldV
  split
  · rw [List.length_map, List.length_map, two_filters]; exact ok.len
  · simp
theorem ask_why {id boot me F : Int} (hF0 : 0 ≤ F) (hF1 : F ≤ 400) (h : askB 0 id boot me F = false) : id < 0 ∨ 60 ≤ id ∨ me < 0 ∨ 60 ≤ me ∨ id = me ∨ boot < 0 ∨ 1000000 < boot := by
  by_cases h0 : id < 0 ∨ 60 ≤ id ∨ me < 0 ∨ 60 ≤ me ∨ id = me ∨ boot < 0 ∨ 1000000 < boot
  · exact h0
  · exfalso
    have a1 : nodeB id = true := by unfold nodeB; simp only [decide_eq_true_eq]; omega
    have a2 : nodeB me = true := by unfold nodeB; simp only [decide_eq_true_eq]; omega
    have a3 : (id == me) = false := by simp; omega
    have a4 : (triesB 0) = true := by decide
    have a5 : ((0 : Int) == 255) = false := by decide
    unfold askB at h
    rw [a1, a2, a3, a4, a5, decide_eq_false (show ¬ boot < 0 by omega), decide_eq_false (show ¬ 1000000 < boot by omega), decide_eq_false (show ¬ F < 0 by omega), decide_eq_false (show ¬ 1000000000 < F by omega)] at h
    cases h
set_option maxRecDepth 100000 in
set_option maxHeartbeats 4000000 in
theorem flood_e0 (me : Int) (W : List Wd) (m cw : Nat) (aw : Option Addr) (zs : List Int) (ns cs : Nat) (sa : Option Addr) (id boot asn : Int) (w : World) (hTab : Tab w) (hm : Hid (m = W.length)) (hw : WsAt w aw W) (hs : Hid (ns = zs.length)) (hz : IntsAt .u8 w sa zs) (hwf : ∀ z ∈ zs, (Lit.int .u8 z).wf = true) (hns : ns ≤ maxLen) (hmm : m ≤ maxLen) (h0 : 60 < m) :
    Calls Tryd.prog 5 #[.int .i64 me, .slice aw m cw, .slice sa ns cs, .int .i64 id, .int .i64 boot, .int .i64 asn] w (Ans (.bool true) w) := by
  have hmx : maxLen = 9223372036854775807 := rfl
  have HWF := Lib.hid hwf; clear hwf
  go_enter Tryd.func5, Tryd.ntmps5
  go_upto_region 1 with (fail)
  go_wp2_with fail
  refine (head_any w hTab).mono ?_
  rintro e w1 ⟨rfl, b1⟩
  have BB := b1
  clear b1
  have g0 : (60 : Int) < (m : Int) := by omega
  go_wp2_with fail
  go_ret
  exact ⟨rfl, BB⟩
set_option maxRecDepth 100000 in
set_option maxHeartbeats 4000000 in
theorem flood_e1 (me : Int) (W : List Wd) (m cw : Nat) (aw : Option Addr) (zs : List Int) (ns cs : Nat) (sa : Option Addr) (id boot asn : Int) (w : World) (hTab : Tab w) (hm : Hid (m = W.length)) (hw : WsAt w aw W) (hs : Hid (ns = zs.length)) (hz : IntsAt .u8 w sa zs) (hwf : ∀ z ∈ zs, (Lit.int .u8 z).wf = true) (hns : ns ≤ maxLen) (hmm : m ≤ maxLen) (h0 : ¬ 60 < m) (h1 : ns < m) :
    Calls Tryd.prog 5 #[.int .i64 me, .slice aw m cw, .slice sa ns cs, .int .i64 id, .int .i64 boot, .int .i64 asn] w (Ans (.bool true) w) := by
  have hmx : maxLen = 9223372036854775807 := rfl
  have HWF := Lib.hid hwf; clear hwf
  go_enter Tryd.func5, Tryd.ntmps5
  go_upto_region 1 with (fail)
  go_wp2_with fail
  refine (head_any w hTab).mono ?_
  rintro e w1 ⟨rfl, b1⟩
  have BB := b1
  clear b1
  have g0 : ¬ (60 : Int) < (m : Int) := by omega
  have g1 : (ns : Int) < (m : Int) := by omega
  go_wp2_with fail
  go_ret
  exact ⟨rfl, BB⟩
set_option maxRecDepth 100000 in
set_option maxHeartbeats 4000000 in
theorem flood_e2 (me : Int) (W : List Wd) (m cw : Nat) (aw : Option Addr) (zs : List Int) (ns cs : Nat) (sa : Option Addr) (id boot asn : Int) (w : World) (hTab : Tab w) (hm : Hid (m = W.length)) (hw : WsAt w aw W) (hs : Hid (ns = zs.length)) (hz : IntsAt .u8 w sa zs) (hwf : ∀ z ∈ zs, (Lit.int .u8 z).wf = true) (hns : ns ≤ maxLen) (hmm : m ≤ maxLen) (h0 : ¬ 60 < m) (h1 : ¬ ns < m) (h2 : asn < 0) :
    Calls Tryd.prog 5 #[.int .i64 me, .slice aw m cw, .slice sa ns cs, .int .i64 id, .int .i64 boot, .int .i64 asn] w (Ans (.bool true) w) := by
  have hmx : maxLen = 9223372036854775807 := rfl
  have HWF := Lib.hid hwf; clear hwf
  go_enter Tryd.func5, Tryd.ntmps5
  go_upto_region 1 with (fail)
  go_wp2_with fail
  refine (head_any w hTab).mono ?_
  rintro e w1 ⟨rfl, b1⟩
  have BB := b1
  clear b1
  have g0 : ¬ (60 : Int) < (m : Int) := by omega
  have g1 : ¬ (ns : Int) < (m : Int) := by omega
  go_wp2_with fail
  go_ret
  exact ⟨rfl, BB⟩
set_option maxRecDepth 100000 in
set_option maxHeartbeats 4000000 in
theorem flood_e3 (me : Int) (W : List Wd) (m cw : Nat) (aw : Option Addr) (zs : List Int) (ns cs : Nat) (sa : Option Addr) (id boot asn : Int) (w : World) (hTab : Tab w) (hm : Hid (m = W.length)) (hw : WsAt w aw W) (hs : Hid (ns = zs.length)) (hz : IntsAt .u8 w sa zs) (hwf : ∀ z ∈ zs, (Lit.int .u8 z).wf = true) (hns : ns ≤ maxLen) (hmm : m ≤ maxLen) (h0 : ¬ 60 < m) (h1 : ¬ ns < m) (h2 : ¬ asn < 0) (h3 : 1000000000 < asn) :
    Calls Tryd.prog 5 #[.int .i64 me, .slice aw m cw, .slice sa ns cs, .int .i64 id, .int .i64 boot, .int .i64 asn] w (Ans (.bool true) w) := by
  have hmx : maxLen = 9223372036854775807 := rfl
  have HWF := Lib.hid hwf; clear hwf
  go_enter Tryd.func5, Tryd.ntmps5
  go_upto_region 1 with (fail)
  go_wp2_with fail
  refine (head_any w hTab).mono ?_
  rintro e w1 ⟨rfl, b1⟩
  have BB := b1
  clear b1
  have g0 : ¬ (60 : Int) < (m : Int) := by omega
  have g1 : ¬ (ns : Int) < (m : Int) := by omega
  go_wp2_with fail
  go_ret
  exact ⟨rfl, BB⟩
set_option maxRecDepth 100000 in
set_option maxHeartbeats 4000000 in
theorem flood_c (me : Int) (W : List Wd) (m cw : Nat) (aw : Option Addr) (zs : List Int) (ns cs : Nat) (sa : Option Addr) (id boot asn : Int) (w : World) (hTab : Tab w) (hm : Hid (m = W.length)) (hw : WsAt w aw W) (hs : Hid (ns = zs.length)) (hz : IntsAt .u8 w sa zs) (hwf : ∀ z ∈ zs, (Lit.int .u8 z).wf = true) (hns : ns ≤ maxLen) (hmm : m ≤ maxLen) (h0 : ¬ 60 < m) (h1 : ¬ ns < m) (h2 : ¬ asn < 0) (h3 : ¬ 1000000000 < asn) :
    Calls Tryd.prog 5 #[.int .i64 me, .slice aw m cw, .slice sa ns cs, .int .i64 id, .int .i64 boot, .int .i64 asn] w (Ans (.bool true) w) := by
  have hmx : maxLen = 9223372036854775807 := rfl
  have HWF := Lib.hid hwf; clear hwf
  go_enter Tryd.func5, Tryd.ntmps5
  go_upto_region 1 with (fail)
  go_wp2_with fail
  refine (head_any w hTab).mono ?_
  rintro e w1 ⟨rfl, b1⟩
  have BB := b1
  clear b1
  have hg2 : decide ((60 : Int) < (m : Int)) = false := by simp; omega
  have hg3 : decide ((ns : Int) < (m : Int)) = false := by simp; omega
  have hg4 : decide (asn < (0 : Int)) = false := by simp; omega
  have hg5 : decide ((1000000000 : Int) < asn) = false := by simp; omega
  have ASN : Hid (0 ≤ asn ∧ asn ≤ 1000000000) := Lib.hid (by omega)
  clear h2 h3
  go_upto_region 7 with (fail)
  go_loopw [14, 15, 44] (fun v fv iv wr => ∃ (i : Nat) (F : Int) (L : List Hf) (a' : Option Addr) (n' c' : Nat), i ≤ m ∧ iv = .int .i64 i ∧ fv = .int .i64 F ∧ 0 ≤ F ∧ F ≤ 5 * i ∧ v = .slice a' n' c' ∧ Hid (n' = L.length) ∧ HsAt wr a' L ∧ Hid (OkL L) ∧ Hid (UntL L F) ∧ Below w.heap.size w wr) (fun _ _ iv _ => m - (intOf iv).toNat)
  case atStart => exact ⟨0, 0, [], none, 0, 0, Nat.zero_le _, rfl, rfl, by omega, by omega, rfl, Lib.hid rfl, HsAt.nil _, Lib.hid OkL.nil, Lib.hid (UntL.nil _), BB⟩
  case round =>
    clear BB
    obtain ⟨i, F, L, a', n', c', hi, rfl, rfl, hF0, hF1, rfl, hn', hl, OK, UN, BB⟩ := hrel
    by_cases hlt : i < m
    · have hlt' : (i : Int) < (m : Int) := by omega
      have hk0 : (0 : Int) ≤ (i : Int) := by omega
      have hwk : IntKind.i64.wrap ((i : Int) + 1) = (i : Int) + 1 := IntWalk.i64_in _ (by omega)
      have hls : (i : Int) < (ns : Int) := by omega
      obtain ⟨b, off, e1, c0, c1', c2, c3, c4, c5, c6, c7⟩ := At.wd hw BB (i := i) (by rw [← hm.out]; exact hlt)
      obtain ⟨sb, soff, e2, d0⟩ := IntsAt.at hz BB (i := i) (by rw [← hs.out]; omega)
      have hzb := u8_bd HWF.out (i := i) (by rw [← hs.out]; omega)
      obtain ⟨z, hz'⟩ : ∃ z, zs.getD i 0 = z := ⟨_, rfl⟩
      rw [hz'] at d0 hzb
      clear hz'
      obtain ⟨x, hx⟩ : ∃ x, W.getD i default = x := ⟨_, rfl⟩
      rw [hx] at c0 c1' c2 c3 c4 c5 c6 c7
      clear hx
      subst e1 e2
      have hmd := mod6 z hzb.1
      obtain ⟨d, hd⟩ : ∃ d, z.tmod 6 = d := ⟨_, rfl⟩
      rw [hd] at hmd
      have hcv : IntKind.i64.wrap z = z := IntWalk.i64_in _ (by omega)
      have hwF : IntKind.i64.wrap (F + d) = F + d := IntWalk.i64_in _ (by omega)
      have hfr : inB (F + d) 999999988 = true := by unfold inB; simp only [decide_eq_true_eq]; omega
      have HFR := Lib.hid hfr; clear hfr
      have hz9 : 0 ≤ z := hzb.1
      have D0 := Lib.hid d0
      go_upto_region 9 with (fail)
      clear c0 c1' c2 c3 c4 c5 c6 c7 d0
      have BW : Fr wr wr := Below.refl _ _
      have bs2 : w.heap.size ≤ wr.heap.size := BB.size
      have Tx := CAt.new (wr) [.int .i64 x.k, .int .i64 x.s, .int .i64 x.p, .int .i64 x.n, .int .i64 x.c, .int .i64 x.key, .int .i64 x.f, .int .i64 x.x] 43
      replace hl := hl.keep (Below.alloc (Below.refl _ (wr)) (Nat.le_refl _) (.cells #[.int .i64 x.k, .int .i64 x.s, .int .i64 x.p, .int .i64 x.n, .int .i64 x.c, .int .i64 x.key, .int .i64 x.f, .int .i64 x.x] 43))
      replace BW := BW.keep (Below.alloc (Below.refl _ (wr)) (Nat.le_refl _) (.cells #[.int .i64 x.k, .int .i64 x.s, .int .i64 x.p, .int .i64 x.n, .int .i64 x.c, .int .i64 x.key, .int .i64 x.f, .int .i64 x.x] 43))
      replace BB := ball BB (.cells #[.int .i64 x.k, .int .i64 x.s, .int .i64 x.p, .int .i64 x.n, .int .i64 x.c, .int .i64 x.key, .int .i64 x.f, .int .i64 x.x] 43)
      obtain ⟨V2, hV2⟩ : ∃ V2, wr.alloc (.cells #[.int .i64 x.k, .int .i64 x.s, .int .i64 x.p, .int .i64 x.n, .int .i64 x.c, .int .i64 x.key, .int .i64 x.f, .int .i64 x.x] 43) = V2 := ⟨_, rfl⟩
      rw [hV2] at BB Tx hl BW ⊢
      clear hV2
      obtain ⟨k2, hk2⟩ : ∃ k2, wr.heap.size = k2 := ⟨_, rfl⟩
      rw [hk2] at Tx bs2 ⊢
      clear hk2
      have d0 := keep1 BW D0.out
      go_upto_region 10 with (fail)
      clear d0 BW D0
      go_wp2_with fail
      refine (expire_at L n' a' c' (F + d) V2 hn' (by have := OK.out.len; have := hn'.out; omega) hl).mono ?_
      rintro e w5 ⟨a5, n5, c5, rfl, hn5, hl5, b5, _⟩
      replace Tx := Tx.keep b5
      replace BB := bstep BB b5
      clear b5 hl
      have x0 := Tx 0 _ rfl
      have x1 := Tx 1 _ rfl
      have x2 := Tx 2 _ rfl
      have x3 := Tx 3 _ rfl
      have x4 := Tx 4 _ rfl
      have x5 := Tx 5 _ rfl
      have x6 := Tx 6 _ rfl
      have x7 := Tx 7 _ rfl
      go_wp2_with fail
      clear x0 x1 x2 x3 x4 x5 x6 x7
      have OK5 : Hid (OkL (expireV L (F + d))) := Lib.hid (OK.out.expire _)
      have UN5 : Hid (UntL (expireV L (F + d)) (F + d)) := Lib.hid ((UN.out.expire _).le (by omega))
      obtain ⟨M, hM⟩ : ∃ M, expireV L (F + d) = M := ⟨_, rfl⟩
      rw [hM] at hn5 hl5 OK5 UN5
      clear hM Tx
      refine (hear_any M n5 a5 c5 me (F + d) w5 x OK5.out hn5 hl5 HFR.out (hTab.keep BB)).mono ?_
      rintro e w6 (⟨err, herr, rfl, b6⟩ | ⟨M2, a6, n6, c6, hM2, rfl, hn6, hl6, b6, _⟩)
      ·
        replace BB := bstep BB b6
        have hl6 := hl5.keep b6
        have herr2 : (err == 0) = false := by simpa using herr
        clear b6 hl5
        have h4 : ¬ (4 : Int) < (n5 : Int) := by have := OK5.out.len; have := hn5.out; omega
        go_wp2_with fail
        refine (words_at M n5 a5 c5 me w6 OK5.out hn5 hl6).mono ?_
        rintro e w7 ⟨a7, m7, c7, rfl, hm7, _, b7, _⟩
        have hl7 := hl6.keep b7
        replace BB := bstep BB b7
        clear b7 hl6
        go_wp2_with fail
        refine (proofs_at M n5 a5 c5 me w7 OK5.out hn5 hl7).mono ?_
        rintro e w8 ⟨a8, m8, c8, rfl, hm8, _, b8, _⟩
        have hl8 := hl7.keep b8
        replace BB := bstep BB b8
        clear b8 hl7
        have hsum : m7 + m8 ≤ 4 := by rw [hm7.out, hm8.out]; exact told_sum OK5.out me
        have hws : IntKind.i64.wrap ((m7 : Int) + (m8 : Int)) = (m7 : Int) + (m8 : Int) := IntWalk.i64_in _ (by omega)
        have hs4 : ¬ (4 : Int) < (m7 : Int) + (m8 : Int) := by omega
        go_wp2_with fail
        go_roundw
        case rel => exact ⟨i + 1, F + d, M, a5, n5, c5, by omega, by go_num, rfl, by omega, by omega, rfl, hn5, hl8, OK5, UN5, BB⟩
        case measure => simp [intOf]; omega
      ·
        replace BB := bstep BB b6
        have OK6 : Hid (OkL M2) := Lib.hid hM2.1
        have UN6 : Hid (UntL M2 (F + d)) := Lib.hid (UntL.hear UN5.out hM2)
        clear b6 hl5 hM2
        have h4 : ¬ (4 : Int) < (n6 : Int) := by have := OK6.out.len; have := hn6.out; omega
        go_wp2_with fail
        refine (words_at M2 n6 a6 c6 me w6 OK6.out hn6 hl6).mono ?_
        rintro e w7 ⟨a7, m7, c7, rfl, hm7, _, b7, _⟩
        have hl7 := hl6.keep b7
        replace BB := bstep BB b7
        clear b7 hl6
        go_wp2_with fail
        refine (proofs_at M2 n6 a6 c6 me w7 OK6.out hn6 hl7).mono ?_
        rintro e w8 ⟨a8, m8, c8, rfl, hm8, _, b8, _⟩
        have hl8 := hl7.keep b8
        replace BB := bstep BB b8
        clear b8 hl7
        have hsum : m7 + m8 ≤ 4 := by rw [hm7.out, hm8.out]; exact told_sum OK6.out me
        have hws : IntKind.i64.wrap ((m7 : Int) + (m8 : Int)) = (m7 : Int) + (m8 : Int) := IntWalk.i64_in _ (by omega)
        have hs4 : ¬ (4 : Int) < (m7 : Int) + (m8 : Int) := by omega
        go_wp2_with fail
        go_roundw
        case rel => exact ⟨i + 1, F + d, M2, a6, n6, c6, by omega, by go_num, rfl, by omega, by omega, rfl, hn6, hl8, OK6, UN6, BB⟩
        case measure => simp [intOf]; omega
    · have hin : i = m := by omega
      subst hin
      have hlt' : ¬ (i : Int) < (i : Int) := by omega
      have hF2 : F ≤ 300 := by omega
      have hw13 : IntKind.i64.wrap (F + 13) = F + 13 := IntWalk.i64_in _ (by omega)
      have hw14 : IntKind.i64.wrap (F + 14) = F + 14 := IntWalk.i64_in _ (by omega)
      have hw15 : IntKind.i64.wrap (F + 15) = F + 15 := IntWalk.i64_in _ (by omega)
      have FF : Hid (0 ≤ F ∧ F ≤ 300) := Lib.hid ⟨hF0, hF2⟩
      go_wp2_with fail
      refine (expire_at L n' a' c' (F + 13) wr hn' (by have := OK.out.len; have := hn'.out; omega) hl).mono ?_
      rintro e u1 ⟨a1, n1, c1, rfl, hn1, hl1, b1, _⟩
      replace BB := bstep BB b1
      clear b1 hl
      rw [UN.out.end] at hn1 hl1
      have hn1' : n1 = 0 := hn1.out
      subst hn1'
      clear hn1
      go_upto_region 21 with (fail)
      have bs2 : w.heap.size ≤ u1.heap.size := BB.size
      have Ts := CAt.new (u1) [.int .i64 id, .int .i64 0, .int .i64 (-1), .int .i64 0, .int .i64 0, .int .i64 0] 30
      have Fs := Fz.new (u1) #[.int .i64 id, .int .i64 0, .int .i64 (-1), .int .i64 0, .int .i64 0, .int .i64 0] 30
      replace hl1 := hl1.keep (Below.alloc (Below.refl _ (u1)) (Nat.le_refl _) (.cells #[.int .i64 id, .int .i64 0, .int .i64 (-1), .int .i64 0, .int .i64 0, .int .i64 0] 30))
      replace BB := ball BB (.cells #[.int .i64 id, .int .i64 0, .int .i64 (-1), .int .i64 0, .int .i64 0, .int .i64 0] 30)
      obtain ⟨V2, hV2⟩ : ∃ V2, u1.alloc (.cells #[.int .i64 id, .int .i64 0, .int .i64 (-1), .int .i64 0, .int .i64 0, .int .i64 0] 30) = V2 := ⟨_, rfl⟩
      rw [hV2] at BB Ts Fs hl1 ⊢
      clear hV2
      obtain ⟨k2, hk2⟩ : ∃ k2, u1.heap.size = k2 := ⟨_, rfl⟩
      rw [hk2] at Ts Fs bs2 ⊢
      clear hk2
      go_wp2_with fail
      have hk0 : w.heap.size ≤ k2 := by omega
      cases hA : askB 0 id boot me (F + 13)
      · have hwhy := ask_why (by have := FF.out; omega) (by have := FF.out; omega) hA
        have HA := Lib.hid hA; clear hA
        refine (ask8_no k2 0 id 0 boot me (F + 13) a1 0 c1 V2 (CAt.sg (j := ⟨0, -1, 0, 0, 0⟩) Ts) HA.out).mono ?_
        rintro e w9 ⟨rfl, b9⟩
        replace BB := bstep BB b9
        clear b9 Ts Fs hl1
        go_upto_region 23 with (fail)
        rcases hwhy with q | q | q | q | q | q | q
        · go_wp2_with fail
          go_ret
          exact ⟨rfl, BB⟩
        · by_cases r0 : id < 0
          · go_wp2_with fail
            go_ret
            exact ⟨rfl, BB⟩
          go_wp2_with fail
          go_ret
          exact ⟨rfl, BB⟩
        · by_cases r0 : id < 0
          · go_wp2_with fail
            go_ret
            exact ⟨rfl, BB⟩
          by_cases r1 : 60 ≤ id
          · go_wp2_with fail
            go_ret
            exact ⟨rfl, BB⟩
          go_wp2_with fail
          go_ret
          exact ⟨rfl, BB⟩
        · by_cases r0 : id < 0
          · go_wp2_with fail
            go_ret
            exact ⟨rfl, BB⟩
          by_cases r1 : 60 ≤ id
          · go_wp2_with fail
            go_ret
            exact ⟨rfl, BB⟩
          by_cases r2 : me < 0
          · go_wp2_with fail
            go_ret
            exact ⟨rfl, BB⟩
          go_wp2_with fail
          go_ret
          exact ⟨rfl, BB⟩
        · by_cases r0 : id < 0
          · go_wp2_with fail
            go_ret
            exact ⟨rfl, BB⟩
          by_cases r1 : 60 ≤ id
          · go_wp2_with fail
            go_ret
            exact ⟨rfl, BB⟩
          by_cases r2 : me < 0
          · go_wp2_with fail
            go_ret
            exact ⟨rfl, BB⟩
          by_cases r3 : 60 ≤ me
          · go_wp2_with fail
            go_ret
            exact ⟨rfl, BB⟩
          subst q
          go_wp2_with fail
          go_ret
          exact ⟨rfl, BB⟩
        · by_cases r0 : id < 0
          · go_wp2_with fail
            go_ret
            exact ⟨rfl, BB⟩
          by_cases r1 : 60 ≤ id
          · go_wp2_with fail
            go_ret
            exact ⟨rfl, BB⟩
          by_cases r2 : me < 0
          · go_wp2_with fail
            go_ret
            exact ⟨rfl, BB⟩
          by_cases r3 : 60 ≤ me
          · go_wp2_with fail
            go_ret
            exact ⟨rfl, BB⟩
          by_cases r4 : id = me
          · subst r4; go_wp2_with fail
            go_ret
            exact ⟨rfl, BB⟩
          go_wp2_with fail
          go_ret
          exact ⟨rfl, BB⟩
        · by_cases r0 : id < 0
          · go_wp2_with fail
            go_ret
            exact ⟨rfl, BB⟩
          by_cases r1 : 60 ≤ id
          · go_wp2_with fail
            go_ret
            exact ⟨rfl, BB⟩
          by_cases r2 : me < 0
          · go_wp2_with fail
            go_ret
            exact ⟨rfl, BB⟩
          by_cases r3 : 60 ≤ me
          · go_wp2_with fail
            go_ret
            exact ⟨rfl, BB⟩
          by_cases r4 : id = me
          · subst r4; go_wp2_with fail
            go_ret
            exact ⟨rfl, BB⟩
          by_cases r5 : boot < 0
          · go_wp2_with fail
            go_ret
            exact ⟨rfl, BB⟩
          go_wp2_with fail
          go_ret
          exact ⟨rfl, BB⟩
      · have hN := askB_nodes hA
        have hT3 := askB_tries hA
        have hro := root_in ASN.out.1 ASN.out.2
        have hfr1 : inB (F + 13) 999999988 = true := by unfold inB; simp only [decide_eq_true_eq]; omega
        have hfr2 : inB (F + 14) 999999988 = true := by unfold inB; simp only [decide_eq_true_eq]; omega
        have hn0 : 0 ≤ 256 * boot + (0 + 1) ∧ 256 * boot + (0 + 1) ≤ 1000000000 := by omega
        have hsi : 0 ≤ F + 13 ∧ F + 13 ≤ 1000000000 := by omega
        have HN := Lib.hid hN; have HA := Lib.hid hA; have HRO := Lib.hid hro; have HF1 := Lib.hid hfr1; have HF2 := Lib.hid hfr2; have HN0 := Lib.hid hn0; have HSI := Lib.hid hsi
        clear hN hA hro hfr1 hfr2 hn0 hsi hT3
        refine (c1_ask k2 0 id 0 boot me (F + 13) a1 c1 V2 (CAt.sg (j := ⟨0, -1, 0, 0, 0⟩) Ts) Fs HA.out HF1.out hl1 (hTab.keep BB)).mono ?_
        rintro e u2 ⟨ch, a2, m2, c2, rfl, ok, hm2, hl2, f2, S2, T2⟩
        replace BB := Below.tch BB T2 hk0
        have F2 := Fz.tch Fs T2
        have ap2 := f2.apart (k := k2) Fs.2
        have HOK := Lib.hid ok; clear ok
        clear hl1
        go_wp2_with fail
        refine (c1_prove k2 0 id me (256 * boot + (0 + 1)) (F + 13) (0 + 1) (F + 14) ch (F + 13 + 12) m2 c2 a2 u2 S2 F2 ap2 HN.out HN0.out HSI.out (by decide) HF2.out HOK.out hm2 hl2).mono ?_
        rintro e u3 ⟨a3, m3, c3, rfl, hm3, hl3, f3, S3, T3⟩
        replace BB := Below.tch BB T3 hk0
        have F3 := Fz.tch F2 T3
        clear S2 T2 hl2 Ts Fs F2
        go_wp2_with fail
        refine (root_any asn u3).mono ?_
        rintro e u4 ⟨rfl, b4⟩
        rw [HRO.out.1, HRO.out.2]
        have hl4 := hl3.keep b4; have S4 := S3.keep b4; have F4 := F3.keep b4
        replace BB := bstep BB b4
        clear b4 S3 hl3 T3 F3
        go_wp2_with fail
        refine (c1_welc id me (256 * boot + (0 + 1)) ch (F + 13 + 12) (asn / 2000) (asn / 2000 + 2) m3 c3 a3 u4 HOK.out HN.out (by have := ASN.out; omega) (by omega) (by have := ASN.out; omega) hm3 hl4).mono ?_
        rintro e u5 ⟨a5, m5, c5, rfl, hm5, hw5, b5, f5⟩
        have ap5 := f5.apart F4.2
        have S5 := S4.keep b5; have F5 := F4.keep b5
        replace BB := bstep BB b5
        clear b5 S4 hl4 F4
        go_wp2_with fail
        refine (c1_hear k2 0 id me (256 * boot + (0 + 1)) (F + 13) (0 + 1) (F + 15) ch (F + 13 + 12) (asn / 2000) (asn / 2000 + 2) m5 c5 a5 u5 S5 F5 ap5 HN.out HN0.out HSI.out (by decide) (by have := FF.out; omega) (by have := FF.out; omega) HOK.out hm5 hw5).mono ?_
        rintro e u6 ⟨rfl, S6, T6⟩
        replace BB := Below.tch BB T6 hk0
        clear S5 T6 hw5 F5
        obtain ⟨j0, j1, j2, j3, j4, j5⟩ := S6
        simp only at j0 j1 j2 j3 j4 j5
        go_wp2_with fail
        go_ret
        exact ⟨rfl, BB⟩
theorem pFlood (me : Int) (aw : Option Addr) (cw : Nat) (css : List (List Value)) (sa : Option Addr) (cs : Nat) (zs : List Int) (id boot asn : Int) (w : World)
    (w0 : (Lit.int .i64 me).wf = true) (hr : RowAt w aw 8 css) (hx : css.length ≤ maxLen) (hfl : ∀ c ∈ css, Flat wdK c) (hi : IntsAt .u8 w sa zs) (hx2 : zs.length ≤ maxLen) (hw2 : ∀ z ∈ zs, (Lit.int .u8 z).wf = true) (w1 : (Lit.int .i64 id).wf = true) (w2 : (Lit.int .i64 boot).wf = true) (w3 : (Lit.int .i64 asn).wf = true) (hT : Tab w) :
    Calls Tryd.prog 5 #[.int .i64 me, .slice aw css.length cw, .slice sa zs.length cs, .int .i64 id, .int .i64 boot, .int .i64 asn] w (Ans (.bool true) w) := by
  obtain ⟨W, rfl⟩ := ws_of hfl
  obtain ⟨m, hm⟩ : ∃ m, m = (W.map Wd.cs).length := ⟨_, rfl⟩
  rw [← hm] at hx ⊢
  have hm' : Hid (m = W.length) := Lib.hid (by rw [hm, List.length_map])
  by_cases h0 : 60 < m
  · exact flood_e0 me W m cw aw zs _ cs sa id boot asn w hT hm' (wsAt_of hr) (Lib.hid rfl) hi hw2 hx2 hx h0
  by_cases h1 : zs.length < m
  · exact flood_e1 me W m cw aw zs _ cs sa id boot asn w hT hm' (wsAt_of hr) (Lib.hid rfl) hi hw2 hx2 hx h0 h1
  by_cases h2 : asn < 0
  · exact flood_e2 me W m cw aw zs _ cs sa id boot asn w hT hm' (wsAt_of hr) (Lib.hid rfl) hi hw2 hx2 hx h0 h1 h2
  by_cases h3 : 1000000000 < asn
  · exact flood_e3 me W m cw aw zs _ cs sa id boot asn w hT hm' (wsAt_of hr) (Lib.hid rfl) hi hw2 hx2 hx h0 h1 h2 h3
  · exact flood_c me W m cw aw zs _ cs sa id boot asn w hT hm' (wsAt_of hr) (Lib.hid rfl) hi hw2 hx2 hx h0 h1 h2 h3
end Go.Proofs.YtgmabjlehjpboaaDoor
