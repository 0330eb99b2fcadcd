/- Proved: one stranger and its sponsor alone: asking, answering, the welcome. Conditions: those that each theorem names. -/
import Derived.Test.YtgmabjlehjpboaaDoorT28
namespace Go.Proofs.YtgmabjlehjpboaaDoor
open Go.RowKit Go.Sort Go.BigFrame Go.Proofs.YtgmabjlehjpboaaDoor.K
set_option linter.unusedVariables false
set_option linter.unusedSimpArgs false
attribute [local go_sem] cell_alloc_old

open Go.Maps Go.Shelf
theorem put_nil (h : Hf) : putL [] h = [h] := rfl
theorem put_same {g h : Hf} (e : g.s = h.s) : putL [g] h = [h] := by simp [putL, insH, e]
theorem Below.tch {w0 V V' : World} {k o : Nat} (h : Below w0.heap.size w0 V) (hT : Tch k o V V') (hk : w0.heap.size ≤ k) : Below w0.heap.size w0 V' := h.grown hT.g h.size (fun i hi => by cases hi; exact hk)
theorem Fz.tch {w w' : World} {k o : Nat} (h : Fz w k) (hT : Tch k o w w') : Fz w' k := ⟨fun x => (hT.f x).trans (h.1 x), Nat.lt_of_lt_of_le h.2 hT.size⟩
theorem CAt.tch {w w' : World} {k o b : Nat} {cs : List Value} (h : CAt w b cs) (hT : Tch k o w w') (hb : b ≠ k) : CAt w' b cs := h.grown hT.g (fun e => hb (Option.some.inj e))
theorem CAt.sg {w : World} {k : Nat} {id : Int} {j : Jn} (h : CAt w k [.int .i64 id, .int .i64 j.ph, .int .i64 j.sp, .int .i64 j.n, .int .i64 j.si, .int .i64 j.tr]) : Sg w k 0 id j :=
  ⟨h 0 _ rfl, h 1 _ rfl, h 2 _ rfl, h 3 _ rfl, h 4 _ rfl, h 5 _ rfl⟩
/-- The only half-open join. -/
abbrev hf1 (id nn ch u : Int) : Hf := ⟨id, nn, ch, u, false, 0⟩
abbrev hf2 (id nn ch u : Int) : Hf := ⟨id, nn, ch, u, true, 1000000 + id⟩
abbrev wc1 (id me nn ra rb : Int) : Wd := ⟨4, id, me, nn, 0, 1000000 + id, ra, rb⟩
structure Node2 (id me : Int) : Prop where
  i : nodeB id = true
  m : nodeB me = true
  ne : id ≠ me
theorem askB_nodes {t id boot me fr : Int} (h : askB t id boot me fr = true) : Node2 id me := by
  obtain ⟨_, h1, h2, h3, _⟩ := askB_conds h
  exact ⟨h1, h2, by simpa using h3⟩
theorem askB_tries {t id boot me fr : Int} (h : askB t id boot me fr = true) : 0 ≤ t ∧ t < 255 ∧ 0 ≤ boot ∧ boot ≤ 1000000 := by
  obtain ⟨h0, _, _, _, h4, h5, _, _, h8⟩ := askB_conds h
  have ht : 0 ≤ t ∧ t ≤ 255 := by simpa [triesB] using h0
  have h8' : ¬ t = 255 := by simpa using h8
  omega
theorem jn_ok {ph me nn si tr : Int} (p0 : 0 ≤ ph) (p1 : ph ≤ 3) (hm : nodeB me = true) (hn : 0 ≤ nn ∧ nn ≤ 1000000000) (hs : 0 ≤ si ∧ si ≤ 1000000000) : Jn.ok ⟨ph, me, nn, si, tr⟩ := by
  have h : 0 ≤ me ∧ me < 60 := by simpa [nodeB] using hm
  exact ⟨p0, p1, hs.1, hs.2, hn.1, hn.2, by simp only; omega, h.2⟩
theorem c1_ask (k o : Nat) (id t boot me fr : Int) (a : Option Addr) (cap : Nat) (w : World) (SG : Sg w k o id ⟨0, -1, 0, 0, t⟩) (FG : Fz w k) (h : askB t id boot me fr = true) (hfr : inB fr 999999988 = true) (hl : HsAt w a []) (hTab : Tab w) :
    Calls Tryd.prog 8 #[.pointer (some ⟨k, o, none⟩), .slice a 0 cap, .int .i64 boot, .int .i64 me, .int .i64 fr] w fun e w' => ∃ ch a' m' c', e = .returned (.tuple #[.slice a' m' c', .bool true]) ∧ OkL [hf1 id (256 * boot + (t + 1)) ch (fr + 12)] ∧ Hid (m' = 1) ∧ HsAt w' a' [hf1 id (256 * boot + (t + 1)) ch (fr + 12)] ∧ Fresh w.heap.size a' ∧
      Sg w' k o id ⟨1, me, 256 * boot + (t + 1), fr, t + 1⟩ ∧ Tch k o w w' := by
  refine (ask8_yes k o id t boot me fr [] a 0 cap w SG FG h OkL.nil (Lib.hid rfl) hl hfr hTab rfl (by decide)).mono ?_
  rintro e w' ⟨L, ch, a', m', c', rfl, hL, ok, hm, hl', hf, hs, ht⟩
  rw [put_nil] at hL
  subst hL
  exact ⟨ch, a', m', c', rfl, ok, hm, hl', hf, hs, ht⟩
theorem c1_prove (k o : Nat) (id me nn si tr fr ch u : Int) (m cap : Nat) (a : Option Addr) (w : World) (SG : Sg w k o id ⟨1, me, nn, si, tr⟩) (FG : Fz w k) (hap : Apart a k) (hN : Node2 id me) (hn : 0 ≤ nn ∧ nn ≤ 1000000000) (hs : 0 ≤ si ∧ si ≤ 1000000000) (ht : triesB tr = true)
    (hfr : inB fr 999999988 = true) (ok : OkL [hf1 id nn ch u]) (hm : Hid (m = 1)) (hl : HsAt w a [hf1 id nn ch u]) :
    Calls Tryd.prog 9 #[.pointer (some ⟨k, o, none⟩), .slice a m cap, .int .i64 me, .int .i64 fr] w (ProvePost k o id ⟨2, me, nn, si, tr⟩ [hf2 id nn ch u] w) := by
  have hf : 0 ≤ fr ∧ fr ≤ 999999988 := by simpa [inB] using hfr
  refine prove_at k o id me nn si tr fr ch u 0 [hf1 id nn ch u] [hf2 id nn ch u] m cap a w SG FG hap (jn_ok (by decide) (by decide) hN.m hn hs) (jn_ok (by decide) (by decide) hN.m hn hs) ht hN.i hN.m (fun g hg => ?_) (by omega) (by omega) hfr ok hm hl ?_ ?_
  · simp only [List.mem_singleton] at hg
    subst hg; exact hN.ne
  · simp [findL]
  · exact (put_same (g := hf1 id nn ch u) (h := hf2 id nn ch u) rfl).symm
theorem c1_ok2 {id nn ch u : Int} (ok : OkL [hf1 id nn ch u]) : OkL [hf2 id nn ch u] := by
  have h := ok.ok _ (List.mem_singleton.2 rfl)
  refine ⟨by simp, fun x hx => ?_, by simp⟩
  simp only [List.mem_singleton] at hx
  subst hx
  have hs : 0 ≤ id ∧ id < 60 := by simpa [nodeB] using h.s
  exact ⟨h.s, h.n, h.c, h.u, by simp [inB]; omega, fun e => by cases e⟩
theorem c1_welcF {id me nn ch u ra rb : Int} (ok : OkL [hf1 id nn ch u]) (hN : Node2 id me) (h0 : ¬ ra < 0) (h1 : ¬ rb ≤ ra) (h2 : ¬ 1000000000 < rb) : welcF (toldV [hf2 id nn ch u] me 3 true) ra rb = [wc1 id me nn ra rb] := by
  have h := (c1_ok2 ok).ok _ (List.mem_singleton.2 rfl)
  have e1 : toldV [hf2 id nn ch u] me 3 true = [wordOf me 3 (hf2 id nn ch u)] := by simp [toldV, hN.m]
  have hf : formedB (wordOf me 3 (hf2 id nn ch u)) = true := word_formed h hN.m hN.ne (by decide) (by decide)
  have e2 : judgeE (wordOf me 3 (hf2 id nn ch u)) ra rb = 0 := by
    unfold judgeE
    rw [if_pos hf, if_neg h0, if_neg h1, if_neg h2]
    simp [wordOf]
  have e3 : judgeV (wordOf me 3 (hf2 id nn ch u)) ra rb = wc1 id me nn ra rb := by unfold judgeV; rw [if_pos e2]; rfl
  rw [e1]
  simp only [welcF, List.filter_cons, List.filter_nil, e2, e3, if_true, List.map_cons, List.map_nil, beq_self_eq_true]
theorem c1_formed {id me nn ch u ra rb : Int} (ok : OkL [hf1 id nn ch u]) (hN : Node2 id me) : formedB (wc1 id me nn ra rb) = true := by
  have h := (c1_ok2 ok).ok _ (List.mem_singleton.2 rfl)
  have hf : formedB (wordOf me 3 (hf2 id nn ch u)) = true := word_formed h hN.m hN.ne (by decide) (by decide)
  have h1 : 0 ≤ nn ∧ nn ≤ 1000000000 := by simpa [inB] using h.n
  have h3 : (id != me) = true := by simpa using hN.ne
  unfold formedB
  simp only [hN.i, hN.m, h3, Bool.true_and, Bool.and_eq_true, decide_eq_true_eq]
  omega
theorem c1_welc (id me nn ch u ra rb : Int) (m cap : Nat) (a : Option Addr) (w : World) (ok : OkL [hf1 id nn ch u]) (hN : Node2 id me) (h0 : ¬ ra < 0) (h1 : ¬ rb ≤ ra) (h2 : ¬ 1000000000 < rb) (hm : Hid (m = 1)) (hl : HsAt w a [hf2 id nn ch u]) :
    Calls Tryd.prog 11 #[.slice a m cap, .int .i64 me, .agg #[.int .i64 ra, .int .i64 rb]] w (WordsPost [wc1 id me nn ra rb] w) := by
  have h := welcomes_at [hf2 id nn ch u] m a cap me ra rb w (c1_ok2 ok) hm hl
  rw [c1_welcF ok hN h0 h1 h2] at h
  exact h
theorem c1_hear (k o : Nat) (id me nn si tr fr ch u ra rb : Int) (m cap : Nat) (a : Option Addr) (w : World) (SG : Sg w k o id ⟨2, me, nn, si, tr⟩) (FG : Fz w k) (hap : Apart a k) (hN : Node2 id me) (hn : 0 ≤ nn ∧ nn ≤ 1000000000) (hs : 0 ≤ si ∧ si ≤ 1000000000) (ht : triesB tr = true)
    (q0 : ¬ fr < 0) (q1 : ¬ 1000000000 < fr) (ok : OkL [hf1 id nn ch u]) (hm : Hid (m = 1)) (hw : WsAt w a [wc1 id me nn ra rb]) :
    Calls Tryd.prog 10 #[.pointer (some ⟨k, o, none⟩), .slice a m cap, .int .i64 fr] w (HearRPost k o id ⟨3, me, nn, si, tr⟩ ra rb w) := by
  have hm' := hm.out
  refine hear10_at k o id me nn si tr fr ra rb [wc1 id me nn ra rb] m cap 0 a w SG FG hap (jn_ok (by decide) (by decide) hN.m hn hs) (jn_ok (by decide) (by decide) hN.m hn hs) ht hN.i q0 q1 hm (by omega) hw (by omega) rfl (fun i hi hne => ?_) (fun i hi => ?_)
  · simp only [List.length_singleton] at hi; omega
  · simp only [List.length_singleton] at hi
    obtain rfl : i = 0 := by omega
    exact c1_formed (ch := ch) (u := u) ok hN
theorem eq35 (a b : Int) (w : World) : (Go.binOp .eql 35 (.agg #[.int .i64 a, .int .i64 b]) (.agg #[.int .i64 a, .int .i64 b])).run Tryd.prog w = .ok (.bool true) w := by go_simp
theorem root4100 (w : World) : Calls Tryd.prog 12 #[.int .i64 4100] w (Ans (.agg #[.int .i64 2, .int .i64 4]) w) := root_any 4100 w
set_option maxRecDepth 100000 in
set_option maxHeartbeats 4000000 in
theorem head_any (w : World) (hTab : Tab w) : Calls Tryd.prog 7 #[] w (Ans (.bool true) w) := by
  have hA : askB 0 5 2 3 10 = true := by decide
  have hN : Node2 5 3 := askB_nodes hA
  go_enter Tryd.func7, Tryd.ntmps7
  go_upto_region 2 with (fail)
  have Ts := CAt.new (w) [.int .i64 5, .int .i64 0, .int .i64 (-1), .int .i64 0, .int .i64 0, .int .i64 0] 30
  have Fs := Fz.new (w) #[.int .i64 5, .int .i64 0, .int .i64 (-1), .int .i64 0, .int .i64 0, .int .i64 0] 30
  have BB : Below w.heap.size w ((w).alloc (.cells #[.int .i64 5, .int .i64 0, .int .i64 (-1), .int .i64 0, .int .i64 0, .int .i64 0] 30)) := ball (Below.refl _ _) _
  obtain ⟨V1, hV1⟩ : ∃ V1, w.alloc (.cells #[.int .i64 5, .int .i64 0, .int .i64 (-1), .int .i64 0, .int .i64 0, .int .i64 0] 30) = V1 := ⟨_, rfl⟩
  rw [hV1] at BB Ts Fs ⊢
  clear hV1
  go_wp2_with fail
  refine (c1_ask w.heap.size 0 5 0 2 3 10 none 0 V1 (CAt.sg (j := ⟨0, -1, 0, 0, 0⟩) Ts) Fs hA (by decide) (HsAt.nil _) (hTab.keep BB)).mono ?_
  rintro e w2 ⟨ch, a2, m2, c2, rfl, ok, hm2, hl2, f2, S2, T2⟩
  replace BB := Below.tch BB T2 (Nat.le_refl _)
  have F2 := Fz.tch Fs T2
  have ap2 := f2.apart (k := w.heap.size) Fs.2
  have NN : Node2 5 3 := hN
  have HN := Lib.hid hN; clear hN
  have HOK := Lib.hid ok; clear ok
  go_wp2_with fail
  refine (c1_prove w.heap.size 0 5 3 513 10 1 11 ch 22 m2 c2 a2 w2 S2 F2 ap2 HN.out (by decide) (by decide) (by decide) (by decide) HOK.out hm2 hl2).mono ?_
  rintro e w3 ⟨a3, m3, c3, rfl, hm3, hl3, f3, S3, T3⟩
  replace BB := Below.tch BB T3 (Nat.le_refl _)
  have F3 := Fz.tch F2 T3
  clear S2 T2 hl2 Ts Fs
  go_wp2_with fail
  refine (root4100 w3).mono ?_
  rintro e w4 ⟨rfl, b4⟩
  have hl4 := hl3.keep b4; have S4 := S3.keep b4; have F4 := F3.keep b4
  replace BB := bstep BB b4
  clear b4 S3 hl3 T3
  go_wp2_with fail
  refine (c1_welc 5 3 513 ch 22 2 4 m3 c3 a3 w4 HOK.out HN.out (by decide) (by decide) (by decide) hm3 hl4).mono ?_
  rintro e w5 ⟨a5, m5, c5, rfl, hm5, hw5, b5, f5⟩
  have ap5 := f5.apart F4.2
  have S5 := S4.keep b5; have F5 := F4.keep b5
  replace BB := bstep BB b5
  clear b5 S4 hl4
  go_wp2_with fail
  refine (c1_hear w.heap.size 0 5 3 513 10 1 12 ch 22 2 4 m5 c5 a5 w5 S5 F5 ap5 HN.out (by decide) (by decide) (by decide) (by decide) (by decide) HOK.out hm5 hw5).mono ?_
  rintro e w6 ⟨rfl, S6, T6⟩
  replace BB := Below.tch BB T6 (Nat.le_refl _)
  clear S5 T6 hw5
  have hq := eq35 2 4
  go_upto_region 5 with (fail)
  have bs2 : w.heap.size ≤ w6.heap.size := BB.size
  have Tv := CAt.new (w6) [.int .i64 2, .int .i64 4] 35
  replace S6 := S6.keep (Below.alloc (Below.refl _ (w6)) (Nat.le_refl _) (.cells #[.int .i64 2, .int .i64 4] 35))
  replace BB := ball BB (.cells #[.int .i64 2, .int .i64 4] 35)
  obtain ⟨V2, hV2⟩ : ∃ V2, w6.alloc (.cells #[.int .i64 2, .int .i64 4] 35) = V2 := ⟨_, rfl⟩
  rw [hV2] at BB Tv S6 ⊢
  clear hV2
  obtain ⟨k2, hk2⟩ : ∃ k2, w6.heap.size = k2 := ⟨_, rfl⟩
  rw [hk2] at Tv bs2 ⊢
  clear hk2
  obtain ⟨g0, g1, g2, g3, g4, g5⟩ := S6
  simp only at g0 g1 g2 g3 g4 g5
  have v0 := Tv 0 _ rfl
  have v1 := Tv 1 _ rfl
  go_wp2_with fail
  go_ret
  exact ⟨rfl, BB⟩
end Go.Proofs.YtgmabjlehjpboaaDoor
