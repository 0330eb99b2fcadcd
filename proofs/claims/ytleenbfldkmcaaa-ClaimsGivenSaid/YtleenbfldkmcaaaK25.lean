/- Proved: the law that tells which uses and grants are given up. Conditions: what came in lies in memory. -/
import Derived.Test.YtleenbfldkmcaaaK24a
import Derived.Test.YtleenbfldkmcaaaK19
namespace Go.Proofs.Ytleenbfldkmcaaa
open Go.RowKit Go.Sort Go.BigFrame
set_option linter.unusedVariables false
set_option linter.unusedSimpArgs false
attribute [local go_sem] cell_alloc_old
attribute [local go_sem ↓] exec_load61 exec_store61
/-- What came in, the box of the table, the box of what remained. -/
structure MG (k0 : Nat) (t : Tv) (N : List Nv) (a : Option Addr) (p : Nat) (r : Tv) (w : World) : Prop where
  c : CAt w k0 t.cs
  o0 : t.ok w
  n : NsAt w a N
  c2 : CAt w p r.cs
  o2 : r.ok w
theorem MG.keep {k0 p : Nat} {t r : Tv} {N : List Nv} {a : Option Addr} {w w' : World} (h : MG k0 t N a p r w) (hb : Below w.heap.size w w') : MG k0 t N a p r w' := ⟨h.c.keep hb, h.o0.keep hb, h.n.keep hb, h.c2.keep hb, h.o2.keep hb⟩
structure MH (k0 : Nat) (t : Tv) (N : List Nv) (a : Option Addr) (w : World) : Prop where
  c : CAt w k0 t.cs
  o0 : t.ok w
  n : NsAt w a N
theorem MH.keep {k0 : Nat} {t : Tv} {N : List Nv} {a : Option Addr} {w w' : World} (h : MH k0 t N a w) (hb : Below w.heap.size w w') : MH k0 t N a w' := ⟨h.c.keep hb, h.o0.keep hb, h.n.keep hb⟩
theorem bdN (w : World) (n : Nat) : Below w.heap.size w (w.drewN n) := ⟨rfl, rfl, rfl, Nat.le_refl _, fun _ _ => rfl⟩
theorem comb {z2 z lat at' e r : Bool} (h : z2 = (z || (lat && at'))) (hr : (z2 || (lat && e)) = r) : r = (z || (lat && (at' || e))) := by
  subst h; subst hr; cases z <;> cases lat <;> cases at' <;> cases e <;> rfl
theorem any_take_or {α : Type} [Inhabited α] (f : α → Bool) {l : List α} {k : Nat} (hk : k < l.length) : (l.take (k + 1)).any f = ((l.take k).any f || f (l.getD k default)) := any_take_succ f hk
theorem filter_at {α : Type} [Inhabited α] (f : α → Bool) {l : List α} {k : Nat} (hk : k < l.length) (h : f (l.getD k default) = true) : ((l.take k).filter f).length < (l.filter f).length ∧ (l.filter f).getD ((l.take k).filter f).length default = l.getD k default := by
  have e : l.filter f = (l.take k).filter f ++ l.getD k default :: (l.drop (k + 1)).filter f := by
    conv => lhs; rw [← List.take_append_drop (k + 1) l]
    rw [List.filter_append, filter_snoc f hk, if_pos h, List.append_assoc]
    rfl
  rw [e]
  exact ⟨by rw [List.length_append, List.length_cons]; omega, by rw [List.getD_eq_getElem?_getD, List.getElem?_append_right (Nat.le_refl _), Nat.sub_self]; rfl⟩
theorem bet_parts {t p t' p' : Int} {q3 q4 q5 : Bool} (h3 : decide (t < t') = q3) (h4 : (t == t') = q4) (h5 : decide (p < p') = q5) : betB t p t' p' = (q3 || (q4 && q5)) := by unfold betB; rw [h3, h4, h5]

set_option maxRecDepth 100000 in
set_option maxHeartbeats 16000000 in
theorem given_at (t : Tv) (me fr : Int) (N : List Nv) (n : Nat) (a : Option Addr) (cap : Nat) (w : World)
    (hn : Hid (n = N.length)) (ht : t.ok w) (hN : NsAt w a N) (hn2 : n ≤ maxLen) :
    Calls Try.prog 4 #[t.v, .int .i64 me, .slice a n cap, .int .i64 fr] w (Yes true w) := by
  obtain ⟨⟨U, G, A⟩, ua, nu, uc, ga, ng, gc, aa, na, ac⟩ := t
  obtain ⟨q1, hq1⟩ : ∃ q, fewB ⟨⟨U, G, A⟩, ua, nu, uc, ga, ng, gc, aa, na, ac⟩ = q := ⟨_, rfl⟩
  obtain ⟨q2, hq2⟩ : ∃ q, fewNB N = q := ⟨_, rfl⟩
  have HQ1 := Lib.hid hq1; have HQ2 := Lib.hid hq2
  clear hq1 hq2
  have bA : Below w.heap.size w (w.alloc (.cells #[.slice ua nu uc, .slice ga ng gc, .slice aa na ac] 26)) := ball (Below.refl _ _) _
  have HM : Hid (MH w.heap.size ⟨⟨U, G, A⟩, ua, nu, uc, ga, ng, gc, aa, na, ac⟩ N a (w.alloc (.cells #[.slice ua nu uc, .slice ga ng gc, .slice aa na ac] 26))) := Lib.hid ⟨CAt.new w [.slice ua nu uc, .slice ga ng gc, .slice aa na ac] 26, ht.keep bA, hN.keep bA⟩
  clear ht hN
  have hn3 : n ≤ 9223372036854775807 := hn2
  by_cases hf : fr < -1152921504606846976
  all_goals
    go_enter Try.func4, Try.ntmps4
    go_wp2_with fail
    refine (head_any _).mono ?_
    rintro e w1 ⟨rfl, b1⟩
    have H1 := HM.out.keep b1
    have B0 := bstep bA b1
    clear b1 bA HM
    have c0 := H1.c 0 _ rfl
    have c1 := H1.c 1 _ rfl
    have c2 := H1.c 2 _ rfl
  ·
    go_wp2_with fail
    go_ret
    exact ⟨rfl, B0⟩
  ·
    go_wp2_with fail
    refine (few_at ⟨⟨U, G, A⟩, ua, nu, uc, ga, ng, gc, aa, na, ac⟩ q1 _ HQ1.out).mono ?_
    rintro e w2 ⟨rfl, b2⟩
    replace H1 := H1.keep b2
    replace B0 := bstep B0 b2
    clear b2 c0 c1 c2
    cases q1
    ·
      go_wp2_with fail
      go_ret
      exact ⟨rfl, B0⟩
    ·
      go_wp2_with fail
      refine (fewnear_at N n a cap _ hn H1.n hn2 q2 HQ2).mono ?_
      rintro e w3 ⟨rfl, b2⟩
      replace H1 := H1.keep b2
      replace B0 := bstep B0 b2
      clear b2
      cases q2
      ·
        go_wp2_with fail
        go_ret
        exact ⟨rfl, B0⟩
      ·
        have W40 := Lib.hid (few_40 HQ1.out)
        have d0 := H1.c 0 _ rfl
        have d1 := H1.c 1 _ rfl
        have d2 := H1.c 2 _ rfl
        go_wp2_with fail
        clear d0 d1 d2
        refine (yield_at ⟨⟨U, G, A⟩, ua, nu, uc, ga, ng, gc, aa, na, ac⟩ me fr N n a cap _ (Lib.hid H1.o0) hn H1.n hn2 W40).mono ?_
        rintro e w4 ⟨⟨⟨RU, RG, RA⟩, rua, rnu, ruc, rga, rng, rgc, raa, rna, rac⟩, rfl, ok1, te1, b4⟩
        obtain ⟨hr1, hr2⟩ : rnu ≤ 1000 ∧ rng ≤ 1000 := yield_len H1.o0 ok1 te1 W40.out
        obtain ⟨ht1, ht2⟩ : nu ≤ 1000 ∧ ng ≤ 1000 := W40.out
        replace H1 := H1.keep b4
        replace B0 := bstep B0 b4
        clear b4
        have TE := Lib.hid te1
        clear te1
        go_upto_region 5 with (fail)
        have Tr := CAt.new w4 [.slice rua rnu ruc, .slice rga rng rgc, .slice raa rna rac] 26
        have bA : Below w4.heap.size w4 (w4.alloc (.cells #[.slice rua rnu ruc, .slice rga rng rgc, .slice raa rna rac] 26)) := ball (Below.refl _ _) _
        obtain ⟨p, hp⟩ : ∃ p, w4.heap.size = p := ⟨_, rfl⟩
        have H2 : MG w.heap.size ⟨⟨U, G, A⟩, ua, nu, uc, ga, ng, gc, aa, na, ac⟩ N a p ⟨⟨RU, RG, RA⟩, rua, rnu, ruc, rga, rng, rgc, raa, rna, rac⟩ (w4.alloc (.cells #[.slice rua rnu ruc, .slice rga rng rgc, .slice raa rna rac] 26)) := ⟨H1.c.keep bA, H1.o0.keep bA, H1.n.keep bA, by rw [← hp]; exact Tr, ok1.keep bA⟩
        obtain ⟨W5, hW5⟩ : ∃ W5, w4.alloc (.cells #[.slice rua rnu ruc, .slice rga rng rgc, .slice raa rna rac] 26) = W5 := ⟨_, rfl⟩
        rw [hW5] at H2 bA ⊢
        rw [hp] at ⊢
        replace B0 := bstep B0 bA
        clear hW5 bA Tr H1 ok1 hp
        have hun : Hid (nu = U.length) := Lib.hid H2.o0.un
        have hgn : Hid (ng = G.length) := Lib.hid H2.o0.gn
        have run : Hid (rnu = RU.length) := Lib.hid H2.o2.un
        have rgn : Hid (rng = RG.length) := Lib.hid H2.o2.gn
        have RUE : Hid (RU = U.filter (fun u => !lostB u me fr (nbs N))) := Lib.hid (congrArg Tb.U TE.out)
        have RGE : Hid (RG = G.filter (fun g => !voidB g fr (nbs N))) := Lib.hid (congrArg Tb.G TE.out)
        have RAE : Hid (RA = A) := Lib.hid (congrArg Tb.A TE.out)
        clear TE
        have e0 := H2.c 0 _ rfl
        go_wp2_with fail
        clear e0
        go_loopw [11, 52] (fun kk i wr => ∃ j m : Nat, j ≤ nu ∧ m ≤ j ∧ i = .int .i64 j ∧ kk = .int .i64 m ∧ Hid (m = ((U.take j).filter (fun u => !lostB u me fr (nbs N))).length) ∧ Below W5.heap.size W5 wr) (fun _ i _ => nu - (intOf i).toNat)
        case atStart => exact ⟨0, 0, Nat.zero_le _, Nat.le_refl _, rfl, rfl, Lib.hid rfl, Below.refl _ _⟩
        case round =>
          
          obtain ⟨j, m, hj, hmj, rfl, rfl, hml, BB⟩ := hrel
          by_cases hlt : j < nu
          ·
            as_aux_lemma =>
              have hlt' : (j : Int) < (nu : Int) := by omega
              have hj0 : (0 : Int) ≤ (j : Int) := by omega
              have hlen : j < U.length := by rw [← hun.out]; exact hlt
              obtain ⟨b, off, e1, c0, c1, c2, c3⟩ := H2.o0.u.us BB (i := j) hlen
              simp only at e1
              have hfs := filter_snoc (fun u => !lostB u me fr (nbs N)) hlen
              have hfa := filter_at (fun u => !lostB u me fr (nbs N)) hlen
              obtain ⟨x, hx⟩ : ∃ x, U.getD j default = x := ⟨_, rfl⟩
              simp only [hx] at c0 c1 c2 c3 hfs hfa
              subst e1
              have HFS := Lib.hid hfs
              have HFA := Lib.hid hfa
              clear hx hfs hfa hlen
              go_upto_region 9 with (fail)
              clear c0 c1 c2 c3
              have bs1 : W5.heap.size ≤ wr.heap.size := BB.size
              have Tu := CAt.new (wr) [.int .i64 x.s, .int .i64 x.o, .int .i64 x.p, .int .i64 x.t] 43
              replace BB := ball BB (.cells #[.int .i64 x.s, .int .i64 x.o, .int .i64 x.p, .int .i64 x.t] 43)
              obtain ⟨V1, hV1⟩ : ∃ V1, wr.alloc (.cells #[.int .i64 x.s, .int .i64 x.o, .int .i64 x.p, .int .i64 x.t] 43) = V1 := ⟨_, rfl⟩
              rw [hV1] at BB Tu ⊢
              clear hV1
              obtain ⟨k1, hk1⟩ : ∃ k1, wr.heap.size = k1 := ⟨_, rfl⟩
              rw [hk1] at Tu bs1 ⊢
              clear hk1
              have u0 := Tu 0 _ rfl
              have u1 := Tu 1 _ rfl
              have u2 := Tu 2 _ rfl
              have u3 := Tu 3 _ rfl
              go_wp2_with fail
              clear u0 u1 u2 u3
              have hp0 : Hid (p < W5.heap.size) := Lib.hid (World.block_lt_of_cell? W5 ⟨p, 0, none⟩ (H2.c2 0 _ rfl))
              go_loopw [14, 58] (fun bt i wr => ∃ (k : Nat) (z : Bool), k ≤ n ∧ i = .int .i64 k ∧ bt = .bool z ∧ Hid (z = (N.take k).any (lostN x me fr)) ∧ Below V1.heap.size V1 wr) (fun _ i _ => n - (intOf i).toNat)
              case atStart => exact ⟨0, false, Nat.zero_le _, rfl, rfl, Lib.hid rfl, Below.refl _ _⟩
              case round =>
                obtain ⟨k, z, hk, rfl, rfl, hz, B1⟩ := hrel
                by_cases hkt : k < n
                ·
                  as_aux_lemma =>
                    have hkt' : (k : Int) < (n : Int) := by omega
                    have hk0 : (0 : Int) ≤ (k : Int) := by omega
                    have BB1 := bstep BB B1
                    obtain ⟨b2, off2, e2, ho, hc⟩ := H2.n.at BB1 (i := k) (by rw [← hn.out]; exact hkt)
                    have hsucc := any_take_succ (lostN x me fr) (l := N) (k := k) (by rw [← hn.out]; exact hkt)
                    obtain ⟨v, hv⟩ : ∃ v, N.getD k default = v := ⟨_, rfl⟩
                    rw [hv] at hc ho hsucc
                    have HS := Lib.hid hsucc
                    have hom := ho.gm; have hoc := ho.gc
                    unfold maxLen at hom
                    clear hsucc hv
                    have hld := run_load61 (o := off2 + k * 31) v hc
                    clear hc
                    obtain ⟨V, hst, Tx, BV, -⟩ := run_new61 wr v
                    unfold Z61 at hst
                    rw [e2]
                    go_upto_region 13 with (fail)
                    clear hld hst
                    have HO := Lib.hid (ho.keep BV)
                    replace BB1 := bstep BB1 BV
                    replace B1 := bstep B1 BV
                    clear BV ho
                    obtain ⟨xb, hxb⟩ : ∃ xb, wr.heap.size = xb := ⟨_, rfl⟩
                    rw [hxb] at Tx ⊢
                    clear hxb
                    obtain ⟨ad, had⟩ : ∃ ad, v.ga = ad := ⟨_, rfl⟩
                    have HAD := Lib.hid had
                    have x13 := Tx 13 _ rfl
                    rw [had] at x13
                    clear had
                    go_wp2_with fail
                    clear x13
                    go_loopw [14, 66] (fun bt i wr => ∃ (l : Nat) (z2 : Bool), l ≤ v.ng ∧ i = .int .i64 l ∧ bt = .bool z2 ∧ Hid (z2 = (z || (latB v.B.f fr && (v.B.G.take l).any (lostG x me fr)))) ∧ Below V.heap.size V wr) (fun _ i _ => v.ng - (intOf i).toNat)
                    case atStart => exact ⟨0, z, Nat.zero_le _, rfl, rfl, Lib.hid (by simp), Below.refl _ _⟩
                    case round =>
                      obtain ⟨l, z2, hl, rfl, rfl, hz2, B2⟩ := hrel
                      by_cases hlt2 : l < v.ng
                      ·
                        as_aux_lemma =>
                          have hlt2' : (l : Int) < (v.ng : Int) := by omega
                          have hl0 : (0 : Int) ≤ (l : Int) := by omega
                          have hlen : l < v.B.G.length := by rw [← HO.out.gn]; exact hlt2
                          obtain ⟨b3, off3, e3, d0, d1, d2, d3, d4⟩ := HO.out.g.gr B2 (i := l) hlen
                          have hin := any_take_succ (lostG x me fr) hlen
                          obtain ⟨y, hy⟩ : ∃ y, v.B.G.getD l default = y := ⟨_, rfl⟩
                          simp only [hy] at d0 d1 d2 d3 d4 hin
                          have HI := Lib.hid hin
                          clear hy hin hlen
                          obtain rfl : ad = some ⟨b3, off3, none⟩ := HAD.out.symm.trans e3
                          clear e3
                          go_upto_region 16 with (fail)
                          clear d0 d1 d2 d3 d4
                          have B2a : Below wr.heap.size wr (wr.alloc (.cells #[.int .i64 y.s, .int .i64 y.o, .int .i64 y.p, .int .i64 y.t, .int .i64 y.u] 63)) := ball (Below.refl _ _) _
                          have Ty := CAt.new wr [.int .i64 y.s, .int .i64 y.o, .int .i64 y.p, .int .i64 y.t, .int .i64 y.u] 63
                          obtain ⟨V3, hV3⟩ : ∃ V3, wr.alloc (.cells #[.int .i64 y.s, .int .i64 y.o, .int .i64 y.p, .int .i64 y.t, .int .i64 y.u] 63) = V3 := ⟨_, rfl⟩
                          rw [hV3] at B2a Ty ⊢
                          clear hV3
                          obtain ⟨yb, hyb⟩ : ∃ yb, wr.heap.size = yb := ⟨_, rfl⟩
                          rw [hyb] at Ty ⊢
                          clear hyb
                          replace B2 := bstep B2 B2a
                          clear B2a
                          have Tx2 := Tx.keep B2
                          have Tu2 := Tu.keep (bstep B1 B2)
                          have x0 := Tx2 0 _ rfl
                          have y0 := Ty 0 _ rfl
                          have y1 := Ty 1 _ rfl
                          have y2 := Ty 2 _ rfl
                          have y3 := Ty 3 _ rfl
                          have y4 := Ty 4 _ rfl
                          have u0 := Tu2 0 _ rfl
                          have u1 := Tu2 1 _ rfl
                          have u2 := Tu2 2 _ rfl
                          have u3 := Tu2 3 _ rfl
                          clear Tx2 Tu2 Ty
                          obtain ⟨p1, h1⟩ : ∃ p1, (v.B.f == fr) = p1 := ⟨_, rfl⟩
                          obtain ⟨p2, h2⟩ : ∃ p2, (v.B.f == wrap64 (fr - 1)) = p2 := ⟨_, rfl⟩
                          have HL : Hid (latB v.B.f fr = (p1 || p2)) := Lib.hid (by unfold latB; rw [h1, h2])
                          obtain ⟨zc, hzc⟩ : ∃ zc, decide (y.s = x.s ∧ y.o = x.o) = zc := ⟨_, rfl⟩
                          have heq := eq_cell y.s y.o x.s x.o zc hzc
                          have HZC := Lib.hid hzc
                          clear hzc
                          obtain ⟨q1, hq1⟩ : ∃ q1, (y.p != me) = q1 := ⟨_, rfl⟩
                          obtain ⟨q2, hq2⟩ : ∃ q2, decide (fr ≤ y.u) = q2 := ⟨_, rfl⟩
                          obtain ⟨q3, hq3⟩ : ∃ q3, decide (y.t < x.t) = q3 := ⟨_, rfl⟩
                          obtain ⟨q4, hq4⟩ : ∃ q4, (y.t == x.t) = q4 := ⟨_, rfl⟩
                          obtain ⟨q5, hq5⟩ : ∃ q5, decide (y.p < me) = q5 := ⟨_, rfl⟩
                          have HE : Hid (lostG x me fr y = (zc && q1 && q2 && (q3 || (q4 && q5)))) := Lib.hid (lostG_parts HZC.out hq1 hq2 (bet_parts hq3 hq4 hq5))
                          cases z2
                          ·
                            as_aux_lemma =>
                              cases p1
                              ·
                                cases p2
                                ·
                                  go_wp2_with fail
                                  go_roundw
                                  case rel => exact ⟨l + 1, _, by omega, by go_num, rfl, Lib.hid (by rw [HI.out]; exact comb hz2.out (by rw [HL.out, HE.out]; rfl)), B2⟩
                                  case measure => simp [intOf]; omega
                                ·
                                  cases zc
                                  ·
                                    go_wp2_with fail
                                    go_roundw
                                    case rel => exact ⟨l + 1, _, by omega, by go_num, rfl, Lib.hid (by rw [HI.out]; exact comb hz2.out (by rw [HL.out, HE.out]; rfl)), B2⟩
                                    case measure => simp [intOf]; omega
                                  ·
                                    cases q1
                                    ·
                                      go_wp2_with fail
                                      go_roundw
                                      case rel => exact ⟨l + 1, _, by omega, by go_num, rfl, Lib.hid (by rw [HI.out]; exact comb hz2.out (by rw [HL.out, HE.out]; rfl)), B2⟩
                                      case measure => simp [intOf]; omega
                                    ·
                                      cases q2
                                      ·
                                        go_wp2_with fail
                                        go_roundw
                                        case rel => exact ⟨l + 1, _, by omega, by go_num, rfl, Lib.hid (by rw [HI.out]; exact comb hz2.out (by rw [HL.out, HE.out]; rfl)), B2⟩
                                        case measure => simp [intOf]; omega
                                      ·
                                        cases q3
                                        ·
                                          cases q4
                                          ·
                                            go_wp2_with fail
                                            go_roundw
                                            case rel => exact ⟨l + 1, _, by omega, by go_num, rfl, Lib.hid (by rw [HI.out]; exact comb hz2.out (by rw [HL.out, HE.out]; rfl)), B2⟩
                                            case measure => simp [intOf]; omega
                                          ·
                                            cases q5
                                            ·
                                              go_wp2_with fail
                                              go_roundw
                                              case rel => exact ⟨l + 1, _, by omega, by go_num, rfl, Lib.hid (by rw [HI.out]; exact comb hz2.out (by rw [HL.out, HE.out]; rfl)), B2⟩
                                              case measure => simp [intOf]; omega
                                            ·
                                              go_wp2_with fail
                                              go_roundw
                                              case rel => exact ⟨l + 1, _, by omega, by go_num, rfl, Lib.hid (by rw [HI.out]; exact comb hz2.out (by rw [HL.out, HE.out]; rfl)), B2⟩
                                              case measure => simp [intOf]; omega
                                        ·
                                          go_wp2_with fail
                                          go_roundw
                                          case rel => exact ⟨l + 1, _, by omega, by go_num, rfl, Lib.hid (by rw [HI.out]; exact comb hz2.out (by rw [HL.out, HE.out]; rfl)), B2⟩
                                          case measure => simp [intOf]; omega
                              ·
                                cases zc
                                ·
                                  go_wp2_with fail
                                  go_roundw
                                  case rel => exact ⟨l + 1, _, by omega, by go_num, rfl, Lib.hid (by rw [HI.out]; exact comb hz2.out (by rw [HL.out, HE.out]; rfl)), B2⟩
                                  case measure => simp [intOf]; omega
                                ·
                                  cases q1
                                  ·
                                    go_wp2_with fail
                                    go_roundw
                                    case rel => exact ⟨l + 1, _, by omega, by go_num, rfl, Lib.hid (by rw [HI.out]; exact comb hz2.out (by rw [HL.out, HE.out]; rfl)), B2⟩
                                    case measure => simp [intOf]; omega
                                  ·
                                    cases q2
                                    ·
                                      go_wp2_with fail
                                      go_roundw
                                      case rel => exact ⟨l + 1, _, by omega, by go_num, rfl, Lib.hid (by rw [HI.out]; exact comb hz2.out (by rw [HL.out, HE.out]; rfl)), B2⟩
                                      case measure => simp [intOf]; omega
                                    ·
                                      cases q3
                                      ·
                                        cases q4
                                        ·
                                          go_wp2_with fail
                                          go_roundw
                                          case rel => exact ⟨l + 1, _, by omega, by go_num, rfl, Lib.hid (by rw [HI.out]; exact comb hz2.out (by rw [HL.out, HE.out]; rfl)), B2⟩
                                          case measure => simp [intOf]; omega
                                        ·
                                          cases q5
                                          ·
                                            go_wp2_with fail
                                            go_roundw
                                            case rel => exact ⟨l + 1, _, by omega, by go_num, rfl, Lib.hid (by rw [HI.out]; exact comb hz2.out (by rw [HL.out, HE.out]; rfl)), B2⟩
                                            case measure => simp [intOf]; omega
                                          ·
                                            go_wp2_with fail
                                            go_roundw
                                            case rel => exact ⟨l + 1, _, by omega, by go_num, rfl, Lib.hid (by rw [HI.out]; exact comb hz2.out (by rw [HL.out, HE.out]; rfl)), B2⟩
                                            case measure => simp [intOf]; omega
                                      ·
                                        go_wp2_with fail
                                        go_roundw
                                        case rel => exact ⟨l + 1, _, by omega, by go_num, rfl, Lib.hid (by rw [HI.out]; exact comb hz2.out (by rw [HL.out, HE.out]; rfl)), B2⟩
                                        case measure => simp [intOf]; omega
                          ·
                            as_aux_lemma =>
                              cases p1
                              ·
                                go_wp2_with fail
                                go_roundw
                                case rel => exact ⟨l + 1, _, by omega, by go_num, rfl, Lib.hid (by rw [HI.out]; exact comb hz2.out (by rw [HL.out, HE.out]; rfl)), B2⟩
                                case measure => simp [intOf]; omega
                              ·
                                go_wp2_with fail
                                go_roundw
                                case rel => exact ⟨l + 1, _, by omega, by go_num, rfl, Lib.hid (by rw [HI.out]; exact comb hz2.out (by rw [HL.out, HE.out]; rfl)), B2⟩
                                case measure => simp [intOf]; omega
                      ·
                        obtain rfl : v.ng = l := by omega
                        have hlt2' : ¬ (v.ng : Int) < (v.ng : Int) := by omega
                        go_wp2_with fail
                        go_roundw
                        case rel => exact ⟨k + 1, z2, by omega, by go_num, rfl, Lib.hid (by
                          rw [HS.out, ← hz.out, hz2.out]; unfold lostN; rw [any_len HO.out.gn]), bstep B1 B2⟩
                        case measure => simp [intOf]; omega
                ·
                  obtain rfl : n = k := by omega
                  have hkt' : ¬ (n : Int) < (n : Int) := by omega
                  have hzy : Hid (lostB x me fr (nbs N) = z) := Lib.hid (by rw [lost_nbs, ← any_len hn.out]; exact hz.out.symm)
                  have BB1 := bstep BB B1
                  have Tu2 := Tu.keep B1
                  clear B1
                  cases z
                  ·
                    as_aux_lemma =>
                      have hfx : (fun u => !lostB u me fr (nbs N)) x = true := by simp [hzy.out]
                      obtain ⟨hm1, hm2⟩ := HFA.out hfx
                      rw [← hml.out, ← RUE.out] at hm1 hm2
                      rw [← run.out] at hm1
                      obtain ⟨b5, off5, e5, n0, n1, n2, n3⟩ := H2.o2.u.us BB1 (i := m) (by have := run.out; simp only; omega)
                      simp only at e5
                      simp only [hm2] at n0 n1 n2 n3
                      have f0 := (H2.c2.keep BB1) 0 _ rfl
                      rw [e5] at f0
                      have HFX : Hid (((U.take (j + 1)).filter (fun u => !lostB u me fr (nbs N))) = (U.take j).filter (fun u => !lostB u me fr (nbs N)) ++ [x]) := Lib.hid (by rw [HFS.out, if_pos hfx])
                      clear hfx hm2 e5
                      have hge : decide (rnu ≤ m) = false := by simp; omega
                      have hm0 : (0 : Int) ≤ (m : Int) := by omega
                      have hm3 : (m : Int) < (rnu : Int) := by omega
                      have hnex := ne_us x.s x.s x.o x.o x.p x.p x.t x.t true (by simp)
                      simp only [Bool.not_true] at hnex

                      have u0 := Tu2 0 _ rfl
                      have u1 := Tu2 1 _ rfl
                      have u2 := Tu2 2 _ rfl
                      have u3 := Tu2 3 _ rfl
                      have g0 := hzy
                      go_upto_region 21 with (fail)
                      go_quiet (fail)
                      clear n0 n1 n2 n3 u0 u1 u2 u3 f0
                      go_wp2_with fail
                      go_roundw
                      case rel => exact ⟨j + 1, m + 1, by omega, by omega, by go_num, by go_num, Lib.hid (by rw [HFX.out, List.length_append, ← hml.out]; rfl), bstep BB1 (bdN _ _)⟩
                      case measure => simp [intOf]; omega
                  ·
                    go_wp2_with fail
                    go_roundw
                    case rel => exact ⟨j + 1, m, by omega, by omega, by go_num, rfl, Lib.hid (by rw [HFS.out, if_neg (by simp [hzy.out]), List.append_nil]; exact hml.out), BB1⟩
                    case measure => simp [intOf]; omega
          ·
            as_aux_lemma =>
              obtain rfl : nu = j := by omega
              have hlt' : ¬ (nu : Int) < (nu : Int) := by omega
              have hmr : Hid (m = rnu) := Lib.hid (by rw [run.out, RUE.out, hml.out, hun.out, List.take_length])
              have e1 := (H2.c.keep BB) 1 _ rfl
              go_wp2_with fail
              clear e1
              obtain ⟨m1, hm1⟩ : ∃ m1, m1 = m := ⟨_, rfl⟩
              subst hm1
              go_loopw [20, 147] (fun kk i wr => ∃ j m : Nat, j ≤ ng ∧ m ≤ j ∧ i = .int .i64 j ∧ kk = .int .i64 m ∧ Hid (m = ((G.take j).filter (fun g => !voidB g fr (nbs N))).length) ∧ Below W5.heap.size W5 wr) (fun _ i _ => ng - (intOf i).toNat)
              case atStart => exact ⟨0, 0, Nat.zero_le _, Nat.le_refl _, rfl, rfl, Lib.hid rfl, BB⟩
              case round =>
                clear BB
                obtain ⟨j, m, hj, hmj, rfl, rfl, hml, BB⟩ := hrel
                by_cases hlt : j < ng
                ·
                  as_aux_lemma =>
                    have hlt' : (j : Int) < (ng : Int) := by omega
                    have hj0 : (0 : Int) ≤ (j : Int) := by omega
                    have hlen : j < G.length := by rw [← hgn.out]; exact hlt
                    obtain ⟨b, off, e1, c0, c1, c2, c3, c4⟩ := H2.o0.g.gr BB (i := j) hlen
                    simp only at e1
                    have hfs := filter_snoc (fun g => !voidB g fr (nbs N)) hlen
                    have hfa := filter_at (fun g => !voidB g fr (nbs N)) hlen
                    obtain ⟨x, hx⟩ : ∃ x, G.getD j default = x := ⟨_, rfl⟩
                    simp only [hx] at c0 c1 c2 c3 c4 hfs hfa
                    subst e1
                    have HFS := Lib.hid hfs
                    have HFA := Lib.hid hfa
                    clear hx hfs hfa hlen
                    go_upto_region 29 with (fail)
                    clear c0 c1 c2 c3 c4
                    have bs1 : W5.heap.size ≤ wr.heap.size := BB.size
                    have Tu := CAt.new (wr) [.int .i64 x.s, .int .i64 x.o, .int .i64 x.p, .int .i64 x.t, .int .i64 x.u] 63
                    replace BB := ball BB (.cells #[.int .i64 x.s, .int .i64 x.o, .int .i64 x.p, .int .i64 x.t, .int .i64 x.u] 63)
                    obtain ⟨V1, hV1⟩ : ∃ V1, wr.alloc (.cells #[.int .i64 x.s, .int .i64 x.o, .int .i64 x.p, .int .i64 x.t, .int .i64 x.u] 63) = V1 := ⟨_, rfl⟩
                    rw [hV1] at BB Tu ⊢
                    clear hV1
                    obtain ⟨k1, hk1⟩ : ∃ k1, wr.heap.size = k1 := ⟨_, rfl⟩
                    rw [hk1] at Tu bs1 ⊢
                    clear hk1
                    have u0 := Tu 0 _ rfl
                    have u1 := Tu 1 _ rfl
                    have u2 := Tu 2 _ rfl
                    have u3 := Tu 3 _ rfl
                    have u4 := Tu 4 _ rfl
                    go_wp2_with fail
                    clear u0 u1 u2 u3 u4
                    have hp0 : Hid (p < W5.heap.size) := Lib.hid (World.block_lt_of_cell? W5 ⟨p, 0, none⟩ (H2.c2 0 _ rfl))
                    go_loopw [23, 153] (fun bt i wr => ∃ (k : Nat) (z : Bool), k ≤ n ∧ i = .int .i64 k ∧ bt = .bool z ∧ Hid (z = (N.take k).any (voidN x fr)) ∧ Below V1.heap.size V1 wr) (fun _ i _ => n - (intOf i).toNat)
                    case atStart => exact ⟨0, false, Nat.zero_le _, rfl, rfl, Lib.hid rfl, Below.refl _ _⟩
                    case round =>
                      obtain ⟨k, z, hk, rfl, rfl, hz, B1⟩ := hrel
                      by_cases hkt : k < n
                      ·
                        as_aux_lemma =>
                          have hkt' : (k : Int) < (n : Int) := by omega
                          have hk0 : (0 : Int) ≤ (k : Int) := by omega
                          have BB1 := bstep BB B1
                          obtain ⟨b2, off2, e2, ho, hc⟩ := H2.n.at BB1 (i := k) (by rw [← hn.out]; exact hkt)
                          have hsucc := any_take_succ (voidN x fr) (l := N) (k := k) (by rw [← hn.out]; exact hkt)
                          obtain ⟨v, hv⟩ : ∃ v, N.getD k default = v := ⟨_, rfl⟩
                          rw [hv] at hc ho hsucc
                          have HS := Lib.hid hsucc
                          have hom := ho.um; have hoc := ho.uc
                          unfold maxLen at hom
                          clear hsucc hv
                          have hld := run_load61 (o := off2 + k * 31) v hc
                          clear hc
                          obtain ⟨V, hst, Tx, BV, -⟩ := run_new61 wr v
                          unfold Z61 at hst
                          rw [e2]
                          go_upto_region 33 with (fail)
                          clear hld hst
                          have HO := Lib.hid (ho.keep BV)
                          replace BB1 := bstep BB1 BV
                          replace B1 := bstep B1 BV
                          clear BV ho
                          obtain ⟨xb, hxb⟩ : ∃ xb, wr.heap.size = xb := ⟨_, rfl⟩
                          rw [hxb] at Tx ⊢
                          clear hxb
                          obtain ⟨ad, had⟩ : ∃ ad, v.ua = ad := ⟨_, rfl⟩
                          have HAD := Lib.hid had
                          have x13 := Tx 12 _ rfl
                          rw [had] at x13
                          clear had
                          go_wp2_with fail
                          clear x13
                          go_loopw [23, 161] (fun bt i wr => ∃ (l : Nat) (z2 : Bool), l ≤ v.nu ∧ i = .int .i64 l ∧ bt = .bool z2 ∧ Hid (z2 = (z || (latB v.B.f fr && (v.B.U.take l).any (voidU x v.B.h)))) ∧ Below V.heap.size V wr) (fun _ i _ => v.nu - (intOf i).toNat)
                          case atStart => exact ⟨0, z, Nat.zero_le _, rfl, rfl, Lib.hid (by simp), Below.refl _ _⟩
                          case round =>
                            obtain ⟨l, z2, hl, rfl, rfl, hz2, B2⟩ := hrel
                            by_cases hlt2 : l < v.nu
                            ·
                              as_aux_lemma =>
                                have hlt2' : (l : Int) < (v.nu : Int) := by omega
                                have hl0 : (0 : Int) ≤ (l : Int) := by omega
                                have hlen : l < v.B.U.length := by rw [← HO.out.un]; exact hlt2
                                obtain ⟨b3, off3, e3, d0, d1, d2, d3⟩ := HO.out.u.us B2 (i := l) hlen
                                have hin := any_take_succ (voidU x v.B.h) hlen
                                obtain ⟨y, hy⟩ : ∃ y, v.B.U.getD l default = y := ⟨_, rfl⟩
                                simp only [hy] at d0 d1 d2 d3 hin
                                have HI := Lib.hid hin
                                clear hy hin hlen
                                obtain rfl : ad = some ⟨b3, off3, none⟩ := HAD.out.symm.trans e3
                                clear e3
                                go_upto_region 36 with (fail)
                                clear d0 d1 d2 d3
                                have B2a : Below wr.heap.size wr (wr.alloc (.cells #[.int .i64 y.s, .int .i64 y.o, .int .i64 y.p, .int .i64 y.t] 43)) := ball (Below.refl _ _) _
                                have Ty := CAt.new wr [.int .i64 y.s, .int .i64 y.o, .int .i64 y.p, .int .i64 y.t] 43
                                obtain ⟨V3, hV3⟩ : ∃ V3, wr.alloc (.cells #[.int .i64 y.s, .int .i64 y.o, .int .i64 y.p, .int .i64 y.t] 43) = V3 := ⟨_, rfl⟩
                                rw [hV3] at B2a Ty ⊢
                                clear hV3
                                obtain ⟨yb, hyb⟩ : ∃ yb, wr.heap.size = yb := ⟨_, rfl⟩
                                rw [hyb] at Ty ⊢
                                clear hyb
                                replace B2 := bstep B2 B2a
                                clear B2a
                                have Tx2 := Tx.keep B2
                                have Tu2 := Tu.keep (bstep B1 B2)
                                have x0 := Tx2 0 _ rfl
                                have x1 := Tx2 1 _ rfl
                                have y0 := Ty 0 _ rfl
                                have y1 := Ty 1 _ rfl
                                have y2 := Ty 2 _ rfl
                                have y3 := Ty 3 _ rfl
                                have u0 := Tu2 0 _ rfl
                                have u1 := Tu2 1 _ rfl
                                have u2 := Tu2 2 _ rfl
                                have u3 := Tu2 3 _ rfl
                                have u4 := Tu2 4 _ rfl
                                clear Tx2 Tu2 Ty
                                obtain ⟨p1, h1⟩ : ∃ p1, (v.B.f == fr) = p1 := ⟨_, rfl⟩
                                obtain ⟨p2, h2⟩ : ∃ p2, (v.B.f == wrap64 (fr - 1)) = p2 := ⟨_, rfl⟩
                                have HL : Hid (latB v.B.f fr = (p1 || p2)) := Lib.hid (by unfold latB; rw [h1, h2])
                                obtain ⟨zc, hzc⟩ : ∃ zc, decide (y.s = x.s ∧ y.o = x.o) = zc := ⟨_, rfl⟩
                                have heq := eq_cell y.s y.o x.s x.o zc hzc
                                have HZC := Lib.hid hzc
                                clear hzc
                                obtain ⟨q1, hq1⟩ : ∃ q1, (v.B.h != x.p) = q1 := ⟨_, rfl⟩
                                obtain ⟨q3, hq3⟩ : ∃ q3, decide (y.t < x.t) = q3 := ⟨_, rfl⟩
                                obtain ⟨q4, hq4⟩ : ∃ q4, (y.t == x.t) = q4 := ⟨_, rfl⟩
                                obtain ⟨q5, hq5⟩ : ∃ q5, decide (v.B.h < x.p) = q5 := ⟨_, rfl⟩
                                have HE : Hid (voidU x v.B.h y = (zc && q1 && (q3 || (q4 && q5)))) := Lib.hid (voidU_parts HZC.out hq1 (bet_parts hq3 hq4 hq5))
                                cases z2
                                ·
                                  as_aux_lemma =>
                                    cases p1
                                    ·
                                      cases p2
                                      ·
                                        go_wp2_with fail
                                        go_roundw
                                        case rel => exact ⟨l + 1, _, by omega, by go_num, rfl, Lib.hid (by rw [HI.out]; exact comb hz2.out (by rw [HL.out, HE.out]; rfl)), B2⟩
                                        case measure => simp [intOf]; omega
                                      ·
                                        cases zc
                                        ·
                                          go_wp2_with fail
                                          go_roundw
                                          case rel => exact ⟨l + 1, _, by omega, by go_num, rfl, Lib.hid (by rw [HI.out]; exact comb hz2.out (by rw [HL.out, HE.out]; rfl)), B2⟩
                                          case measure => simp [intOf]; omega
                                        ·
                                          cases q1
                                          ·
                                            go_wp2_with fail
                                            go_roundw
                                            case rel => exact ⟨l + 1, _, by omega, by go_num, rfl, Lib.hid (by rw [HI.out]; exact comb hz2.out (by rw [HL.out, HE.out]; rfl)), B2⟩
                                            case measure => simp [intOf]; omega
                                          ·
                                            cases q3
                                            ·
                                              cases q4
                                              ·
                                                go_wp2_with fail
                                                go_roundw
                                                case rel => exact ⟨l + 1, _, by omega, by go_num, rfl, Lib.hid (by rw [HI.out]; exact comb hz2.out (by rw [HL.out, HE.out]; rfl)), B2⟩
                                                case measure => simp [intOf]; omega
                                              ·
                                                cases q5
                                                ·
                                                  go_wp2_with fail
                                                  go_roundw
                                                  case rel => exact ⟨l + 1, _, by omega, by go_num, rfl, Lib.hid (by rw [HI.out]; exact comb hz2.out (by rw [HL.out, HE.out]; rfl)), B2⟩
                                                  case measure => simp [intOf]; omega
                                                ·
                                                  go_wp2_with fail
                                                  go_roundw
                                                  case rel => exact ⟨l + 1, _, by omega, by go_num, rfl, Lib.hid (by rw [HI.out]; exact comb hz2.out (by rw [HL.out, HE.out]; rfl)), B2⟩
                                                  case measure => simp [intOf]; omega
                                            ·
                                              go_wp2_with fail
                                              go_roundw
                                              case rel => exact ⟨l + 1, _, by omega, by go_num, rfl, Lib.hid (by rw [HI.out]; exact comb hz2.out (by rw [HL.out, HE.out]; rfl)), B2⟩
                                              case measure => simp [intOf]; omega
                                    ·
                                      cases zc
                                      ·
                                        go_wp2_with fail
                                        go_roundw
                                        case rel => exact ⟨l + 1, _, by omega, by go_num, rfl, Lib.hid (by rw [HI.out]; exact comb hz2.out (by rw [HL.out, HE.out]; rfl)), B2⟩
                                        case measure => simp [intOf]; omega
                                      ·
                                        cases q1
                                        ·
                                          go_wp2_with fail
                                          go_roundw
                                          case rel => exact ⟨l + 1, _, by omega, by go_num, rfl, Lib.hid (by rw [HI.out]; exact comb hz2.out (by rw [HL.out, HE.out]; rfl)), B2⟩
                                          case measure => simp [intOf]; omega
                                        ·
                                          cases q3
                                          ·
                                            cases q4
                                            ·
                                              go_wp2_with fail
                                              go_roundw
                                              case rel => exact ⟨l + 1, _, by omega, by go_num, rfl, Lib.hid (by rw [HI.out]; exact comb hz2.out (by rw [HL.out, HE.out]; rfl)), B2⟩
                                              case measure => simp [intOf]; omega
                                            ·
                                              cases q5
                                              ·
                                                go_wp2_with fail
                                                go_roundw
                                                case rel => exact ⟨l + 1, _, by omega, by go_num, rfl, Lib.hid (by rw [HI.out]; exact comb hz2.out (by rw [HL.out, HE.out]; rfl)), B2⟩
                                                case measure => simp [intOf]; omega
                                              ·
                                                go_wp2_with fail
                                                go_roundw
                                                case rel => exact ⟨l + 1, _, by omega, by go_num, rfl, Lib.hid (by rw [HI.out]; exact comb hz2.out (by rw [HL.out, HE.out]; rfl)), B2⟩
                                                case measure => simp [intOf]; omega
                                          ·
                                            go_wp2_with fail
                                            go_roundw
                                            case rel => exact ⟨l + 1, _, by omega, by go_num, rfl, Lib.hid (by rw [HI.out]; exact comb hz2.out (by rw [HL.out, HE.out]; rfl)), B2⟩
                                            case measure => simp [intOf]; omega
                                ·
                                  as_aux_lemma =>
                                    cases p1
                                    ·
                                      go_wp2_with fail
                                      go_roundw
                                      case rel => exact ⟨l + 1, _, by omega, by go_num, rfl, Lib.hid (by rw [HI.out]; exact comb hz2.out (by rw [HL.out, HE.out]; rfl)), B2⟩
                                      case measure => simp [intOf]; omega
                                    ·
                                      go_wp2_with fail
                                      go_roundw
                                      case rel => exact ⟨l + 1, _, by omega, by go_num, rfl, Lib.hid (by rw [HI.out]; exact comb hz2.out (by rw [HL.out, HE.out]; rfl)), B2⟩
                                      case measure => simp [intOf]; omega
                            ·
                              obtain rfl : v.nu = l := by omega
                              have hlt2' : ¬ (v.nu : Int) < (v.nu : Int) := by omega
                              go_wp2_with fail
                              go_roundw
                              case rel => exact ⟨k + 1, z2, by omega, by go_num, rfl, Lib.hid (by
                                rw [HS.out, ← hz.out, hz2.out]; unfold voidN; rw [any_len HO.out.un]), bstep B1 B2⟩
                              case measure => simp [intOf]; omega
                      ·
                        obtain rfl : n = k := by omega
                        have hkt' : ¬ (n : Int) < (n : Int) := by omega
                        have hzy : Hid (voidB x fr (nbs N) = z) := Lib.hid (by rw [void_nbs, ← any_len hn.out]; exact hz.out.symm)
                        have BB1 := bstep BB B1
                        have Tu2 := Tu.keep B1
                        clear B1
                        cases z
                        ·
                          as_aux_lemma =>
                            have hfx : (fun g => !voidB g fr (nbs N)) x = true := by simp [hzy.out]
                            obtain ⟨hm1, hm2⟩ := HFA.out hfx
                            rw [← hml.out, ← RGE.out] at hm1 hm2
                            rw [← rgn.out] at hm1
                            obtain ⟨b5, off5, e5, n0, n1, n2, n3, n4⟩ := H2.o2.g.gr BB1 (i := m) (by have := rgn.out; simp only; omega)
                            simp only at e5
                            simp only [hm2] at n0 n1 n2 n3 n4
                            have f0 := (H2.c2.keep BB1) 1 _ rfl
                            rw [e5] at f0
                            have HFX : Hid (((G.take (j + 1)).filter (fun g => !voidB g fr (nbs N))) = (G.take j).filter (fun g => !voidB g fr (nbs N)) ++ [x]) := Lib.hid (by rw [HFS.out, if_pos hfx])
                            clear hfx hm2 e5
                            have hge : decide (rng ≤ m) = false := by simp; omega
                            have hm0 : (0 : Int) ≤ (m : Int) := by omega
                            have hm3 : (m : Int) < (rng : Int) := by omega
                            have hnex := ne_gr x.s x.s x.o x.o x.p x.p x.t x.t x.u x.u true (by simp)
                            simp only [Bool.not_true] at hnex

                            have u0 := Tu2 0 _ rfl
                            have u1 := Tu2 1 _ rfl
                            have u2 := Tu2 2 _ rfl
                            have u3 := Tu2 3 _ rfl
                            have u4 := Tu2 4 _ rfl
                            have g0 := hzy
                            go_upto_region 41 with (fail)
                            go_quiet (fail)
                            clear n0 n1 n2 n3 n4 u0 u1 u2 u3 u4 f0
                            go_wp2_with fail
                            go_roundw
                            case rel => exact ⟨j + 1, m + 1, by omega, by omega, by go_num, by go_num, Lib.hid (by rw [HFX.out, List.length_append, ← hml.out]; rfl), bstep BB1 (bdN _ _)⟩
                            case measure => simp [intOf]; omega
                        ·
                          go_wp2_with fail
                          go_roundw
                          case rel => exact ⟨j + 1, m, by omega, by omega, by go_num, rfl, Lib.hid (by rw [HFS.out, if_neg (by simp [hzy.out]), List.append_nil]; exact hml.out), BB1⟩
                          case measure => simp [intOf]; omega
                ·
                  obtain rfl : ng = j := by omega
                  have hlt' : ¬ (ng : Int) < (ng : Int) := by omega
                  have hmr2 : Hid (m = rng) := Lib.hid (by rw [rgn.out, RGE.out, hml.out, hgn.out, List.take_length])
                  obtain rfl : m1 = rnu := hmr.out
                  obtain rfl : m = rng := hmr2.out
                  have f0 := (H2.c2.keep BB) 0 _ rfl
                  have f1 := (H2.c2.keep BB) 1 _ rfl
                  have f2 := (H2.c2.keep BB) 2 _ rfl
                  have g2 := (H2.c.keep BB) 2 _ rfl
                  have hc1 : ((m1 : Int) == (m1 : Int)) = true := by simp
                  have hc2 : ((m : Int) == (m : Int)) = true := by simp
                  go_wp2_with fail
                  obtain ⟨W6, hW6⟩ : ∃ W6, wr.alloc (.cells #[.slice none 0 0, .slice none 0 0, .slice raa rna rac] 26) = W6 := ⟨_, rfl⟩
                  have b6 : Below wr.heap.size wr (wr.alloc (.cells #[.slice none 0 0, .slice none 0 0, .slice raa rna rac] 26)) := ball (Below.refl _ _) _
                  rw [hW6] at b6 ⊢
                  have H3 := H2.keep (bstep BB b6)
                  refine (same_at ⟨⟨[], [], RA⟩, none, 0, 0, none, 0, 0, raa, rna, rac⟩ ⟨⟨[], [], A⟩, none, 0, 0, none, 0, 0, aa, na, ac⟩ _ ⟨.inl rfl, .inl rfl, H3.o2.a, rfl, rfl, H3.o2.an, Nat.le_refl _, Nat.le_refl _, H3.o2.ac, Nat.zero_le _, Nat.zero_le _, H3.o2.am, by simp, by simp⟩ ⟨.inl rfl, .inl rfl, H3.o0.a, rfl, rfl, H3.o0.an, Nat.le_refl _, Nat.le_refl _, H3.o0.ac, Nat.zero_le _, Nat.zero_le _, H3.o0.am, by simp, by simp⟩ true (same_eq (by rw [RAE.out]))).mono ?_
                  rintro e w9 ⟨rfl, b9⟩
                  go_wp2_with fail
                  go_ret
                  exact ⟨rfl, bstep (bstep (bstep B0 BB) b6) b9⟩
end Go.Proofs.Ytleenbfldkmcaaa
