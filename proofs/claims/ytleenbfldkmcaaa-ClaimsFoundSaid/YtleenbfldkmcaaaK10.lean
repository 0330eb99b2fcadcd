/- Proved: what the enumeration of claims that neighbours have told does with a round that says when it has enough. Conditions: what was heard lies in memory, and the rounds leave it there. -/
import Derived.Test.YtleenbfldkmcaaaK9
namespace Go.Proofs.Ytleenbfldkmcaaa
open Go.RowKit Go.Sort Go.BigFrame
set_option linter.unusedVariables false
set_option linter.unusedSimpArgs false
attribute [local go_sem] cell_alloc_old

attribute [local go_sem] Oper.semAt_some
attribute [local go_sem ↓] exec_load61 exec_load59 exec_store61 exec_store59
/-- What lies at B or above is as it was. -/
structure Above (B : Nat) (W W' : World) : Prop where
  size : W.heap.size ≤ W'.heap.size
  blk : ∀ i, B ≤ i → i < W.heap.size → W'.heap[i]? = W.heap[i]?
theorem Above.heap {B : Nat} {W W' : World} (h : Above B W W') {i : Nat} {o : Obj} (hB : B ≤ i) (hi : W.heap[i]? = some o) : W'.heap[i]? = some o := (h.blk i hB (Array.getElem?_eq_some_iff.1 hi).1).trans hi
theorem Above.cell {B : Nat} {W W' : World} (h : Above B W W') {a : Addr} {v : Value} (hB : B ≤ a.block) (hi : W.cell? a = some v) : W'.cell? a = some v :=
  (World.cell?_of_block (w := W) (h.blk a.block hB (World.block_lt_of_cell? W a hi))).trans hi
theorem Above.cat {B : Nat} {W W' : World} (h : Above B W W') {k : Nat} {cs : List Value} (hB : B ≤ k) (hc : CAt W k cs) : CAt W' k cs := fun j v hj => h.cell hB (hc j v hj)
/-- What a call of the enumeration has laid: the round that it calls, what it ranges over, its record. -/
structure Pre (b5 n2 f2 D L l : Nat) (a : Option Addr) (n cap : Nat) (fr : Int) (r : Obj) (X : World) : Prop where
  fy : X.cell? ⟨b5, 0, none⟩ = some (.func (.yield l) #[] #[])
  nn : X.cell? ⟨n2, 0, none⟩ = some (.slice a n cap)
  ff : X.cell? ⟨f2, 0, none⟩ = some (.int .i64 fr)
  d : X.heap[D]? = some (.deferred (some []))
  lo : X.heap[L]? = some r
section
variable {b5 n2 f2 D L l B : Nat} {a : Option Addr} {n cap : Nat} {fr : Int} {r : Obj} {X X' : World}
theorem Pre.above (h : Pre b5 n2 f2 D L l a n cap fr r X) (hA : Above B X X') (h2 : B ≤ b5) (h3 : B ≤ n2) (h4 : B ≤ f2) (h5 : B ≤ D) (h6 : B ≤ L) :
    Pre b5 n2 f2 D L l a n cap fr r X' := ⟨hA.cell h2 h.fy, hA.cell h3 h.nn, hA.cell h4 h.ff, hA.heap h5 h.d, hA.heap h6 h.lo⟩
theorem Pre.below (h : Pre b5 n2 f2 D L l a n cap fr r X) (hb : Below B X X') (h2 : b5 < B) (h3 : n2 < B) (h4 : f2 < B) (h5 : D < B) (h6 : L < B) :
    Pre b5 n2 f2 D L l a n cap fr r X' := ⟨(hb.cell (p := ⟨b5, 0, none⟩) h2).trans h.fy, (hb.cell (p := ⟨n2, 0, none⟩) h3).trans h.nn, (hb.cell (p := ⟨f2, 0, none⟩) h4).trans h.ff, (hb.block D h5).trans h.d, (hb.block L h6).trans h.lo⟩
theorem Pre.keep (h : Pre b5 n2 f2 D L l a n cap fr r X) (hb : Below X.heap.size X X') : Pre b5 n2 f2 D L l a n cap fr r X' :=
  ⟨keep1 hb h.fy, keep1 hb h.nn, keep1 hb h.ff, (hb.block D (Array.getElem?_eq_some_iff.1 h.d).1).trans h.d, (hb.block L (Array.getElem?_eq_some_iff.1 h.lo).1).trans h.lo⟩
theorem Pre.turn (h : Pre b5 n2 f2 D L l a n cap fr r X) (r' : Obj) (h2 : b5 ≠ L) (h3 : n2 ≠ L) (h4 : f2 ≠ L) (h5 : D ≠ L) : Pre b5 n2 f2 D L l a n cap fr r' (X.putObj L r') :=
  ⟨(putObj_cell (a := ⟨b5, 0, none⟩) h2).trans h.fy, (putObj_cell (a := ⟨n2, 0, none⟩) h3).trans h.nn, (putObj_cell (a := ⟨f2, 0, none⟩) h4).trans h.ff, (World.putObj_heap_other h5).trans h.d, World.putObj_heap_same (Array.getElem?_eq_some_iff.1 h.lo).1⟩
end
/-- Which beacons hold a bad claim. -/
def badN (gr : Bool) (cs co fr : Int) (bad : Int → Int → Bool) (x : Nv) : Bool :=
  if gr = true then x.B.G.any (fun g => decide (g.s = cs ∧ g.o = co) && decide (fr ≤ g.u) && bad g.t g.p) else x.B.U.any (fun u => decide (u.s = cs ∧ u.o = co) && bad u.t x.B.h)
/-- What the enumeration needs of the worlds in which it runs. -/
structure Nds (bn bf bg bc : Nat) (gr : Bool) (cs co fr : Int) (a : Option Addr) (n cap : Nat) (N : List Nv) (W : World) : Prop where
  nn : W.cell? ⟨bn, 0, none⟩ = some (.slice a n cap)
  ff : W.cell? ⟨bf, 0, none⟩ = some (.int .i64 fr)
  gg : W.cell? ⟨bg, 0, none⟩ = some (.bool gr)
  c0 : W.cell? ⟨bc, 0, none⟩ = some (.int .i64 cs)
  c1 : W.cell? ⟨bc, 1, none⟩ = some (.int .i64 co)
  ns : NsAt W a N

set_option maxRecDepth 100000 in
set_option maxHeartbeats 16000000 in
theorem told_true (m l bn bf bg bc B : Nat) (cs co fr : Int) (N : List Nv) (n : Nat) (a : Option Addr) (cap : Nat) (hn : Hid (n = N.length)) (hm : n ≤ maxLen) (J Jx : World → Prop) (bad : Int → Int → Bool) (hJ : Hid (Stb B J)) (hJx : Hid (∀ X X', Jx X → Below B X X' → Jx X'))
    (hM : Hid (∀ W, J W → Nds bn bf bg bc true cs co fr a n cap N W))
    (hY : Hid (∀ t q W, J W → YieldAt Fence.wide m Try.prog l #[clv t q] W fun e W' => (bad t q = true ∧ e = .returned (.bool false) ∧ Jx W' ∧ Above B W W') ∨ (bad t q = false ∧ e = .returned (.bool true) ∧ J W' ∧ Above B W W')))
    (W : World) (hW : Hid (J W)) :
    CallsIn Fence.wide (m + 3) Try.prog 31 #[.func (.yield l) #[] #[], .pointer (some ⟨bn, 0, none⟩), .pointer (some ⟨bf, 0, none⟩), .pointer (some ⟨bg, 0, none⟩), .pointer (some ⟨bc, 0, none⟩)] W (LatePost fr N (badN true cs co fr bad) J Jx) := by
  refine callsIn_of_wp_marks Try.func31 rfl trivial ?_ rfl
  simp only [Try.ntmps31, List.size_toArray, List.length_cons, List.length_nil, Nat.reduceAdd, Nat.reduceSub, Array.replicate_succ, Array.replicate_zero, List.push_toArray, List.append_toArray, List.nil_append, List.cons_append]
  have c1 := (hM.out W hW.out).nn
  have c2 := (hM.out W hW.out).ff
  have hBW := hJ.out.size W hW.out
  gi_wp2_with fail
  refine ⟨trivial, ?_⟩
  refine (callsIn_wide.2 (lately_any a n cap fr _)).mono ?_
  rintro e w1 ⟨rfl, rfl⟩
  clear c1 c2
  gi_wp2_with fail
  have q5 : (((W.alloc (.cells #[.func (.yield l) #[] #[]] 91)).alloc (.cells #[.slice a n cap] 27)).alloc (.cells #[.int .i64 fr] 3)).cell? ⟨W.heap.size, 0, none⟩ = some (.func (.yield l) #[] #[]) := old2 (new0 rfl rfl) _ _
  have qn : (((W.alloc (.cells #[.func (.yield l) #[] #[]] 91)).alloc (.cells #[.slice a n cap] 27)).alloc (.cells #[.int .i64 fr] 3)).cell? ⟨W.heap.size + 1, 0, none⟩ = some (.slice a n cap) := old1 (new0 (by simp) rfl) _
  have qf : (((W.alloc (.cells #[.func (.yield l) #[] #[]] 91)).alloc (.cells #[.slice a n cap] 27)).alloc (.cells #[.int .i64 fr] 3)).cell? ⟨W.heap.size + 2, 0, none⟩ = some (.int .i64 fr) := new0 (by simp) rfl
  have BV : Below W.heap.size W (((W.alloc (.cells #[.func (.yield l) #[] #[]] 91)).alloc (.cells #[.slice a n cap] 27)).alloc (.cells #[.int .i64 fr] 3)) := ball (ball (ball (Below.refl _ _) _) _) _
  have z0 : (((W.alloc (.cells #[.func (.yield l) #[] #[]] 91)).alloc (.cells #[.slice a n cap] 27)).alloc (.cells #[.int .i64 fr] 3)).heap.size = W.heap.size + 3 := by simp
  obtain ⟨V, hV⟩ : ∃ V, V = ((W.alloc (.cells #[.func (.yield l) #[] #[]] 91)).alloc (.cells #[.slice a n cap] 27)).alloc (.cells #[.int .i64 fr] 3) := ⟨_, rfl⟩
  rw [← hV] at q5 qn qf BV z0
  simp only [World.size_alloc, Nat.add_assoc, Nat.reduceAdd]
  rw [← hV]
  clear hV
  have JV := hJ.out.keep W V hW.out (BV.mono hBW)
  obtain ⟨b5, hb5⟩ : ∃ b5, W.heap.size = b5 := ⟨_, rfl⟩
  rw [hb5] at q5 qn qf z0 hBW ⊢
  clear BV hb5
  refine range_plain (gf := 35) (lb := #[.pointer (some ⟨b5 + 1, 0, none⟩), .pointer (some ⟨b5 + 2, 0, none⟩)]) rfl (enters_of Try.func35 (by kernel_rfl) rfl) ?_
  intro fn V1 rec hrec hD hL hB1 hz1
  obtain ⟨D, hDe⟩ : ∃ D, V.heap.size = D := ⟨_, rfl⟩
  have jV1 := hJ.out.keep V V1 JV (hB1.mono (by omega))
  have pV1 : Pre b5 (b5 + 1) (b5 + 2) D (D + 1) l a n cap fr (.loop (rec .ready none)) V1 := ⟨keep1 hB1 q5, keep1 hB1 qn, keep1 hB1 qf, by rw [← hDe]; exact hD, by rw [← hDe]; exact hL⟩
  rw [hDe] at hrec z0 hz1 ⊢
  obtain ⟨L, hLe⟩ : ∃ L, L = D + 1 := ⟨_, rfl⟩
  rw [← hLe] at pV1 ⊢
  have hDb : b5 + 3 ≤ D := by omega
  have hDL : D < L := by omega
  clear hD hL hB1 JV q5 qn qf hDe z0 hLe hz1
  refine CallsIn.mono (lately1 (m + 1) L (b5 + 1) (b5 + 2) (L + 1) fr N n a cap hn hm
    (fun X => J X ∧ Pre b5 (b5 + 1) (b5 + 2) D L l a n cap fr (.loop (rec .ready none)) X)
    (fun X => Jx X ∧ X.heap[D]? = some (.deferred (some [])) ∧ X.heap[L]? = some (.loop (rec .done (some .ret))))
    (badN true cs co fr bad) (Lib.hid ⟨?stk, ?sts⟩) (Lib.hid ?mem) (Lib.hid ?rnd) V1 ⟨jV1, pV1⟩) ?fin
  case stk => exact fun X X' ⟨j, q⟩ hb => ⟨hJ.out.keep X X' j (hb.mono (by omega)), q.below hb (by omega) (by omega) (by omega) (by omega) (by omega)⟩
  case sts => exact fun X ⟨_, q⟩ => (Array.getElem?_eq_some_iff.1 q.lo).1
  case mem => exact fun X ⟨j, q⟩ => ⟨q.nn, q.ff, (hM.out X j).ns⟩
  case fin =>
    rintro e W' ⟨⟨v, rfl⟩, hr⟩
    rcases hr with ⟨hb, hjx, hd, hl⟩ | ⟨hb, hj, hp⟩
    · refine ⟨some .ret, _, endLoop_rec hrec hl (by simp), ?_⟩
      have hd2 : (W'.putObj L (.loop (rec .exhausted (some .ret)))).heap[D]? = some (.deferred (some [])) := (World.putObj_heap_other (by omega)).trans hd
      have hjx3 := hJx.out _ _ hjx (putObj_below (o := .deferred none) (putObj_below (o := .loop (rec .exhausted (some .ret))) (Below.refl B W') (show B ≤ L by omega)) (show B ≤ D by omega))
      have HB := Lib.hid hb
      clear hb
      gi_wp2
      refine ⟨by simp, .inl ⟨_, _, rfl, run_takeDeferred hd2, ?_⟩⟩
      exact ⟨_, results_none rfl _ _ _, ⟨_, rfl⟩, .inl ⟨HB.out, hjx3⟩⟩
    · refine ⟨none, _, endLoop_rec hrec hp.lo (by simp), ?_⟩
      have hd2 : (W'.putObj L (.loop (rec .exhausted none))).heap[D]? = some (.deferred (some [])) := (World.putObj_heap_other (by omega)).trans hp.d
      have hj3 := hJ.out.keep _ _ hj (putObj_below (o := .deferred none) (putObj_below (o := .loop (rec .exhausted none)) (Below.refl B W') (show B ≤ L by omega)) (show B ≤ D by omega))
      have HB := Lib.hid hb
      clear hb
      gi_wp2
      refine ⟨by simp, .inl ⟨_, _, rfl, run_takeDeferred hd2, ?_⟩⟩
      exact ⟨_, results_none rfl _ _ _, ⟨_, rfl⟩, .inr ⟨HB.out, hj3⟩⟩
  case rnd =>
    rintro x hxm hlat X ⟨jX, pX⟩ hxo
    have HXM := Lib.hid hxm
    clear hxm hlat jV1 pV1 hxo
    refine round_boxed hrec pX.lo rfl ?_
    obtain ⟨V2, hst, Tx, BV2, hz2⟩ := run_new59 X x
    unfold Z59 at hst
    simp only [List.zip_toArray, List.zip_cons_cons, List.zip_nil_right, List.foldl_toArray, List.foldl_cons, List.foldl_nil, List.setIfInBounds_toArray, List.set_cons_zero, List.set_cons_succ]
    have HPX := Lib.hid pX; have HJX := Lib.hid jX
    have hXL : L < X.heap.size := (Array.getElem?_eq_some_iff.1 pX.lo).1
    clear pX jX
    gi_wp2_with fail
    refine ⟨(BV2.block L hXL).trans HPX.out.lo, ?_⟩
    clear hst
    have pY := (HPX.out.keep BV2).turn (.loop (rec .busy none)) (by omega) (by omega) (by omega) (by omega)
    have jY := hJ.out.keep X _ HJX.out (putObj_below (o := .loop (rec .busy none)) (BV2.mono (hJ.out.size X HJX.out)) (show B ≤ L by omega))
    obtain ⟨xb, hxb⟩ : ∃ xb, X.heap.size = xb := ⟨_, rfl⟩
    rw [hxb] at Tx hXL ⊢
    have tY : CAt (V2.putObj L (.loop (rec .busy none))) xb x.bs := fun j v hj => (putObj_cell (a := ⟨xb, j, none⟩) (by simp only; omega)).trans (Tx j v hj)
    obtain ⟨Y, hY'⟩ : ∃ Y, V2.putObj L (.loop (rec .busy none)) = Y := ⟨_, rfl⟩
    rw [hY'] at pY jY tY ⊢
    clear Tx HPX HJX hxb BV2 hz2 hY'
    obtain ⟨ag, hag⟩ : ∃ ag, x.ga = ag := ⟨_, rfl⟩
    obtain ⟨au, hau⟩ : ∃ au, x.ua = au := ⟨_, rfl⟩
    have b12 := tY 12 _ rfl
    have b11 := tY 11 _ rfl
    rw [hag] at b12
    rw [hau] at b11
    have HB11 := Lib.hid b11
    have HAG := Lib.hid hag; have HAU := Lib.hid hau
    have hok := (hM.out Y jY).ns.2 x HXM.out
    have hgm := hok.gm; have hgc := hok.gc; have hum := hok.um; have huc := hok.uc
    unfold maxLen at hgm hum
    have HPY := Lib.hid pY; have HJY := Lib.hid jY; have HTY := Lib.hid tY
    have HBW := hBW
    clear b11 hag hau hok pY jY tY hn hm
    gi_wp2_with fail
    clear b12
    gi_loopw [18] (fun i wr => ∃ k : Nat, k ≤ x.ng ∧ i = .int .i64 k ∧ Hid ((x.B.G.take k).any (fun g => decide (g.s = cs ∧ g.o = co) && decide (fr ≤ g.u) && bad g.t g.p) = false) ∧ Hid (J wr) ∧ Hid (CAt wr xb x.bs) ∧ Hid (Pre b5 (b5 + 1) (b5 + 2) D L l a n cap fr (.loop (rec .busy none)) wr)) (fun i _ => x.ng - (intOf i).toNat)
    case atStart => exact ⟨0, Nat.zero_le _, rfl, Lib.hid rfl, HJY, HTY, HPY⟩
    case round =>
      clear HJY HTY HPY
      obtain ⟨k, hk, rfl, hlk, HJY, HTY, HPY⟩ := hrel
      by_cases hlt : k < x.ng
      ·
        have hlt' : (k : Int) < (x.ng : Int) := by omega
        have hk0 : (0 : Int) ≤ (k : Int) := by omega
        have hN := hM.out wr HJY.out
        obtain ⟨b2, off2, e1, c0, c1, c2, c3, c4⟩ := (hN.ns.2 x HXM.out).g.gr (Below.refl _ _) (i := k) (by have := (hN.ns.2 x HXM.out).gn; omega)
        have hsucc : (x.B.G.take (k + 1)).any (fun g => decide (g.s = cs ∧ g.o = co) && decide (fr ≤ g.u) && bad g.t g.p) = (fun g => decide (g.s = cs ∧ g.o = co) && decide (fr ≤ g.u) && bad g.t g.p) (x.B.G.getD k default) := by rw [any_take_succ _ (by have := (hN.ns.2 x HXM.out).gn; omega), hlk.out, Bool.false_or]
        clear hN
        obtain ⟨g, hg⟩ : ∃ g, x.B.G.getD k default = g := ⟨_, rfl⟩
        simp only [hg] at c0 c1 c2 c3 c4 hsucc
        have HS := Lib.hid hsucc
        clear hsucc
        obtain rfl : ag = some ⟨b2, off2, none⟩ := HAG.out.symm.trans e1
        clear hg e1
        gi_upto_region 6 with (fail)
        clear c0 c1 c2 c3 c4
        have Tg : CAt (wr.alloc (.cells #[.int .i64 g.s, .int .i64 g.o, .int .i64 g.p, .int .i64 g.t, .int .i64 g.u] 63)) wr.heap.size [.int .i64 g.s, .int .i64 g.o, .int .i64 g.p, .int .i64 g.t, .int .i64 g.u] := CAt.new wr _ 63
        have BG : Below wr.heap.size wr (wr.alloc (.cells #[.int .i64 g.s, .int .i64 g.o, .int .i64 g.p, .int .i64 g.t, .int .i64 g.u] 63)) := ball (Below.refl _ _) _
        obtain ⟨V3, hV3⟩ : ∃ V3, wr.alloc (.cells #[.int .i64 g.s, .int .i64 g.o, .int .i64 g.p, .int .i64 g.t, .int .i64 g.u] 63) = V3 := ⟨_, rfl⟩
        rw [hV3] at Tg BG ⊢
        clear hV3
        obtain ⟨gb, hgb⟩ : ∃ gb, wr.heap.size = gb := ⟨_, rfl⟩
        rw [hgb] at Tg ⊢
        have jV := hJ.out.keep wr V3 HJY.out (BG.mono (hJ.out.size wr HJY.out))
        have tV := HTY.out.keep BG
        have pV := HPY.out.keep BG
        have nV := hM.out V3 jV
        clear BG hgb HJY HTY HPY
        have HJY := Lib.hid jV; have HTY := Lib.hid tV; have HPY := Lib.hid pV
        have v1 := nV.gg
        have v2 := nV.ff
        have v3 := nV.c0
        have v4 := nV.c1
        have v5 := pV.fy
        have v6 := Tg 0 _ rfl
        have v7 := Tg 1 _ rfl
        have v8 := Tg 2 _ rfl
        have v9 := Tg 3 _ rfl
        have v10 := Tg 4 _ rfl
        clear nV jV tV pV Tg
        obtain ⟨z, hz⟩ : ∃ z, decide (g.s = cs ∧ g.o = co) = z := ⟨_, rfl⟩
        have heq := eq_cell g.s g.o cs co z hz
        have HZ := Lib.hid hz; clear hz
        obtain ⟨q2, hq2⟩ : ∃ q2, decide (fr ≤ g.u) = q2 := ⟨_, rfl⟩
        have HQ2 := Lib.hid hq2
        cases z
        ·
          gi_wp2_with fail
          refine ⟨fun _ h => (by cases h), ?_⟩
          clear v1 v2 v3 v4 v5 v6 v7 v8 v9 v10 heq hq2
          gi_wp2_with fail
          go_roundw
          case rel => exact ⟨k + 1, by omega, by go_num, Lib.hid (by rw [HS.out]; simp only [HZ.out, HQ2.out]; rfl), HJY, HTY, HPY⟩
          case measure => simp [intOf]; omega
        ·
          cases q2
          ·
            gi_wp2_with fail
            refine ⟨fun _ h => (by cases h), ?_⟩
            clear v1 v2 v3 v4 v5 v6 v7 v8 v9 v10 heq hq2
            gi_wp2_with fail
            go_roundw
            case rel => exact ⟨k + 1, by omega, by go_num, Lib.hid (by rw [HS.out]; simp only [HZ.out, HQ2.out]; rfl), HJY, HTY, HPY⟩
            case measure => simp [intOf]; omega
          ·
            obtain ⟨fn', tmps', assign', body', hyr, hR⟩ := hY.out g.t g.p V3 HJY.out
            gi_wp2_with fail
            clear v1 v2 v3 v4 v5 v6 v7 v8 v9 v10 heq hq2 hyr
            refine hR.mono ?_
            clear hR
            rintro e W' (⟨hbad, rfl, hx, hA⟩ | ⟨hbad, rfl, hj, hA⟩)
            ·
              have HBD := Lib.hid hbad
              have pW := HPY.out.above hA (by omega) (by omega) (by omega) (by omega) (by omega)
              clear hbad
              gi_wp2_with fail
              refine ⟨_, _, end_rec hrec (some .ret) pW.lo, .inl ⟨?_, rfl, ?_, ?_, ?_⟩⟩
              · unfold badN
                rw [if_pos rfl]
                refine any_of_take (k := k + 1) ?_
                rw [HS.out]; simp only [HZ.out, HQ2.out, HBD.out]; rfl
              · exact hJx.out _ _ hx (putObj_below (Below.refl B _) (show B ≤ L by omega))
              · exact (World.putObj_heap_other (by omega)).trans pW.d
              · exact World.putObj_heap_same (Array.getElem?_eq_some_iff.1 pW.lo).1
            ·
              have HBD := Lib.hid hbad
              have pW := Lib.hid (HPY.out.above hA (by omega) (by omega) (by omega) (by omega) (by omega))
              have tW := Lib.hid (hA.cat (by omega) HTY.out)
              have jW := Lib.hid hj
              clear hbad hj
              gi_wp2_with fail
              go_roundw
              case rel => exact ⟨k + 1, by omega, by go_num, Lib.hid (by rw [HS.out]; simp only [HZ.out, HQ2.out, HBD.out]; rfl), jW, tW, pW⟩
              case measure => simp [intOf]; omega
      ·
        obtain rfl : x.ng = k := by omega
        have hlt' : ¬ (x.ng : Int) < (x.ng : Int) := by omega
        have HNO : Hid (badN true cs co fr bad x = false) := Lib.hid (by unfold badN; rw [if_pos rfl, ← any_len ((hM.out wr HJY.out).ns.2 x HXM.out).gn]; exact hlk.out)
        clear hlk
        have b11 := HTY.out 11 _ rfl
        rw [HAU.out] at b11
        gi_wp2_with fail
        clear b11
        gi_loopw [49] (fun i wr => ∃ k : Nat, k ≤ x.nu ∧ i = .int .i64 k ∧ Hid (J wr) ∧ Hid (CAt wr xb x.bs) ∧ Hid (Pre b5 (b5 + 1) (b5 + 2) D L l a n cap fr (.loop (rec .busy none)) wr)) (fun i _ => x.nu - (intOf i).toNat)
        case atStart => exact ⟨0, Nat.zero_le _, rfl, HJY, HTY, HPY⟩
        case round =>
          clear HJY HTY HPY
          obtain ⟨k, hk, rfl, HJY, HTY, HPY⟩ := hrel
          by_cases hlt : k < x.nu
          ·
            have hlt' : (k : Int) < (x.nu : Int) := by omega
            have hk0 : (0 : Int) ≤ (k : Int) := by omega
            have hN := hM.out wr HJY.out
            obtain ⟨b2, off2, e1, c0, c1, c2, c3⟩ := (hN.ns.2 x HXM.out).u.us (Below.refl _ _) (i := k) (by have := (hN.ns.2 x HXM.out).un; omega)
            clear hN
            obtain ⟨g, hg⟩ : ∃ g, x.B.U.getD k default = g := ⟨_, rfl⟩
            simp only [hg] at c0 c1 c2 c3
            obtain rfl : au = some ⟨b2, off2, none⟩ := HAU.out.symm.trans e1
            clear hg e1
            gi_upto_region 11 with (fail)
            clear c0 c1 c2 c3
            have Tg : CAt (wr.alloc (.cells #[.int .i64 g.s, .int .i64 g.o, .int .i64 g.p, .int .i64 g.t] 43)) wr.heap.size [.int .i64 g.s, .int .i64 g.o, .int .i64 g.p, .int .i64 g.t] := CAt.new wr _ 43
            have BG : Below wr.heap.size wr (wr.alloc (.cells #[.int .i64 g.s, .int .i64 g.o, .int .i64 g.p, .int .i64 g.t] 43)) := ball (Below.refl _ _) _
            obtain ⟨V3, hV3⟩ : ∃ V3, wr.alloc (.cells #[.int .i64 g.s, .int .i64 g.o, .int .i64 g.p, .int .i64 g.t] 43) = V3 := ⟨_, rfl⟩
            rw [hV3] at Tg BG ⊢
            clear hV3
            obtain ⟨gb, hgb⟩ : ∃ gb, wr.heap.size = gb := ⟨_, rfl⟩
            rw [hgb] at Tg ⊢
            have jV := hJ.out.keep wr V3 HJY.out (BG.mono (hJ.out.size wr HJY.out))
            have tV := HTY.out.keep BG
            have pV := HPY.out.keep BG
            have nV := hM.out V3 jV
            clear BG hgb HJY HTY HPY
            have HJY := Lib.hid jV; have HTY := Lib.hid tV; have HPY := Lib.hid pV
            have v1 := nV.gg
            clear nV jV tV pV Tg
            gi_wp2_with fail
            refine ⟨fun _ h => (by cases h), ?_⟩
            clear v1
            gi_wp2_with fail
            go_roundw
            case rel => exact ⟨k + 1, by omega, by go_num, HJY, HTY, HPY⟩
            case measure => simp [intOf]; omega
          ·
            obtain rfl : x.nu = k := by omega
            have hlt' : ¬ (x.nu : Int) < (x.nu : Int) := by omega
            gi_wp2_with fail
            refine ⟨_, _, end_rec hrec none HPY.out.lo, .inr ⟨HNO.out, rfl, hJ.out.keep _ _ HJY.out (putObj_below (Below.refl B _) (show B ≤ L by omega)), ?_⟩⟩
            exact HPY.out.turn _ (by omega) (by omega) (by omega) (by omega)
set_option maxRecDepth 100000 in
set_option maxHeartbeats 16000000 in
theorem told_false (m l bn bf bg bc B : Nat) (cs co fr : Int) (N : List Nv) (n : Nat) (a : Option Addr) (cap : Nat) (hn : Hid (n = N.length)) (hm : n ≤ maxLen) (J Jx : World → Prop) (bad : Int → Int → Bool) (hJ : Hid (Stb B J)) (hJx : Hid (∀ X X', Jx X → Below B X X' → Jx X'))
    (hM : Hid (∀ W, J W → Nds bn bf bg bc false cs co fr a n cap N W))
    (hY : Hid (∀ t q W, J W → YieldAt Fence.wide m Try.prog l #[clv t q] W fun e W' => (bad t q = true ∧ e = .returned (.bool false) ∧ Jx W' ∧ Above B W W') ∨ (bad t q = false ∧ e = .returned (.bool true) ∧ J W' ∧ Above B W W')))
    (W : World) (hW : Hid (J W)) :
    CallsIn Fence.wide (m + 3) Try.prog 31 #[.func (.yield l) #[] #[], .pointer (some ⟨bn, 0, none⟩), .pointer (some ⟨bf, 0, none⟩), .pointer (some ⟨bg, 0, none⟩), .pointer (some ⟨bc, 0, none⟩)] W (LatePost fr N (badN false cs co fr bad) J Jx) := by
  refine callsIn_of_wp_marks Try.func31 rfl trivial ?_ rfl
  simp only [Try.ntmps31, List.size_toArray, List.length_cons, List.length_nil, Nat.reduceAdd, Nat.reduceSub, Array.replicate_succ, Array.replicate_zero, List.push_toArray, List.append_toArray, List.nil_append, List.cons_append]
  have c1 := (hM.out W hW.out).nn
  have c2 := (hM.out W hW.out).ff
  have hBW := hJ.out.size W hW.out
  gi_wp2_with fail
  refine ⟨trivial, ?_⟩
  refine (callsIn_wide.2 (lately_any a n cap fr _)).mono ?_
  rintro e w1 ⟨rfl, rfl⟩
  clear c1 c2
  gi_wp2_with fail
  have q5 : (((W.alloc (.cells #[.func (.yield l) #[] #[]] 91)).alloc (.cells #[.slice a n cap] 27)).alloc (.cells #[.int .i64 fr] 3)).cell? ⟨W.heap.size, 0, none⟩ = some (.func (.yield l) #[] #[]) := old2 (new0 rfl rfl) _ _
  have qn : (((W.alloc (.cells #[.func (.yield l) #[] #[]] 91)).alloc (.cells #[.slice a n cap] 27)).alloc (.cells #[.int .i64 fr] 3)).cell? ⟨W.heap.size + 1, 0, none⟩ = some (.slice a n cap) := old1 (new0 (by simp) rfl) _
  have qf : (((W.alloc (.cells #[.func (.yield l) #[] #[]] 91)).alloc (.cells #[.slice a n cap] 27)).alloc (.cells #[.int .i64 fr] 3)).cell? ⟨W.heap.size + 2, 0, none⟩ = some (.int .i64 fr) := new0 (by simp) rfl
  have BV : Below W.heap.size W (((W.alloc (.cells #[.func (.yield l) #[] #[]] 91)).alloc (.cells #[.slice a n cap] 27)).alloc (.cells #[.int .i64 fr] 3)) := ball (ball (ball (Below.refl _ _) _) _) _
  have z0 : (((W.alloc (.cells #[.func (.yield l) #[] #[]] 91)).alloc (.cells #[.slice a n cap] 27)).alloc (.cells #[.int .i64 fr] 3)).heap.size = W.heap.size + 3 := by simp
  obtain ⟨V, hV⟩ : ∃ V, V = ((W.alloc (.cells #[.func (.yield l) #[] #[]] 91)).alloc (.cells #[.slice a n cap] 27)).alloc (.cells #[.int .i64 fr] 3) := ⟨_, rfl⟩
  rw [← hV] at q5 qn qf BV z0
  simp only [World.size_alloc, Nat.add_assoc, Nat.reduceAdd]
  rw [← hV]
  clear hV
  have JV := hJ.out.keep W V hW.out (BV.mono hBW)
  obtain ⟨b5, hb5⟩ : ∃ b5, W.heap.size = b5 := ⟨_, rfl⟩
  rw [hb5] at q5 qn qf z0 hBW ⊢
  clear BV hb5
  refine range_plain (gf := 35) (lb := #[.pointer (some ⟨b5 + 1, 0, none⟩), .pointer (some ⟨b5 + 2, 0, none⟩)]) rfl (enters_of Try.func35 (by kernel_rfl) rfl) ?_
  intro fn V1 rec hrec hD hL hB1 hz1
  obtain ⟨D, hDe⟩ : ∃ D, V.heap.size = D := ⟨_, rfl⟩
  have jV1 := hJ.out.keep V V1 JV (hB1.mono (by omega))
  have pV1 : Pre b5 (b5 + 1) (b5 + 2) D (D + 1) l a n cap fr (.loop (rec .ready none)) V1 := ⟨keep1 hB1 q5, keep1 hB1 qn, keep1 hB1 qf, by rw [← hDe]; exact hD, by rw [← hDe]; exact hL⟩
  rw [hDe] at hrec z0 hz1 ⊢
  obtain ⟨L, hLe⟩ : ∃ L, L = D + 1 := ⟨_, rfl⟩
  rw [← hLe] at pV1 ⊢
  have hDb : b5 + 3 ≤ D := by omega
  have hDL : D < L := by omega
  clear hD hL hB1 JV q5 qn qf hDe z0 hLe hz1
  refine CallsIn.mono (lately1 (m + 1) L (b5 + 1) (b5 + 2) (L + 1) fr N n a cap hn hm
    (fun X => J X ∧ Pre b5 (b5 + 1) (b5 + 2) D L l a n cap fr (.loop (rec .ready none)) X)
    (fun X => Jx X ∧ X.heap[D]? = some (.deferred (some [])) ∧ X.heap[L]? = some (.loop (rec .done (some .ret))))
    (badN false cs co fr bad) (Lib.hid ⟨?stk, ?sts⟩) (Lib.hid ?mem) (Lib.hid ?rnd) V1 ⟨jV1, pV1⟩) ?fin
  case stk => exact fun X X' ⟨j, q⟩ hb => ⟨hJ.out.keep X X' j (hb.mono (by omega)), q.below hb (by omega) (by omega) (by omega) (by omega) (by omega)⟩
  case sts => exact fun X ⟨_, q⟩ => (Array.getElem?_eq_some_iff.1 q.lo).1
  case mem => exact fun X ⟨j, q⟩ => ⟨q.nn, q.ff, (hM.out X j).ns⟩
  case fin =>
    rintro e W' ⟨⟨v, rfl⟩, hr⟩
    rcases hr with ⟨hb, hjx, hd, hl⟩ | ⟨hb, hj, hp⟩
    · refine ⟨some .ret, _, endLoop_rec hrec hl (by simp), ?_⟩
      have hd2 : (W'.putObj L (.loop (rec .exhausted (some .ret)))).heap[D]? = some (.deferred (some [])) := (World.putObj_heap_other (by omega)).trans hd
      have hjx3 := hJx.out _ _ hjx (putObj_below (o := .deferred none) (putObj_below (o := .loop (rec .exhausted (some .ret))) (Below.refl B W') (show B ≤ L by omega)) (show B ≤ D by omega))
      have HB := Lib.hid hb
      clear hb
      gi_wp2
      refine ⟨by simp, .inl ⟨_, _, rfl, run_takeDeferred hd2, ?_⟩⟩
      exact ⟨_, results_none rfl _ _ _, ⟨_, rfl⟩, .inl ⟨HB.out, hjx3⟩⟩
    · refine ⟨none, _, endLoop_rec hrec hp.lo (by simp), ?_⟩
      have hd2 : (W'.putObj L (.loop (rec .exhausted none))).heap[D]? = some (.deferred (some [])) := (World.putObj_heap_other (by omega)).trans hp.d
      have hj3 := hJ.out.keep _ _ hj (putObj_below (o := .deferred none) (putObj_below (o := .loop (rec .exhausted none)) (Below.refl B W') (show B ≤ L by omega)) (show B ≤ D by omega))
      have HB := Lib.hid hb
      clear hb
      gi_wp2
      refine ⟨by simp, .inl ⟨_, _, rfl, run_takeDeferred hd2, ?_⟩⟩
      exact ⟨_, results_none rfl _ _ _, ⟨_, rfl⟩, .inr ⟨HB.out, hj3⟩⟩
  case rnd =>
    rintro x hxm hlat X ⟨jX, pX⟩ hxo
    have HXM := Lib.hid hxm
    clear hxm hlat jV1 pV1 hxo
    refine round_boxed hrec pX.lo rfl ?_
    obtain ⟨V2, hst, Tx, BV2, hz2⟩ := run_new59 X x
    unfold Z59 at hst
    simp only [List.zip_toArray, List.zip_cons_cons, List.zip_nil_right, List.foldl_toArray, List.foldl_cons, List.foldl_nil, List.setIfInBounds_toArray, List.set_cons_zero, List.set_cons_succ]
    have HPX := Lib.hid pX; have HJX := Lib.hid jX
    have hXL : L < X.heap.size := (Array.getElem?_eq_some_iff.1 pX.lo).1
    clear pX jX
    gi_wp2_with fail
    refine ⟨(BV2.block L hXL).trans HPX.out.lo, ?_⟩
    clear hst
    have pY := (HPX.out.keep BV2).turn (.loop (rec .busy none)) (by omega) (by omega) (by omega) (by omega)
    have jY := hJ.out.keep X _ HJX.out (putObj_below (o := .loop (rec .busy none)) (BV2.mono (hJ.out.size X HJX.out)) (show B ≤ L by omega))
    obtain ⟨xb, hxb⟩ : ∃ xb, X.heap.size = xb := ⟨_, rfl⟩
    rw [hxb] at Tx hXL ⊢
    have tY : CAt (V2.putObj L (.loop (rec .busy none))) xb x.bs := fun j v hj => (putObj_cell (a := ⟨xb, j, none⟩) (by simp only; omega)).trans (Tx j v hj)
    obtain ⟨Y, hY'⟩ : ∃ Y, V2.putObj L (.loop (rec .busy none)) = Y := ⟨_, rfl⟩
    rw [hY'] at pY jY tY ⊢
    clear Tx HPX HJX hxb BV2 hz2 hY'
    obtain ⟨ag, hag⟩ : ∃ ag, x.ga = ag := ⟨_, rfl⟩
    obtain ⟨au, hau⟩ : ∃ au, x.ua = au := ⟨_, rfl⟩
    have b12 := tY 12 _ rfl
    have b11 := tY 11 _ rfl
    rw [hag] at b12
    rw [hau] at b11
    have HB11 := Lib.hid b11
    have HAG := Lib.hid hag; have HAU := Lib.hid hau
    have hok := (hM.out Y jY).ns.2 x HXM.out
    have hgm := hok.gm; have hgc := hok.gc; have hum := hok.um; have huc := hok.uc
    unfold maxLen at hgm hum
    have HPY := Lib.hid pY; have HJY := Lib.hid jY; have HTY := Lib.hid tY
    have HBW := hBW
    clear b11 hag hau hok pY jY tY hn hm
    gi_wp2_with fail
    clear b12
    gi_loopw [18] (fun i wr => ∃ k : Nat, k ≤ x.ng ∧ i = .int .i64 k ∧ Hid (J wr) ∧ Hid (CAt wr xb x.bs) ∧ Hid (Pre b5 (b5 + 1) (b5 + 2) D L l a n cap fr (.loop (rec .busy none)) wr)) (fun i _ => x.ng - (intOf i).toNat)
    case atStart => exact ⟨0, Nat.zero_le _, rfl, HJY, HTY, HPY⟩
    case round =>
      clear HJY HTY HPY
      obtain ⟨k, hk, rfl, HJY, HTY, HPY⟩ := hrel
      by_cases hlt : k < x.ng
      ·
        have hlt' : (k : Int) < (x.ng : Int) := by omega
        have hk0 : (0 : Int) ≤ (k : Int) := by omega
        have hN := hM.out wr HJY.out
        obtain ⟨b2, off2, e1, c0, c1, c2, c3, c4⟩ := (hN.ns.2 x HXM.out).g.gr (Below.refl _ _) (i := k) (by have := (hN.ns.2 x HXM.out).gn; omega)
        clear hN
        obtain ⟨g, hg⟩ : ∃ g, x.B.G.getD k default = g := ⟨_, rfl⟩
        simp only [hg] at c0 c1 c2 c3 c4
        obtain rfl : ag = some ⟨b2, off2, none⟩ := HAG.out.symm.trans e1
        clear hg e1
        gi_upto_region 6 with (fail)
        clear c0 c1 c2 c3 c4
        have Tg : CAt (wr.alloc (.cells #[.int .i64 g.s, .int .i64 g.o, .int .i64 g.p, .int .i64 g.t, .int .i64 g.u] 63)) wr.heap.size [.int .i64 g.s, .int .i64 g.o, .int .i64 g.p, .int .i64 g.t, .int .i64 g.u] := CAt.new wr _ 63
        have BG : Below wr.heap.size wr (wr.alloc (.cells #[.int .i64 g.s, .int .i64 g.o, .int .i64 g.p, .int .i64 g.t, .int .i64 g.u] 63)) := ball (Below.refl _ _) _
        obtain ⟨V3, hV3⟩ : ∃ V3, wr.alloc (.cells #[.int .i64 g.s, .int .i64 g.o, .int .i64 g.p, .int .i64 g.t, .int .i64 g.u] 63) = V3 := ⟨_, rfl⟩
        rw [hV3] at Tg BG ⊢
        clear hV3
        obtain ⟨gb, hgb⟩ : ∃ gb, wr.heap.size = gb := ⟨_, rfl⟩
        rw [hgb] at Tg ⊢
        have jV := hJ.out.keep wr V3 HJY.out (BG.mono (hJ.out.size wr HJY.out))
        have tV := HTY.out.keep BG
        have pV := HPY.out.keep BG
        have nV := hM.out V3 jV
        clear BG hgb HJY HTY HPY
        have HJY := Lib.hid jV; have HTY := Lib.hid tV; have HPY := Lib.hid pV
        have v1 := nV.gg
        clear nV jV tV pV Tg
        gi_wp2_with fail
        refine ⟨fun _ h => (by cases h), ?_⟩
        clear v1
        gi_wp2_with fail
        go_roundw
        case rel => exact ⟨k + 1, by omega, by go_num, HJY, HTY, HPY⟩
        case measure => simp [intOf]; omega
      ·
        obtain rfl : x.ng = k := by omega
        have hlt' : ¬ (x.ng : Int) < (x.ng : Int) := by omega
        have b11 := HTY.out 11 _ rfl
        rw [HAU.out] at b11
        gi_wp2_with fail
        clear b11
        gi_loopw [49] (fun i wr => ∃ k : Nat, k ≤ x.nu ∧ i = .int .i64 k ∧ Hid ((x.B.U.take k).any (fun u => decide (u.s = cs ∧ u.o = co) && bad u.t x.B.h) = false) ∧ Hid (J wr) ∧ Hid (CAt wr xb x.bs) ∧ Hid (Pre b5 (b5 + 1) (b5 + 2) D L l a n cap fr (.loop (rec .busy none)) wr)) (fun i _ => x.nu - (intOf i).toNat)
        case atStart => exact ⟨0, Nat.zero_le _, rfl, Lib.hid rfl, HJY, HTY, HPY⟩
        case round =>
          clear HJY HTY HPY
          obtain ⟨k, hk, rfl, hlk, HJY, HTY, HPY⟩ := hrel
          by_cases hlt : k < x.nu
          ·
            have hlt' : (k : Int) < (x.nu : Int) := by omega
            have hk0 : (0 : Int) ≤ (k : Int) := by omega
            have hN := hM.out wr HJY.out
            obtain ⟨b2, off2, e1, c0, c1, c2, c3⟩ := (hN.ns.2 x HXM.out).u.us (Below.refl _ _) (i := k) (by have := (hN.ns.2 x HXM.out).un; omega)
            have hsucc : (x.B.U.take (k + 1)).any (fun u => decide (u.s = cs ∧ u.o = co) && bad u.t x.B.h) = (fun u => decide (u.s = cs ∧ u.o = co) && bad u.t x.B.h) (x.B.U.getD k default) := by rw [any_take_succ _ (by have := (hN.ns.2 x HXM.out).un; omega), hlk.out, Bool.false_or]
            clear hN
            obtain ⟨g, hg⟩ : ∃ g, x.B.U.getD k default = g := ⟨_, rfl⟩
            simp only [hg] at c0 c1 c2 c3 hsucc
            have HS := Lib.hid hsucc
            clear hsucc
            obtain rfl : au = some ⟨b2, off2, none⟩ := HAU.out.symm.trans e1
            clear hg e1
            gi_upto_region 11 with (fail)
            clear c0 c1 c2 c3
            have Tg : CAt (wr.alloc (.cells #[.int .i64 g.s, .int .i64 g.o, .int .i64 g.p, .int .i64 g.t] 43)) wr.heap.size [.int .i64 g.s, .int .i64 g.o, .int .i64 g.p, .int .i64 g.t] := CAt.new wr _ 43
            have BG : Below wr.heap.size wr (wr.alloc (.cells #[.int .i64 g.s, .int .i64 g.o, .int .i64 g.p, .int .i64 g.t] 43)) := ball (Below.refl _ _) _
            obtain ⟨V3, hV3⟩ : ∃ V3, wr.alloc (.cells #[.int .i64 g.s, .int .i64 g.o, .int .i64 g.p, .int .i64 g.t] 43) = V3 := ⟨_, rfl⟩
            rw [hV3] at Tg BG ⊢
            clear hV3
            obtain ⟨gb, hgb⟩ : ∃ gb, wr.heap.size = gb := ⟨_, rfl⟩
            rw [hgb] at Tg ⊢
            have jV := hJ.out.keep wr V3 HJY.out (BG.mono (hJ.out.size wr HJY.out))
            have tV := HTY.out.keep BG
            have pV := HPY.out.keep BG
            have nV := hM.out V3 jV
            clear BG hgb HJY HTY HPY
            have HJY := Lib.hid jV; have HTY := Lib.hid tV; have HPY := Lib.hid pV
            have v1 := nV.gg
            have v2 := nV.ff
            have v3 := nV.c0
            have v4 := nV.c1
            have v5 := pV.fy
            have v6 := Tg 0 _ rfl
            have v7 := Tg 1 _ rfl
            have v8 := Tg 2 _ rfl
            have v9 := Tg 3 _ rfl
            have v10 := tV 0 _ rfl
            clear nV jV tV pV Tg
            obtain ⟨z, hz⟩ : ∃ z, decide (g.s = cs ∧ g.o = co) = z := ⟨_, rfl⟩
            have heq := eq_cell g.s g.o cs co z hz
            have HZ := Lib.hid hz; clear hz
            cases z
            ·
              gi_wp2_with fail
              refine ⟨fun _ h => (by cases h), ?_⟩
              clear v1 v2 v3 v4 v5 v6 v7 v8 v9 v10 heq
              gi_wp2_with fail
              go_roundw
              case rel => exact ⟨k + 1, by omega, by go_num, Lib.hid (by rw [HS.out]; simp only [HZ.out]; rfl), HJY, HTY, HPY⟩
              case measure => simp [intOf]; omega
            ·
              obtain ⟨fn', tmps', assign', body', hyr, hR⟩ := hY.out g.t x.B.h V3 HJY.out
              gi_wp2_with fail
              clear v1 v2 v3 v4 v5 v6 v7 v8 v9 v10 heq hyr
              refine hR.mono ?_
              clear hR
              rintro e W' (⟨hbad, rfl, hx, hA⟩ | ⟨hbad, rfl, hj, hA⟩)
              ·
                have HBD := Lib.hid hbad
                have pW := HPY.out.above hA (by omega) (by omega) (by omega) (by omega) (by omega)
                clear hbad
                gi_wp2_with fail
                refine ⟨_, _, end_rec hrec (some .ret) pW.lo, .inl ⟨?_, rfl, ?_, ?_, ?_⟩⟩
                · unfold badN
                  rw [if_neg (by simp)]
                  refine any_of_take (k := k + 1) ?_
                  rw [HS.out]; simp only [HZ.out, HBD.out]; rfl
                · exact hJx.out _ _ hx (putObj_below (Below.refl B _) (show B ≤ L by omega))
                · exact (World.putObj_heap_other (by omega)).trans pW.d
                · exact World.putObj_heap_same (Array.getElem?_eq_some_iff.1 pW.lo).1
              ·
                have HBD := Lib.hid hbad
                have pW := Lib.hid (HPY.out.above hA (by omega) (by omega) (by omega) (by omega) (by omega))
                have tW := Lib.hid (hA.cat (by omega) HTY.out)
                have jW := Lib.hid hj
                clear hbad hj
                gi_wp2_with fail
                go_roundw
                case rel => exact ⟨k + 1, by omega, by go_num, Lib.hid (by rw [HS.out]; simp only [HZ.out, HBD.out]; rfl), jW, tW, pW⟩
                case measure => simp [intOf]; omega
          ·
            obtain rfl : x.nu = k := by omega
            have hlt' : ¬ (x.nu : Int) < (x.nu : Int) := by omega
            have HNO : Hid (badN false cs co fr bad x = false) := Lib.hid (by unfold badN; rw [if_neg (by simp), ← any_len ((hM.out wr HJY.out).ns.2 x HXM.out).un]; exact hlk.out)
            clear hlk
            gi_wp2_with fail
            refine ⟨_, _, end_rec hrec none HPY.out.lo, .inr ⟨HNO.out, rfl, hJ.out.keep _ _ HJY.out (putObj_below (Below.refl B _) (show B ≤ L by omega)), ?_⟩⟩
            exact HPY.out.turn _ (by omega) (by omega) (by omega) (by omega)
end Go.Proofs.Ytleenbfldkmcaaa
