/- Proved: whether one of the claims that neighbours have told beats a claim, as claims.beaten tells. Conditions: what was heard lies in memory. -/
import Derived.Test.YtleenbfldkmcaaaK10
namespace Go.Proofs.Ytleenbfldkmcaaa
open Go.RowKit Go.Sort Go.BigFrame
set_option linter.unusedVariables false
set_option linter.unusedSimpArgs false
attribute [local go_sem] cell_alloc_old

attribute [local go_sem] Oper.semAt_some
theorem Above.refl (B : Nat) (W : World) : Above B W W := ⟨Nat.le_refl _, fun _ _ _ => rfl⟩
theorem Above.trans {B : Nat} {X Y Z : World} (h : Above B X Y) (k : Above B Y Z) : Above B X Z := ⟨Nat.le_trans h.size k.size, fun i hB hi => (k.blk i hB (Nat.lt_of_lt_of_le hi h.size)).trans (h.blk i hB hi)⟩
theorem Above.below {B : Nat} {X Y Z : World} (h : Above B X Y) (k : Below Y.heap.size Y Z) : Above B X Z := h.trans ⟨k.size, fun i _ hi => k.block i hi⟩
theorem Above.put {B : Nat} {X Y : World} (h : Above B X Y) {l : Nat} (o : Obj) (hl : l < B) : Above B X (Y.putObj l o) := h.trans ⟨by rw [World.putObj_size]; exact Nat.le_refl _, fun i hi _ => World.putObj_heap_other (by omega)⟩
theorem Above.set {B : Nat} {X Y : World} (h : Above B X Y) {l : Nat} (j : Nat) (v : Value) (hl : l < B) : Above B X (Y.setCell ⟨l, j, none⟩ v) := h.trans ⟨by simp, fun i hi _ => Below.heap_setCell _ _ _ _ (fun e => by have e' : i = l := e; omega)⟩
theorem Nds.keep {bn bf bg bc : Nat} {gr : Bool} {cs co fr : Int} {a : Option Addr} {n cap : Nat} {N : List Nv} {W W' : World} (h : Nds bn bf bg bc gr cs co fr a n cap N W) (hb : Below W.heap.size W W') : Nds bn bf bg bc gr cs co fr a n cap N W' :=
  ⟨keep1 hb h.nn, keep1 hb h.ff, keep1 hb h.gg, keep1 hb h.c0, keep1 hb h.c1, h.ns.keep hb⟩
theorem told_any (m l bn bf bg bc B : Nat) (gr : Bool) (cs co fr : Int) (N : List Nv) (n : Nat) (a : Option Addr) (cap : Nat) (hn : Hid (n = N.length)) (hm : n ≤ maxLen) (J Jx : World → Prop) (bad : Int → Int → Bool) (hJ : Hid (Stb B J)) (hJx : Hid (∀ X X', Jx X → Below B X X' → Jx X'))
    (hM : Hid (∀ W, J W → Nds bn bf bg bc gr cs co fr a n cap N W))
    (hY : Hid (∀ t q W, J W → YieldAt Fence.wide m Try.prog l #[clv t q] W fun e W' => (bad t q = true ∧ e = .returned (.bool false) ∧ Jx W' ∧ Above B W W') ∨ (bad t q = false ∧ e = .returned (.bool true) ∧ J W' ∧ Above B W W')))
    (W : World) (hW : Hid (J W)) :
    CallsIn Fence.wide (m + 3) Try.prog 31 #[.func (.yield l) #[] #[], .pointer (some ⟨bn, 0, none⟩), .pointer (some ⟨bf, 0, none⟩), .pointer (some ⟨bg, 0, none⟩), .pointer (some ⟨bc, 0, none⟩)] W (LatePost fr N (badN gr cs co fr bad) J Jx) := by
  cases gr
  · exact told_false m l bn bf bg bc B cs co fr N n a cap hn hm J Jx bad hJ hJx hM hY W hW
  · exact told_true m l bn bf bg bc B cs co fr N n a cap hn hm J Jx bad hJ hJx hM hY W hW
/-- A claim of another sender that is better. -/
def badC (t q : Int) (t' q' : Int) : Bool := (q' != q) && betB t' q' t q
/-- What beaten has laid: the claim, the result, its record. -/
structure Btn (w : World) (k3 k4 D L : Nat) (t q : Int) (y : Bool) (r : Obj) (X : World) : Prop where
  bb : Below w.heap.size w X
  t0 : X.cell? ⟨k3, 0, none⟩ = some (.int .i64 t)
  t1 : X.cell? ⟨k3, 1, none⟩ = some (.int .i64 q)
  y0 : X.cell? ⟨k4, 0, none⟩ = some (.bool y)
  yf : X.frozen? ⟨k4, 0, none⟩ = false
  d : X.heap[D]? = some (.deferred (some []))
  lo : X.heap[L]? = some r
section
variable {w : World} {k3 k4 D L : Nat} {t q : Int} {y : Bool} {r : Obj} {X X' : World}
theorem Btn.keep (h : Btn w k3 k4 D L t q y r X) (hb : Below X.heap.size X X') : Btn w k3 k4 D L t q y r X' :=
  ⟨bstep h.bb hb, keep1 hb h.t0, keep1 hb h.t1, keep1 hb h.y0, keepF hb h.y0 h.yf, (hb.block D (Array.getElem?_eq_some_iff.1 h.d).1).trans h.d, (hb.block L (Array.getElem?_eq_some_iff.1 h.lo).1).trans h.lo⟩
theorem Btn.below {B : Nat} (h : Btn w k3 k4 D L t q y r X) (hb : Below B X X') (hw : w.heap.size ≤ B) (h3 : k3 < B) (h4 : k4 < B) (h5 : D < B) (h6 : L < B) : Btn w k3 k4 D L t q y r X' :=
  ⟨h.bb.trans (hb.mono hw), (hb.cell (p := ⟨k3, 0, none⟩) h3).trans h.t0, (hb.cell (p := ⟨k3, 1, none⟩) h3).trans h.t1, (hb.cell (p := ⟨k4, 0, none⟩) h4).trans h.y0, (hb.frozen (p := ⟨k4, 0, none⟩) h4).trans h.yf, (hb.block D h5).trans h.d, (hb.block L h6).trans h.lo⟩
theorem Btn.turn (h : Btn w k3 k4 D L t q y r X) (r' : Obj) (hw : w.heap.size ≤ L) (h3 : k3 ≠ L) (h4 : k4 ≠ L) (h5 : D ≠ L) : Btn w k3 k4 D L t q y r' (X.putObj L r') :=
  ⟨putObj_below h.bb hw, (putObj_cell (a := ⟨k3, 0, none⟩) h3).trans h.t0, (putObj_cell (a := ⟨k3, 1, none⟩) h3).trans h.t1, (putObj_cell (a := ⟨k4, 0, none⟩) h4).trans h.y0, (putObj_frozen (a := ⟨k4, 0, none⟩) h4).trans h.yf, (World.putObj_heap_other h5).trans h.d, World.putObj_heap_same (Array.getElem?_eq_some_iff.1 h.lo).1⟩
theorem Btn.set (h : Btn w k3 k4 D L t q y r X) (y' : Bool) (hw : w.heap.size ≤ k4) (h3 : k3 ≠ k4) (h5 : D ≠ k4) (h6 : L ≠ k4) : Btn w k3 k4 D L t q y' r (X.setCell ⟨k4, 0, none⟩ (.bool y')) :=
  ⟨h.bb.setCell (p := ⟨k4, 0, none⟩) hw _, (World.cell?_setCell_other _ _ _ _ (fun e => h3 (congrArg Addr.block e).symm)).trans h.t0, (World.cell?_setCell_other _ _ _ _ (fun e => h3 (congrArg Addr.block e).symm)).trans h.t1,
    World.cell?_setCell_same' _ _ _ (by rw [h.y0]; rfl), by rw [World.frozen?_setCell]; exact h.yf, (Below.heap_setCell _ _ _ _ h5).trans h.d, (Below.heap_setCell _ _ _ _ h6).trans h.lo⟩
end

set_option maxRecDepth 100000 in
set_option maxHeartbeats 16000000 in
theorem beaten_any (bn bf bg bc : Nat) (gr : Bool) (cs co fr : Int) (N : List Nv) (n : Nat) (a : Option Addr) (cap : Nat) (hn : Hid (n = N.length)) (hm : n ≤ maxLen) (t q : Int) (w : World) (hnd : Hid (Nds bn bf bg bc gr cs co fr a n cap N w)) (y : Bool) (hy : Hid (N.any (fun x => latB x.B.f fr && badN gr cs co fr (badC t q) x) = y)) :
    Calls Try.prog 25 #[.func (.func 31) #[] #[.pointer (some ⟨bn, 0, none⟩), .pointer (some ⟨bf, 0, none⟩), .pointer (some ⟨bg, 0, none⟩), .pointer (some ⟨bc, 0, none⟩)], clv t q] w (Yes y w) := by
  refine (callsIn_wide (n := 5)).1 ?_
  refine callsIn_of_wp_marks Try.func25 rfl trivial ?_ rfl
  simp only [Try.ntmps25, List.size_toArray, List.length_cons, List.length_nil, Nat.reduceAdd, Nat.reduceSub, Array.replicate_succ, Array.replicate_zero, List.push_toArray, List.append_toArray, List.nil_append, List.cons_append]
  gi_wp2_with fail
  have t0 : ((w.alloc (.cells #[.int .i64 t, .int .i64 q] 85)).alloc (.cells #[.bool false] 4)).cell? ⟨w.heap.size, 0, none⟩ = some (.int .i64 t) := old1 (new0 rfl rfl) _
  have t1 : ((w.alloc (.cells #[.int .i64 t, .int .i64 q] 85)).alloc (.cells #[.bool false] 4)).cell? ⟨w.heap.size, 1, none⟩ = some (.int .i64 q) := old1 (new0 rfl rfl) _
  have y0 : ((w.alloc (.cells #[.int .i64 t, .int .i64 q] 85)).alloc (.cells #[.bool false] 4)).cell? ⟨w.heap.size + 1, 0, none⟩ = some (.bool false) := new0 (by simp) rfl
  have yf : ((w.alloc (.cells #[.int .i64 t, .int .i64 q] 85)).alloc (.cells #[.bool false] 4)).frozen? ⟨w.heap.size + 1, 0, none⟩ = false := by simp
  have BV : Below w.heap.size w ((w.alloc (.cells #[.int .i64 t, .int .i64 q] 85)).alloc (.cells #[.bool false] 4)) := ball (ball (Below.refl _ _) _) _
  have z0 : ((w.alloc (.cells #[.int .i64 t, .int .i64 q] 85)).alloc (.cells #[.bool false] 4)).heap.size = w.heap.size + 2 := by simp
  obtain ⟨V, hV⟩ : ∃ V, V = (w.alloc (.cells #[.int .i64 t, .int .i64 q] 85)).alloc (.cells #[.bool false] 4) := ⟨_, rfl⟩
  rw [← hV] at t0 t1 y0 yf BV z0
  try simp only [World.size_alloc, Nat.add_assoc, Nat.reduceAdd]
  rw [← hV]
  clear hV
  obtain ⟨k3, hk3⟩ : ∃ k3, w.heap.size = k3 := ⟨_, rfl⟩
  rw [hk3] at t0 t1 y0 yf z0 ⊢
  have hw3 : w.heap.size ≤ k3 := by omega
  have HK3 := Lib.hid hk3
  clear hk3
  refine range_plain (gf := 31) (lb := #[.pointer (some ⟨bn, 0, none⟩), .pointer (some ⟨bf, 0, none⟩), .pointer (some ⟨bg, 0, none⟩), .pointer (some ⟨bc, 0, none⟩)]) rfl (enters_of Try.func31 (by kernel_rfl) rfl) ?_
  intro fn V1 rec hrec hD hL hB1 hz1
  obtain ⟨D, hDe⟩ : ∃ D, V.heap.size = D := ⟨_, rfl⟩
  have B1 := bstep BV hB1
  have bV1 : Btn w k3 (k3 + 1) D (D + 1) t q false (.loop (rec .ready none)) V1 := ⟨B1, keep1 hB1 t0, keep1 hB1 t1, keep1 hB1 y0, keepF hB1 y0 yf, by rw [← hDe]; exact hD, by rw [← hDe]; exact hL⟩
  rw [hDe] at hrec z0 hz1 ⊢
  obtain ⟨L, hLe⟩ : ∃ L, L = D + 1 := ⟨_, rfl⟩
  rw [← hLe] at bV1 ⊢
  have hDb : k3 + 2 ≤ D := by omega
  have hDL : D < L := by omega
  clear hD hL hB1 t0 t1 y0 yf hDe z0 hLe hz1 B1 BV
  refine CallsIn.mono (told_any 1 L bn bf bg bc (L + 1) gr cs co fr N n a cap hn hm
    (Btn w k3 (k3 + 1) D L t q false (.loop (rec .ready none))) (Btn w k3 (k3 + 1) D L t q true (.loop (rec .done (some .ret)))) (badC t q)
    (Lib.hid ⟨?stk, ?sts⟩) (Lib.hid ?stx) (Lib.hid ?mem) (Lib.hid ?rnd) V1 (Lib.hid bV1)) ?fin
  case stk => exact fun X X' h hb => h.below hb (by omega) (by omega) (by omega) (by omega) (by omega)
  case sts => exact fun X h => (Array.getElem?_eq_some_iff.1 h.lo).1
  case stx => exact fun X X' h hb => h.below hb (by omega) (by omega) (by omega) (by omega) (by omega)
  case mem => exact fun X h => hnd.out.keep h.bb
  case fin =>
    rintro e W' ⟨⟨v, rfl⟩, hr⟩
    rcases hr with ⟨hb, hx⟩ | ⟨hb, hj⟩
    · have hres : y = true := hy.out.symm.trans hb
      subst hres
      refine ⟨some .ret, _, endLoop_rec hrec hx.lo (by simp), ?_⟩
      have h2 := hx.turn (.loop (rec .exhausted (some .ret))) (by omega) (by omega) (by omega) (by omega)
      have c3 : ((W'.putObj L (.loop (rec .exhausted (some .ret)))).putObj D (.deferred none)).cell? ⟨k3 + 1, 0, none⟩ = some (.bool true) := (putObj_cell (by simp only; omega)).trans h2.y0
      have b3 := putObj_below (o := .deferred none) h2.bb (show w.heap.size ≤ D by omega)
      have h2d := h2.d
      clear hb hx h2 bV1
      gi_wp2
      refine ⟨by simp, .inl ⟨_, _, rfl, run_takeDeferred h2d, ?_⟩⟩
      refine ⟨.bool true, ?_, rfl, b3⟩
      simp [results, Try.results25, go_sem, c3]
    · have hres : y = false := hy.out.symm.trans hb
      subst hres
      refine ⟨none, _, endLoop_rec hrec hj.lo (by simp), ?_⟩
      have h2 := hj.turn (.loop (rec .exhausted none)) (by omega) (by omega) (by omega) (by omega)
      have y1 := h2.y0
      have y2 := h2.yf
      have h3 := h2.set false (by omega) (by omega) (by omega) (by omega)
      have c3 : (((W'.putObj L (.loop (rec .exhausted none))).setCell ⟨k3 + 1, 0, none⟩ (.bool false)).putObj D (.deferred none)).cell? ⟨k3 + 1, 0, none⟩ = some (.bool false) := (putObj_cell (by simp only; omega)).trans h3.y0
      have b3 := putObj_below (o := .deferred none) h3.bb (show w.heap.size ≤ D by omega)
      have h3d := h3.d
      clear hb hj h2 h3 bV1
      gi_wp2_with fail
      refine ⟨by simp, .inl ⟨_, _, rfl, run_takeDeferred h3d, ?_⟩⟩
      refine ⟨.bool false, ?_, rfl, b3⟩
      simp [results, Try.results25, go_sem, c3]
  case rnd =>
    rintro t' q' X bX
    clear bV1
    refine round_boxed hrec bX.lo rfl ?_
    have HBX := Lib.hid bX
    have hXL : L < X.heap.size := (Array.getElem?_eq_some_iff.1 bX.lo).1
    clear bX
    simp only [List.zip_toArray, List.zip_cons_cons, List.zip_nil_right, List.foldl_toArray, List.foldl_cons, List.foldl_nil, List.setIfInBounds_toArray, List.set_cons_zero, List.set_cons_succ]
    gi_wp2_with fail
    have BA : Below X.heap.size X (X.alloc (.cells #[.int .i64 t', .int .i64 q'] 85)) := ball (Below.refl _ _) _
    have Tx := CAt.new X [.int .i64 t', .int .i64 q'] 85
    obtain ⟨V2, hV2⟩ : ∃ V2, X.alloc (.cells #[.int .i64 t', .int .i64 q'] 85) = V2 := ⟨_, rfl⟩
    rw [hV2] at Tx BA ⊢
    clear hV2
    refine ⟨(BA.block L hXL).trans HBX.out.lo, ?_⟩
    have bY := (HBX.out.keep BA).turn (.loop (rec .busy none)) (by omega) (by omega) (by omega) (by omega)
    have aY : Above (L + 1) X (V2.putObj L (.loop (rec .busy none))) := ((Above.refl (L + 1) X).below BA).put _ (by omega)
    obtain ⟨xb, hxb⟩ : ∃ xb, X.heap.size = xb := ⟨_, rfl⟩
    rw [hxb] at Tx hXL ⊢
    have tY : CAt (V2.putObj L (.loop (rec .busy none))) xb [.int .i64 t', .int .i64 q'] := fun j v hj => (putObj_cell (a := ⟨xb, j, none⟩) (by simp only; omega)).trans (Tx j v hj)
    obtain ⟨Y, hY'⟩ : ∃ Y, V2.putObj L (.loop (rec .busy none)) = Y := ⟨_, rfl⟩
    rw [hY'] at bY aY tY ⊢
    clear Tx HBX hxb BA hY'
    have HBY := Lib.hid bY; have HAY := Lib.hid aY
    have v1 := tY 0 _ rfl
    have v2 := tY 1 _ rfl
    have v3 := bY.t0
    have v4 := bY.t1
    have v5 := bY.y0
    have v6 := bY.yf
    clear bY aY tY
    obtain ⟨z, hz⟩ : ∃ z, (q' != q) = z := ⟨_, rfl⟩
    have HZ := Lib.hid hz
    obtain ⟨u, hu⟩ : ∃ u, betB t' q' t q = u := ⟨_, rfl⟩
    have HU := Lib.hid hu
    clear hu
    cases z
    · gi_wp2_with fail
      refine ⟨trivial, ?_⟩
      gi_wp2_with fail
      clear v1 v2 v3 v4 v5 v6
      refine ⟨_, _, end_rec hrec none HBY.out.lo, .inr ⟨by unfold badC; rw [HZ.out]; rfl, rfl, HBY.out.turn _ (by omega) (by omega) (by omega) (by omega), HAY.out.put _ (by omega)⟩⟩
    · gi_wp2_with fail
      refine ⟨trivial, ?_⟩
      refine (CallsIn.inRound L (callsIn_wide.2 (better_at t' q' t q u Y HU.out))).mono ?_
      rintro e W3 ⟨rfl, b3⟩
      have bW := HBY.out.keep b3
      have aW := HAY.out.below b3
      clear v1 v2 v3 v4 v5 v6 b3
      have w1 := bW.y0
      have w2 := bW.yf
      have HBW := Lib.hid bW; have HAW := Lib.hid aW
      clear bW aW
      cases u
      · gi_wp2_with fail
        clear w1 w2
        refine ⟨_, _, end_rec hrec none HBW.out.lo, .inr ⟨by unfold badC; rw [HZ.out, HU.out]; rfl, rfl, HBW.out.turn _ (by omega) (by omega) (by omega) (by omega), HAW.out.put _ (by omega)⟩⟩
      · gi_wp2_with fail
        clear w1 w2
        have bS := HBW.out.set true (by omega) (by omega) (by omega) (by omega)
        refine ⟨_, _, end_rec hrec (some .ret) bS.lo, .inl ⟨by unfold badC; rw [HZ.out, HU.out]; rfl, rfl, bS.turn _ (by omega) (by omega) (by omega) (by omega), (HAW.out.set 0 _ (by omega)).put _ (by omega)⟩⟩
end Go.Proofs.Ytleenbfldkmcaaa
