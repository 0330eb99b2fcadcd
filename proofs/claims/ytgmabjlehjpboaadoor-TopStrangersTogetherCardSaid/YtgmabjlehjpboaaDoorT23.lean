/- Proved: which half-open joins are left in a frame. Conditions: the list is short and lies in memory. -/
import Derived.Test.YtgmabjlehjpboaaDoorT22
namespace Go.Proofs.YtgmabjlehjpboaaDoor
open Go.RowKit Go.Sort Go.BigFrame Go.Proofs.YtgmabjlehjpboaaDoor.K
set_option linter.unusedVariables false
set_option linter.unusedSimpArgs false
attribute [local go_sem] cell_alloc_old

open Go.Maps Go.Shelf
def expireV (l : List Hf) (fr : Int) : List Hf := l.filter fun y => !endB fr y
theorem setCells_out {w : World} {g : Nat} {cs : List Value} (o : Nat) (vs : List Value) (h : CAt w g cs) (m : Nat) (hm : m ≤ o) : CAt (w.setCells g o vs) g (cs.take m) := fun j v hj => by
  rw [List.getElem?_take] at hj
  split at hj
  · rename_i hjm
    rw [World.cell?_setCells_out g vs o w ⟨g, j, none⟩ (fun _ _ => .inl (by simp only; omega))]
    exact h j v hj
  · cases hj
theorem below_sets {B b : Nat} {a : World} (hb : B ≤ b) : ∀ (vs : List Value) (o : Nat) (w : World), Below B a w → Below B a (w.setCells b o vs)
  | [], _, _, h => h
  | v :: r, o, w, h => below_sets hb r (o + 1) _ (h.setCell (by exact hb) v)
theorem size_sets {b : Nat} : ∀ (vs : List Value) (o : Nat) (w : World), (w.setCells b o vs).heap.size = w.heap.size
  | [], _, _ => rfl
  | v :: r, o, w => by
    have := size_sets (b := b) r (o + 1) (w.setCell ⟨b, o, none⟩ v)
    show ((w.setCell ⟨b, o, none⟩ v).setCells b (o + 1) r).heap.size = _
    simpa using this
theorem flat_take : ∀ (r : List Hf) (i : Nat), (flatL Hf.cs r).take (i * 6) = flatL Hf.cs (r.take i)
  | [], i => by simp [flatL]
  | y :: r, 0 => by simp [flatL]
  | y :: r, i + 1 => by
    rw [List.take_succ_cons, flat_cons, flat_cons, ← flat_take r i, show (i + 1) * 6 = i * 6 + 6 from by omega]
    rfl
/-- The row while it is rewritten. -/
structure RowD (l : List Hf) (fr : Int) (n i j : Nat) (r : List Hf) : Prop where
  len : r.length = n
  lt : i < j
  le : j ≤ n
  tk : r.take i = (l.take j).filter fun y => !endB fr y
  dr : ∀ t, j ≤ t → t < n → r.getD t default = l.getD t default
theorem RowD.skip {l : List Hf} {fr : Int} {n i j : Nat} {r : List Hf} (h : RowD l fr n i j r) (hn : n = l.length) (hj : j < n) (hx : endB fr (l.getD j default) = true) : RowD l fr n i (j + 1) r :=
  ⟨h.len, by have := h.lt; omega, hj, by rw [filter_snoc _ (by omega), ← h.tk, hx]; simp, fun t h1 h2 => h.dr t (by omega) h2⟩
theorem RowD.take {l : List Hf} {fr : Int} {n i j : Nat} {r : List Hf} (h : RowD l fr n i j r) (hn : n = l.length) (hj : j < n) (hx : endB fr (l.getD j default) = false) : RowD l fr n (i + 1) (j + 1) (r.set i (l.getD j default)) := by
  have hl := h.len
  have hlt := h.lt
  refine ⟨by simp [hl], by omega, hj, ?_, fun t h1 h2 => ?_⟩
  · rw [filter_snoc _ (by omega), hx, ← h.tk]
    simp only [Bool.not_false, if_true]
    rw [List.take_set, take_snoc (by omega), List.set_append_right _ _ (by rw [List.length_take]; exact Nat.min_le_left _ _)]
    have : i - (r.take i).length = 0 := by rw [List.length_take]; omega
    rw [this]; rfl
  · rw [← h.dr t (by omega) h2, List.getD_eq_getElem?_getD, List.getElem?_set_ne (by omega), ← List.getD_eq_getElem?_getD]
theorem index_nil (c : Nat) (f : Value) (w : World) : Calls Tryd.prog 51 #[.slice none 0 c, f] w fun e w' => e = .returned (.int .i64 (-1)) ∧ Below w.heap.size w w' := by
  go_enter Tryd.func51, Tryd.ntmps51
  go_wp2_with fail
  refine wp_loop_rounds 1 ?_
  rw [rounds_succ]
  go_wp2_with fail
  go_ret
  exact ⟨rfl, Below.refl _ _⟩
theorem delete_nil (c : Nat) (f : Value) (w : World) : Calls Tryd.prog 26 #[.slice none 0 c, f] w fun e w' => e = .returned (.slice none 0 c) ∧ Below w.heap.size w w' := by
  go_enter Tryd.func26, Tryd.ntmps26
  go_wp2_with fail
  refine (index_nil c f w).mono ?_
  rintro e w1 ⟨rfl, b1⟩
  go_wp2_with fail
  go_ret
  exact ⟨rfl, b1⟩
def DeletePost (l : List Hf) (fr : Int) (g cap : Nat) (w0 : World) (e : Ending) (w' : World) : Prop := ∃ m, e = .returned (.slice (some ⟨g, 0, none⟩) m cap) ∧ Hid (m = (expireV l fr).length) ∧ HsAt w' (some ⟨g, 0, none⟩) (expireV l fr) ∧ Below w0.heap.size w0 w' 
set_option maxRecDepth 100000 in
set_option maxHeartbeats 4000000 in
theorem delete_no (l : List Hf) (n cap g kf : Nat) (fr : Int) (w0 w : World) (BB : Below w0.heap.size w0 w) (hg : w0.heap.size ≤ g) (hgw : g < w.heap.size) (Tg : CAt w g (flatL Hf.cs l)) (Fg : Fz w g) (Tf : CAt w kf [.int .i64 fr]) (hne : kf ≠ g) (hn : Hid (n = l.length)) (h4 : n ≤ 60) (hc : n ≤ cap) (hm : cap ≤ maxLen) (hi : Lib.idxByFrom (fun _ y => endB fr y) default l 0 = -1) : Calls Tryd.prog 26 #[.slice (some ⟨g, 0, none⟩) n cap, .func (.func 28) #[] #[.pointer (some ⟨kf, 0, none⟩)]] w (DeletePost l fr g cap w0) := by
  have e1 : expireV l fr = l := idx_no (endB fr) l 0 hi
  have HI := Lib.hid hi; clear hi
  go_enter Tryd.func26, Tryd.ntmps26
  go_wp2_with fail
  refine (index_at l fr g kf cap w Tg hgw (Tf 0 _ rfl) n hn h4).mono ?_
  rintro e w1 ⟨rfl, b1⟩
  rw [HI.out]
  go_wp2_with fail
  go_ret
  refine ⟨_, rfl, ?_, ?_, bstep BB b1⟩
  · rw [e1]; exact hn
  · rw [e1]; exact CAt.hs (Tg.keep b1) (Nat.lt_of_lt_of_le hgw b1.size)
set_option maxRecDepth 100000 in
set_option maxHeartbeats 4000000 in
theorem delete_yes (l : List Hf) (n cap g kf : Nat) (fr : Int) (w0 w : World) (BB : Below w0.heap.size w0 w) (hg : w0.heap.size ≤ g) (hgw : g < w.heap.size) (Tg : CAt w g (flatL Hf.cs l)) (Fg : Fz w g) (Tf : CAt w kf [.int .i64 fr]) (hne : kf ≠ g) (hn : Hid (n = l.length)) (h4 : n ≤ 60) (hc : n ≤ cap) (hm : cap ≤ maxLen) (i0 : Nat) (hi : Lib.idxByFrom (fun _ y => endB fr y) default l 0 = (i0 : Int)) (hi0 : i0 < n) (hf : (l.take (i0 + 1)).filter (fun y => !endB fr y) = l.take i0) : Calls Tryd.prog 26 #[.slice (some ⟨g, 0, none⟩) n cap, .func (.func 28) #[] #[.pointer (some ⟨kf, 0, none⟩)]] w (DeletePost l fr g cap w0) := by
  have HI := Lib.hid hi; clear hi
  have hr0 : RowD l fr n i0 (i0 + 1) l := ⟨hn.out.symm, by omega, hi0, hf.symm, fun t _ _ => rfl⟩
  clear hf
  have hmx : maxLen = 9223372036854775807 := rfl
  go_enter Tryd.func26, Tryd.ntmps26
  go_wp2_with fail
  refine (index_at l fr g kf cap w Tg hgw (Tf 0 _ rfl) n hn h4).mono ?_
  rintro e w1 ⟨rfl, b1⟩
  rw [HI.out]
  replace Tg := Tg.keep b1; replace Fg := Fg.keep b1; replace Tf := Tf.keep b1; replace BB := bstep BB b1
  replace hgw := Nat.lt_of_lt_of_le hgw b1.size
  clear b1
  have hne1 : ((i0 : Int) == -1) = false := by simp
  have hwi : IntKind.i64.wrap ((i0 : Int) + 1) = ((i0 + 1 : Nat) : Int) := by rw [IntWalk.i64_in _ (by omega)]; omega
  go_wp2_with fail
  go_loopw [5, 6] (fun u v wr => ∃ (i j : Nat) (r : List Hf), u = .int .i64 i ∧ v = .int .i64 j ∧ RowD l fr n i j r ∧ Below w0.heap.size w0 wr ∧ CAt wr g (flatL Hf.cs r) ∧ Fz wr g ∧ CAt wr kf [.int .i64 fr]) (fun _ v _ => n - (intOf v).toNat)
  case atStart => exact ⟨i0, i0 + 1, l, rfl, rfl, hr0, BB, Tg, Fg, Tf⟩
  case round =>
    clear BB Tg Fg Tf hr0 hwi
    obtain ⟨i, j, r, rfl, rfl, hr, BB, Tg, Fg, Tf⟩ := hrel
    have hij := hr.lt
    have hjn := hr.le
    have hrl := hr.len
    by_cases hlt : j < n
    · have hlt' : (j : Int) < (n : Int) := by omega
      have hj0 : (0 : Int) ≤ (j : Int) := by omega
      have hi0' : (0 : Int) ≤ (i : Int) := by omega
      have hil : (i : Int) < (n : Int) := by omega
      have hwj : IntKind.i64.wrap ((j : Int) + 1) = ((j + 1 : Nat) : Int) := by rw [IntWalk.i64_in _ (by omega)]; omega
      have hwi : IntKind.i64.wrap ((i : Int) + 1) = ((i + 1 : Nat) : Int) := by rw [IntWalk.i64_in _ (by omega)]; omega
      obtain ⟨c0, c1, c2, c3, c4, c5⟩ := CAt.hf Tg (i := j) (by omega)
      have hd := hr.dr j (Nat.le_refl _) hlt
      have hskip := fun h => hr.skip hn.out hlt h
      have htake := fun h => hr.take hn.out hlt h
      obtain ⟨x, hx⟩ : ∃ x, l.getD j default = x := ⟨_, rfl⟩
      rw [hx] at hd hskip htake
      rw [hd] at c0 c1 c2 c3 c4 c5
      clear hx hd hr
      go_upto_region 8 with (fail)
      clear c0 c1 c2 c3 c4 c5
      have hgl : g < wr.heap.size := Fg.2
      have bs1 : w0.heap.size ≤ wr.heap.size := BB.size
      have Tx := CAt.new (wr) [.int .i64 x.s, .int .i64 x.n, .int .i64 x.c, .int .i64 x.u, .bool x.pr, .int .i64 x.k] 70
      replace Tg := Tg.keep (Below.alloc (Below.refl _ (wr)) (Nat.le_refl _) (.cells #[.int .i64 x.s, .int .i64 x.n, .int .i64 x.c, .int .i64 x.u, .bool x.pr, .int .i64 x.k] 70))
      replace Fg := Fg.keep (Below.alloc (Below.refl _ (wr)) (Nat.le_refl _) (.cells #[.int .i64 x.s, .int .i64 x.n, .int .i64 x.c, .int .i64 x.u, .bool x.pr, .int .i64 x.k] 70))
      replace Tf := Tf.keep (Below.alloc (Below.refl _ (wr)) (Nat.le_refl _) (.cells #[.int .i64 x.s, .int .i64 x.n, .int .i64 x.c, .int .i64 x.u, .bool x.pr, .int .i64 x.k] 70))
      replace BB := ball BB (.cells #[.int .i64 x.s, .int .i64 x.n, .int .i64 x.c, .int .i64 x.u, .bool x.pr, .int .i64 x.k] 70)
      obtain ⟨V1, hV1⟩ : ∃ V1, wr.alloc (.cells #[.int .i64 x.s, .int .i64 x.n, .int .i64 x.c, .int .i64 x.u, .bool x.pr, .int .i64 x.k] 70) = V1 := ⟨_, rfl⟩
      rw [hV1] at BB Tx Tg Fg Tf ⊢
      clear hV1
      obtain ⟨k1, hk1⟩ : ∃ k1, wr.heap.size = k1 := ⟨_, rfl⟩
      rw [hk1] at Tx bs1 ⊢
      clear hk1
      have x0 := Tx 0 _ rfl
      have x1 := Tx 1 _ rfl
      have x2 := Tx 2 _ rfl
      have x3 := Tx 3 _ rfl
      have x4 := Tx 4 _ rfl
      have x5 := Tx 5 _ rfl
      go_wp2_with fail
      clear x0 x1 x2 x3 x4 x5
      have hkx := Tf 0 _ rfl
      refine (ended_at fr x kf V1 hkx).mono ?_
      clear hkx
      rintro e w2 ⟨rfl, b2⟩
      replace Tg := Tg.keep b2
      replace Fg := Fg.keep b2
      replace Tf := Tf.keep b2
      replace Tx := Tx.keep b2
      replace BB := bstep BB b2
      clear b2
      cases hend : endB fr x
      · have hr2 := htake hend
        have HE := Lib.hid hend; clear hend hskip htake
        have x0 := Tx 0 _ rfl
        have x1 := Tx 1 _ rfl
        have x2 := Tx 2 _ rfl
        have x3 := Tx 3 _ rfl
        have x4 := Tx 4 _ rfl
        have x5 := Tx 5 _ rfl
        obtain ⟨d0, d1, d2, d3, d4, d5⟩ := CAt.hf Tg (i := i) (by omega)
        have e0 := Fg.1 (i * 6); have e1 := Fg.1 (i * 6 + 1); have e2 := Fg.1 (i * 6 + 2); have e3 := Fg.1 (i * 6 + 3); have e4 := Fg.1 (i * 6 + 4); have e5 := Fg.1 (i * 6 + 5)
        go_upto_region 10 with (fail)
        clear x0 x1 x2 x3 x4 x5
        clear d0 d1 d2 d3 d4 d5 e0 e1 e2 e3 e4 e5
        replace Tg := CAt.put6 Tg i (by omega) x
        obtain ⟨V9, hV9⟩ : ∃ V9, (((((w2.setCell ⟨g, i * 6, none⟩ (.int .i64 x.s)).setCell ⟨g, i * 6 + 1, none⟩ (.int .i64 x.n)).setCell ⟨g, i * 6 + 2, none⟩ (.int .i64 x.c)).setCell ⟨g, i * 6 + 3, none⟩ (.int .i64 x.u)).setCell ⟨g, i * 6 + 4, none⟩ (.bool x.pr)).setCell ⟨g, i * 6 + 5, none⟩ (.int .i64 x.k) = V9 := ⟨_, rfl⟩
        replace BB := (((((BB.setCell (p := ⟨g, i * 6, none⟩) hg (.int .i64 x.s)).setCell (p := ⟨g, i * 6 + 1, none⟩) hg (.int .i64 x.n)).setCell (p := ⟨g, i * 6 + 2, none⟩) hg (.int .i64 x.c)).setCell (p := ⟨g, i * 6 + 3, none⟩) hg (.int .i64 x.u)).setCell (p := ⟨g, i * 6 + 4, none⟩) hg (.bool x.pr)).setCell (p := ⟨g, i * 6 + 5, none⟩) hg (.int .i64 x.k)
        replace Fg := (((((Fg.set ⟨g, i * 6, none⟩ (.int .i64 x.s)).set ⟨g, i * 6 + 1, none⟩ (.int .i64 x.n)).set ⟨g, i * 6 + 2, none⟩ (.int .i64 x.c)).set ⟨g, i * 6 + 3, none⟩ (.int .i64 x.u)).set ⟨g, i * 6 + 4, none⟩ (.bool x.pr)).set ⟨g, i * 6 + 5, none⟩ (.int .i64 x.k)
        replace Tf := (((((Tf.other (k' := g) (fun e => hne e.symm) (i * 6) (.int .i64 x.s)).other (k' := g) (fun e => hne e.symm) (i * 6 + 1) (.int .i64 x.n)).other (k' := g) (fun e => hne e.symm) (i * 6 + 2) (.int .i64 x.c)).other (k' := g) (fun e => hne e.symm) (i * 6 + 3) (.int .i64 x.u)).other (k' := g) (fun e => hne e.symm) (i * 6 + 4) (.bool x.pr)).other (k' := g) (fun e => hne e.symm) (i * 6 + 5) (.int .i64 x.k)
        rw [hV9] at Tg BB Fg Tf ⊢
        clear hV9
        go_wp2_with fail
        go_roundw
        case rel => exact ⟨i + 1, j + 1, _, rfl, rfl, hr2, BB, Tg, Fg, Tf⟩
        case measure => simp [intOf]; omega
      · have hr2 := hskip hend
        have HE := Lib.hid hend; clear hend hskip htake
        clear Tx
        go_wp2_with fail
        go_roundw
        case rel => exact ⟨i, j + 1, _, rfl, rfl, hr2, BB, Tg, Fg, Tf⟩
        case measure => simp [intOf]; omega
    · have hjn' : j = n := by omega
      subst hjn'
      have hlt' : ¬ (j : Int) < (j : Int) := by omega
      have hi0' : (0 : Int) ≤ (i : Int) := by omega
      have hij' : (i : Int) ≤ (j : Int) := by omega
      have hic' : (i : Int) ≤ (cap : Int) := by omega
      have htk : r.take i = expireV l fr := by rw [hr.tk]; unfold expireV; rw [hn.out, List.take_length]
      have hlen : i = (expireV l fr).length := by rw [← htk, List.length_take]; omega
      have HTK := Lib.hid htk; have HLN := Lib.hid hlen; clear htk hlen
      have hcl : ∀ ty, ∃ vs, (Builtin.clear_ #[24] ty #[.slice (some ⟨g, i * 6, none⟩) (j - i) (cap - i)]).run Tryd.prog wr = .ok (.tuple #[]) (wr.setCells g (i * 6) vs) := fun ty => clear6 wr ty g (i * 6) (j - i) (cap - i) (by omega) (fun t ht => by
        have hl : (flatL Hf.cs r).length = r.length * 6 := flatL_len hf_size r
        have : i * 6 + t < (flatL Hf.cs r).length := by rw [hl, hrl]; omega
        rw [Tg (i * 6 + t) _ (List.getElem?_eq_getElem this)]; rfl) Fg.1
      obtain ⟨vs, hclr⟩ := hcl 0
      go_upto_region 12 with (fail)
      have Tg2 := setCells_out (i * 6) vs Tg (i * 6) (Nat.le_refl _)
      rw [flat_take, HTK.out] at Tg2
      have hgl : g < (wr.setCells g (i * 6) vs).heap.size := by rw [size_sets]; exact Fg.2
      have BB2 := below_sets hg vs (i * 6) wr BB
      go_wp2_with fail
      go_ret
      exact ⟨_, rfl, HLN, CAt.hs Tg2 hgl, BB2⟩
theorem At.flat {w : World} {b off : Nat} {l : List Hf} (h : At 6 Hf.cs w (some ⟨b, off, none⟩) l) : ∀ j u, (flatL Hf.cs l)[j]? = some u → w.cell? ⟨b, off + j, none⟩ = some u := fun j u hj => by
  have hlt : j < (flatL Hf.cs l).length := (List.getElem?_eq_some_iff.1 hj).1
  rw [flatL_len hf_size] at hlt
  have hq : j / 6 < l.length := by omega
  obtain ⟨b', off', e, hc⟩ := h.at hq
  simp only [Option.some.injEq, Addr.mk.injEq, and_true] at e
  obtain ⟨rfl, rfl⟩ := e
  have hm : j % 6 < 6 := by omega
  have := hc (j / 6) hq (j % 6) u (by rw [← flatL_at hf_size l (j / 6) (j % 6) hq hm, show j / 6 * 6 + j % 6 = j from by omega]; exact hj)
  rw [show off + j = off + j / 6 * 6 + j % 6 from by omega]; exact this
theorem flat_one (l : List Hf) : ∀ u ∈ flatL Hf.cs l, u.oneCell' = true := fun u hu => by
  unfold flatL at hu
  obtain ⟨x, _, hx⟩ := List.mem_flatMap.1 hu
  exact hf_one x u hx
theorem clone_at (l : List Hf) (n b off cap : Nat) (w : World) (hn : Hid (n = l.length)) (h4 : n ≤ 60) (hl : HsAt w (some ⟨b, off, none⟩) l) : Calls Tryd.prog 27 #[.slice (some ⟨b, off, none⟩) n cap] w fun e w' => ∃ g c, e = .returned (.slice (some ⟨g, 0, none⟩) n c) ∧ w.heap.size ≤ g ∧ g < w'.heap.size ∧ n ≤ c ∧ c ≤ maxLen ∧ CAt w' g (flatL Hf.cs l) ∧ Fz w' g ∧ Below w.heap.size w w' := by
  obtain ⟨i0, hi0, hz0, hz1, hz2⟩ := info_parts info70
  have hfl : (flatL Hf.cs l).length = n * 6 := by rw [flatL_len hf_size, hn.out]
  have h := AnyE.slices_Clone (ρ := Tryd.cloneA_ren) Tryd.cloneA i0 _ 6 48 hi0 hz0 hz1 hz2 rfl (by decide) Tryd.sizeOf70 b off n cap (flatL Hf.cs l) w hfl (by unfold maxLen; omega) (by omega) (At.flat hl.cells) (flat_one l)
  change Calls Tryd.prog 27 _ _ _ at h
  refine h.mono ?_
  rintro e w' ⟨v', rfl, hrow, hne, hb⟩
  have h0 := hrow
  rcases hrow.2 with ⟨hv, hz⟩ | ⟨g, c, cur, rfl, hbg, hgg, hnc, hcm, hcs, htk⟩
  · exact absurd hv hne
  · have hgl : g < w'.heap.size := (Array.getElem?_eq_some_iff.1 hgg).1
    refine ⟨g, c, rfl, hbg, hgl, hnc, hcm, fun j u hj => ?_, ⟨fun j => World.ownsRow.frozenAt h0 j, hgl⟩, hb⟩
    have hlt : j < n * 6 := by rw [← hfl]; exact (List.getElem?_eq_some_iff.1 hj).1
    have := World.ownsRow.cellAt h0 j hlt
    rw [this]; exact hj
theorem expire_some (l : List Hf) (n b off cap : Nat) (fr : Int) (w : World) (hn : Hid (n = l.length)) (h4 : n ≤ 60) (hl : HsAt w (some ⟨b, off, none⟩) l) : Calls Tryd.prog 14 #[.slice (some ⟨b, off, none⟩) n cap, .int .i64 fr] w (HalvesPost (expireV l fr) w) := by
  have BB := ball (Below.refl _ w) (.cells #[.int .i64 fr] 3)
  have Tf := CAt.new w [.int .i64 fr] 3
  have hl1 := hl.keep BB
  go_enter Tryd.func14, Tryd.ntmps14
  go_wp2_with fail
  refine (clone_at l n b off cap _ hn h4 hl1).mono ?_
  rintro e w1 ⟨g, c, rfl, hg0, hgw, hnc, hcm, Tg, Fg, b1⟩
  simp only [World.size_alloc] at hg0
  replace Tf := Tf.keep b1
  replace BB := bstep BB b1
  clear b1 hl1
  go_wp2_with fail
  have hD : Calls Tryd.prog 26 #[.slice (some ⟨g, 0, none⟩) n c, .func (.func 28) #[] #[.pointer (some ⟨w.heap.size, 0, none⟩)]] w1 (DeletePost l fr g c w) := by
    rcases idx_yes (endB fr) l 0 with hi | ⟨k, hk, hi, hf⟩
    · exact delete_no l n c g w.heap.size fr w w1 BB (by omega) hgw Tg Fg Tf (by omega) hn h4 hnc hcm hi
    · exact delete_yes l n c g w.heap.size fr w w1 BB (by omega) hgw Tg Fg Tf (by omega) hn h4 hnc hcm k (by rw [hi, Nat.zero_add]) (by rw [hn.out]; exact hk) hf
  refine hD.mono ?_
  rintro e w2 ⟨m, rfl, hm, hls, b2⟩
  go_wp2_with fail
  go_ret
  exact ⟨_, _, _, rfl, hm, hls, b2, Fresh.at _ _ _ (by omega)⟩
theorem expire_nil (l : List Hf) (hl : l = []) (fr : Int) (cap : Nat) (w : World) : Calls Tryd.prog 14 #[.slice none 0 cap, .int .i64 fr] w (HalvesPost (expireV l fr) w) := by
  have e : expireV l fr = [] := by rw [hl]; rfl
  rw [e]
  have BB := ball (Below.refl _ w) (.cells #[.int .i64 fr] 3)
  have hcl := fun W => AnyE.slices_Clone_nil (ρ := Tryd.cloneA_ren) Tryd.cloneA 0 cap W
  go_enter Tryd.func14, Tryd.ntmps14
  go_wp2_with fail
  refine (show Calls Tryd.prog 27 _ _ _ from hcl _).mono ?_
  rintro e w1 ⟨rfl, rfl⟩
  go_wp2_with fail
  refine (delete_nil 0 _ _).mono ?_
  rintro e w1 ⟨rfl, b1⟩
  go_wp2_with fail
  go_ret
  exact ⟨_, _, _, rfl, Lib.hid rfl, HsAt.nil _, bstep BB b1, Fresh.none _⟩
theorem expire_at (l : List Hf) (n : Nat) (a : Option Addr) (cap : Nat) (fr : Int) (w : World) (hn : Hid (n = l.length)) (h4 : n ≤ 60) (hl : HsAt w a l) : Calls Tryd.prog 14 #[.slice a n cap, .int .i64 fr] w (HalvesPost (expireV l fr) w) := by
  rcases hl.ad with rfl | ⟨b, off, rfl, _⟩
  · have e : l = [] := by
      rcases hl.cells with h | ⟨_, _, h, _⟩
      · exact h
      · cases h
    have hn0 : n = 0 := by rw [hn.out, e]; rfl
    subst hn0
    exact expire_nil l e fr cap w
  · exact expire_some l n b off cap fr w hn h4 hl
end Go.Proofs.YtgmabjlehjpboaaDoor
