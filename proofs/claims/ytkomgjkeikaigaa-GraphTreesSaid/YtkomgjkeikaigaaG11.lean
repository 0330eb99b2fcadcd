/- Proved: that the fixed examples of the graph statements hold. Conditions: none. -/
import Derived.Test.YtkomgjkeikaigaaG10
namespace Go.Proofs.Ytkomgjkeikaigaa
open Go.RowKit Go.Sort Go.BigFrame
set_option linter.unusedVariables false
set_option linter.unusedSimpArgs false
attribute [local go_sem] cell_alloc_old

theorem ints_of_cat {w : World} {k : Nat} {zs : List Int} (h : CAt w k (zs.map (Value.int .i64))) : IntsAt .i64 w (some ⟨k, 0, none⟩) zs := .inr ⟨k, 0, rfl, fun j hj => by
  rw [Nat.zero_add]
  exact h j _ (by rw [List.getElem?_map, List.getElem?_eq_getElem hj, List.getD_eq_getElem?_getD, List.getElem?_eq_getElem hj]; rfl)⟩
theorem bools_of_cat {w : World} {k : Nat} {bs : List Bool} (h : CAt w k (bs.map Value.bool)) : BoolsAt w (some ⟨k, 0, none⟩) bs := .inr ⟨k, 0, rfl, fun j hj => by
  rw [Nat.zero_add]
  exact h j _ (by rw [List.getElem?_map, List.getElem?_eq_getElem hj, List.getD_eq_getElem?_getD, List.getElem?_eq_getElem hj]; rfl)⟩
theorem depths_at (h : Tab) (n : Nat) (a : Option Addr) (cap : Nat) (root : Int) (w : World) (hn : n = h.length) (hl : TabAt w a h) (hm : n ≤ maxLen) (o : List Int) (er : Int) (ho : (okD h root = true ∧ depthV h root.toNat = o ∧ er = 0) ∨ (okD h root = false ∧ o = [] ∧ er = 1)) :
    Calls Try.prog 12 #[.slice a n cap, .int .i64 root] w (ErrPost o er w) :=
  (depths_any h n a cap root w hn hl hm).mono fun e w' hp => by
    rcases ho with ⟨h1, rfl, rfl⟩ | ⟨h1, rfl, rfl⟩
    · exact hp.1 h1
    · exact hp.2 h1
theorem rdepths_at (h : Tab) (n : Nat) (a : Option Addr) (cap : Nat) (root : Int) (w : World) (hn : n = h.length) (hl : TabAt w a h) (hm : n ≤ maxLen) (o : List Int) (er : Int) (ho : (okD h root = true ∧ depthV h root.toNat = o ∧ er = 0) ∨ (okD h root = false ∧ o = [] ∧ er = 1)) :
    Calls Try.prog 13 #[.slice a n cap, .int .i64 root] w (ErrPost o er w) :=
  (rdepths_any h n a cap root w hn hl hm).mono fun e w' hp => by
    rcases ho with ⟨h1, rfl, rfl⟩ | ⟨h1, rfl, rfl⟩
    · exact hp.1 h1
    · exact hp.2 h1
theorem isles_at (h : Tab) (n : Nat) (a : Option Addr) (cap : Nat) (w : World) (hn : n = h.length) (hl : TabAt w a h) (hm : n ≤ maxLen) (o : List Int) (er : Int) (ho : (validB h = true ∧ isleV h = o ∧ er = 0) ∨ (validB h = false ∧ o = [] ∧ er = 1)) :
    Calls Try.prog 14 #[.slice a n cap] w (ErrPost o er w) :=
  (isles_any h n a cap w hn hl hm).mono fun e w' hp => by
    rcases ho with ⟨h1, rfl, rfl⟩ | ⟨h1, rfl, rfl⟩
    · exact hp.1 h1
    · exact hp.2 h1
theorem risles_at (h : Tab) (n : Nat) (a : Option Addr) (cap : Nat) (w : World) (hn : n = h.length) (hl : TabAt w a h) (hm : n ≤ maxLen) (o : List Int) (er : Int) (ho : (validB h = true ∧ isleV h = o ∧ er = 0) ∨ (validB h = false ∧ o = [] ∧ er = 1)) :
    Calls Try.prog 15 #[.slice a n cap] w (ErrPost o er w) :=
  (risles_any h n a cap w hn hl hm).mono fun e w' hp => by
    rcases ho with ⟨h1, rfl, rfl⟩ | ⟨h1, rfl, rfl⟩
    · exact hp.1 h1
    · exact hp.2 h1
def H0 : Tab := [[false, true, false, false, false], [true, false, true, false, false], [false, true, false, false, false], [false, false, false, false, true], [false, false, false, true, false]]
def P0 : List Int := [-1, 0, 3, 4, 2, 2]
theorem valid0 : Valid H0 := by
  refine ⟨by decide, by decide, by decide, by decide⟩
theorem depth0 : DepthOk H0 0 [0, 1, 2, -1, -1] := by
  refine ⟨by decide, by decide, by decide, fun i hi hp => ?_, by decide⟩
  match i, hi with
  | 0, _ => exact absurd hp (by decide)
  | 1, _ => exact ⟨0, by decide, by decide, by decide⟩
  | 2, _ => exact ⟨1, by decide, by decide, by decide⟩
  | 3, _ => exact absurd hp (by decide)
  | 4, _ => exact absurd hp (by decide)
theorem isle0 : IsleOk H0 [0, 0, 0, 3, 3] := by
  refine ⟨by decide, by decide, fun i hi => ?_, by decide⟩
  match i, hi with
  | 0, _ => exact .refl 0
  | 1, _ => exact .step (.refl 1) (by decide) (by decide)
  | 2, _ => exact .step (.step (.refl 2) (k := 1) (by decide) (by decide)) (by decide) (by decide)
  | 3, _ => exact .refl 3
  | 4, _ => exact .step (.refl 4) (by decide) (by decide)
theorem ok0 : okD H0 0 = true := by unfold okD; rw [valid_true valid0]; decide
theorem ok5 : okD H0 5 = false := by unfold okD; rw [valid_true valid0]; decide
theorem loop0 : loopL P0 = [2, 3, 4] := by decide +kernel
theorem loop1 : loopL [0] = [0] := by decide +kernel
theorem reach0 : reachL P0 0 = [true, true, false, false, false, false] := by decide +kernel

set_option maxRecDepth 100000 in
set_option maxHeartbeats 4000000 in
theorem head_any (w : World) : Calls Try.prog 10 #[] w (Yes true w) := by
  go_enter Try.func10, Try.ntmps10
  go_wp2_with fail
  have Tp := CAt.new (w) [.int .i64 (-1), .int .i64 0, .int .i64 3, .int .i64 4, .int .i64 2, .int .i64 2] 3
  have BB : Below w.heap.size w ((w).alloc (.cells #[.int .i64 (-1), .int .i64 0, .int .i64 3, .int .i64 4, .int .i64 2, .int .i64 2] 3)) := ball (Below.refl _ _) _
  have Ta := CAt.new (w.alloc (.cells #[.int .i64 (-1), .int .i64 0, .int .i64 3, .int .i64 4, .int .i64 2, .int .i64 2] 3)) [.bool false, .bool true, .bool false, .bool false, .bool false] 4
  replace Tp := Tp.alloc (.cells #[.bool false, .bool true, .bool false, .bool false, .bool false] 4)
  replace BB := ball BB (.cells #[.bool false, .bool true, .bool false, .bool false, .bool false] 4)
  have Tb := CAt.new ((w.alloc (.cells #[.int .i64 (-1), .int .i64 0, .int .i64 3, .int .i64 4, .int .i64 2, .int .i64 2] 3)).alloc (.cells #[.bool false, .bool true, .bool false, .bool false, .bool false] 4)) [.bool true, .bool false, .bool true, .bool false, .bool false] 4
  replace Tp := Tp.alloc (.cells #[.bool true, .bool false, .bool true, .bool false, .bool false] 4)
  replace Ta := Ta.alloc (.cells #[.bool true, .bool false, .bool true, .bool false, .bool false] 4)
  replace BB := ball BB (.cells #[.bool true, .bool false, .bool true, .bool false, .bool false] 4)
  have Tc := CAt.new (((w.alloc (.cells #[.int .i64 (-1), .int .i64 0, .int .i64 3, .int .i64 4, .int .i64 2, .int .i64 2] 3)).alloc (.cells #[.bool false, .bool true, .bool false, .bool false, .bool false] 4)).alloc (.cells #[.bool true, .bool false, .bool true, .bool false, .bool false] 4)) [.bool false, .bool true, .bool false, .bool false, .bool false] 4
  replace Tp := Tp.alloc (.cells #[.bool false, .bool true, .bool false, .bool false, .bool false] 4)
  replace Ta := Ta.alloc (.cells #[.bool false, .bool true, .bool false, .bool false, .bool false] 4)
  replace Tb := Tb.alloc (.cells #[.bool false, .bool true, .bool false, .bool false, .bool false] 4)
  replace BB := ball BB (.cells #[.bool false, .bool true, .bool false, .bool false, .bool false] 4)
  have Td := CAt.new ((((w.alloc (.cells #[.int .i64 (-1), .int .i64 0, .int .i64 3, .int .i64 4, .int .i64 2, .int .i64 2] 3)).alloc (.cells #[.bool false, .bool true, .bool false, .bool false, .bool false] 4)).alloc (.cells #[.bool true, .bool false, .bool true, .bool false, .bool false] 4)).alloc (.cells #[.bool false, .bool true, .bool false, .bool false, .bool false] 4)) [.bool false, .bool false, .bool false, .bool false, .bool true] 4
  replace Tp := Tp.alloc (.cells #[.bool false, .bool false, .bool false, .bool false, .bool true] 4)
  replace Ta := Ta.alloc (.cells #[.bool false, .bool false, .bool false, .bool false, .bool true] 4)
  replace Tb := Tb.alloc (.cells #[.bool false, .bool false, .bool false, .bool false, .bool true] 4)
  replace Tc := Tc.alloc (.cells #[.bool false, .bool false, .bool false, .bool false, .bool true] 4)
  replace BB := ball BB (.cells #[.bool false, .bool false, .bool false, .bool false, .bool true] 4)
  have Te := CAt.new (((((w.alloc (.cells #[.int .i64 (-1), .int .i64 0, .int .i64 3, .int .i64 4, .int .i64 2, .int .i64 2] 3)).alloc (.cells #[.bool false, .bool true, .bool false, .bool false, .bool false] 4)).alloc (.cells #[.bool true, .bool false, .bool true, .bool false, .bool false] 4)).alloc (.cells #[.bool false, .bool true, .bool false, .bool false, .bool false] 4)).alloc (.cells #[.bool false, .bool false, .bool false, .bool false, .bool true] 4)) [.bool false, .bool false, .bool false, .bool true, .bool false] 4
  replace Tp := Tp.alloc (.cells #[.bool false, .bool false, .bool false, .bool true, .bool false] 4)
  replace Ta := Ta.alloc (.cells #[.bool false, .bool false, .bool false, .bool true, .bool false] 4)
  replace Tb := Tb.alloc (.cells #[.bool false, .bool false, .bool false, .bool true, .bool false] 4)
  replace Tc := Tc.alloc (.cells #[.bool false, .bool false, .bool false, .bool true, .bool false] 4)
  replace Td := Td.alloc (.cells #[.bool false, .bool false, .bool false, .bool true, .bool false] 4)
  replace BB := ball BB (.cells #[.bool false, .bool false, .bool false, .bool true, .bool false] 4)
  have Tt := CAt.new ((((((w.alloc (.cells #[.int .i64 (-1), .int .i64 0, .int .i64 3, .int .i64 4, .int .i64 2, .int .i64 2] 3)).alloc (.cells #[.bool false, .bool true, .bool false, .bool false, .bool false] 4)).alloc (.cells #[.bool true, .bool false, .bool true, .bool false, .bool false] 4)).alloc (.cells #[.bool false, .bool true, .bool false, .bool false, .bool false] 4)).alloc (.cells #[.bool false, .bool false, .bool false, .bool false, .bool true] 4)).alloc (.cells #[.bool false, .bool false, .bool false, .bool true, .bool false] 4)) [.slice (some ⟨w.heap.size + 1, 0, none⟩) 5 5, .slice (some ⟨w.heap.size + 2, 0, none⟩) 5 5, .slice (some ⟨w.heap.size + 3, 0, none⟩) 5 5, .slice (some ⟨w.heap.size + 4, 0, none⟩) 5 5, .slice (some ⟨w.heap.size + 5, 0, none⟩) 5 5] 33
  replace Tp := Tp.alloc (.cells #[.slice (some ⟨w.heap.size + 1, 0, none⟩) 5 5, .slice (some ⟨w.heap.size + 2, 0, none⟩) 5 5, .slice (some ⟨w.heap.size + 3, 0, none⟩) 5 5, .slice (some ⟨w.heap.size + 4, 0, none⟩) 5 5, .slice (some ⟨w.heap.size + 5, 0, none⟩) 5 5] 33)
  replace Ta := Ta.alloc (.cells #[.slice (some ⟨w.heap.size + 1, 0, none⟩) 5 5, .slice (some ⟨w.heap.size + 2, 0, none⟩) 5 5, .slice (some ⟨w.heap.size + 3, 0, none⟩) 5 5, .slice (some ⟨w.heap.size + 4, 0, none⟩) 5 5, .slice (some ⟨w.heap.size + 5, 0, none⟩) 5 5] 33)
  replace Tb := Tb.alloc (.cells #[.slice (some ⟨w.heap.size + 1, 0, none⟩) 5 5, .slice (some ⟨w.heap.size + 2, 0, none⟩) 5 5, .slice (some ⟨w.heap.size + 3, 0, none⟩) 5 5, .slice (some ⟨w.heap.size + 4, 0, none⟩) 5 5, .slice (some ⟨w.heap.size + 5, 0, none⟩) 5 5] 33)
  replace Tc := Tc.alloc (.cells #[.slice (some ⟨w.heap.size + 1, 0, none⟩) 5 5, .slice (some ⟨w.heap.size + 2, 0, none⟩) 5 5, .slice (some ⟨w.heap.size + 3, 0, none⟩) 5 5, .slice (some ⟨w.heap.size + 4, 0, none⟩) 5 5, .slice (some ⟨w.heap.size + 5, 0, none⟩) 5 5] 33)
  replace Td := Td.alloc (.cells #[.slice (some ⟨w.heap.size + 1, 0, none⟩) 5 5, .slice (some ⟨w.heap.size + 2, 0, none⟩) 5 5, .slice (some ⟨w.heap.size + 3, 0, none⟩) 5 5, .slice (some ⟨w.heap.size + 4, 0, none⟩) 5 5, .slice (some ⟨w.heap.size + 5, 0, none⟩) 5 5] 33)
  replace Te := Te.alloc (.cells #[.slice (some ⟨w.heap.size + 1, 0, none⟩) 5 5, .slice (some ⟨w.heap.size + 2, 0, none⟩) 5 5, .slice (some ⟨w.heap.size + 3, 0, none⟩) 5 5, .slice (some ⟨w.heap.size + 4, 0, none⟩) 5 5, .slice (some ⟨w.heap.size + 5, 0, none⟩) 5 5] 33)
  replace BB := ball BB (.cells #[.slice (some ⟨w.heap.size + 1, 0, none⟩) 5 5, .slice (some ⟨w.heap.size + 2, 0, none⟩) 5 5, .slice (some ⟨w.heap.size + 3, 0, none⟩) 5 5, .slice (some ⟨w.heap.size + 4, 0, none⟩) 5 5, .slice (some ⟨w.heap.size + 5, 0, none⟩) 5 5] 33)
  simp only [World.size_alloc, Nat.add_assoc, Nat.reduceAdd] at Ta Tb Tc Td Te Tt
  obtain ⟨V1, hV1⟩ : ∃ V1, ((((((w.alloc (.cells #[.int .i64 (-1), .int .i64 0, .int .i64 3, .int .i64 4, .int .i64 2, .int .i64 2] 3)).alloc (.cells #[.bool false, .bool true, .bool false, .bool false, .bool false] 4)).alloc (.cells #[.bool true, .bool false, .bool true, .bool false, .bool false] 4)).alloc (.cells #[.bool false, .bool true, .bool false, .bool false, .bool false] 4)).alloc (.cells #[.bool false, .bool false, .bool false, .bool false, .bool true] 4)).alloc (.cells #[.bool false, .bool false, .bool false, .bool true, .bool false] 4)).alloc (.cells #[.slice (some ⟨w.heap.size + 1, 0, none⟩) 5 5, .slice (some ⟨w.heap.size + 2, 0, none⟩) 5 5, .slice (some ⟨w.heap.size + 3, 0, none⟩) 5 5, .slice (some ⟨w.heap.size + 4, 0, none⟩) 5 5, .slice (some ⟨w.heap.size + 5, 0, none⟩) 5 5] 33) = V1 := ⟨_, rfl⟩
  rw [hV1] at BB Tp Ta Tb Tc Td Te Tt ⊢
  clear hV1
  have hP : IntsAt .i64 V1 (some ⟨w.heap.size, 0, none⟩) P0 := ints_of_cat (zs := P0) Tp
  have hT : TabAt V1 (some ⟨w.heap.size + 6, 0, none⟩) H0 := by
    refine .inr ⟨_, 0, rfl, fun i hi => ?_⟩
    match i, hi with
    | 0, _ => exact ⟨some ⟨w.heap.size + 1, 0, none⟩, 5, Tt 0 _ rfl, bools_of_cat (bs := [false, true, false, false, false]) Ta, by decide⟩
    | 1, _ => exact ⟨some ⟨w.heap.size + 2, 0, none⟩, 5, Tt 1 _ rfl, bools_of_cat (bs := [true, false, true, false, false]) Tb, by decide⟩
    | 2, _ => exact ⟨some ⟨w.heap.size + 3, 0, none⟩, 5, Tt 2 _ rfl, bools_of_cat (bs := [false, true, false, false, false]) Tc, by decide⟩
    | 3, _ => exact ⟨some ⟨w.heap.size + 4, 0, none⟩, 5, Tt 3 _ rfl, bools_of_cat (bs := [false, false, false, false, true]) Td, by decide⟩
    | 4, _ => exact ⟨some ⟨w.heap.size + 5, 0, none⟩, 5, Tt 4 _ rfl, bools_of_cat (bs := [false, false, false, true, false]) Te, by decide⟩
  clear Tp Ta Tb Tc Td Te Tt
  refine (depths_at H0 5 _ _ 0 V1 rfl hT (by decide) [0, 1, 2, -1, -1] 0 (.inl ⟨ok0, depth_eq valid0 depth0, rfl⟩)).mono ?_
  rintro e w2 ⟨ad, cd, rfl, hd, _, _, b2⟩
  replace hP := hP.keep b2
  replace hT := hT.keep b2
  replace BB := bstep BB b2
  clear b2
  go_wp2_with fail
  refine (isles_at H0 5 _ _ w2 rfl hT (by decide) [0, 0, 0, 3, 3] 0 (.inl ⟨valid_true valid0, isle_eq valid0 isle0, rfl⟩)).mono ?_
  rintro e w3 ⟨ai, ci, rfl, hi, _, _, b3⟩
  replace hP := hP.keep b3
  replace hT := hT.keep b3
  replace hd := hd.keep b3
  replace BB := bstep BB b3
  clear b3
  go_wp2_with fail
  refine (depths_at H0 5 _ _ 5 w3 rfl hT (by decide) [] 1 (.inr ⟨ok5, rfl, rfl⟩)).mono ?_
  rintro e w4 ⟨ab, cb, rfl, _, _, _, b4⟩
  replace hP := hP.keep b4
  replace hT := hT.keep b4
  replace hd := hd.keep b4
  replace hi := hi.keep b4
  replace BB := bstep BB b4
  clear b4
  go_wp2_with fail
  refine (loop_at P0 6 _ _ _ rfl hP (by decide)).mono ?_
  rintro e w5 ⟨al, cl, rfl, hl, _, _, b5⟩
  replace hP := hP.keep b5
  replace hT := hT.keep b5
  replace hd := hd.keep b5
  replace hi := hi.keep b5
  replace BB := bstep BB b5
  clear b5
  rw [loop0] at hl ⊢
  go_wp2_with fail
  replace BB := ball BB (.cells #[.int .i64 (2), .int .i64 (3), .int .i64 (4)] 3)
  replace hP := hP.keep (ball (Below.refl _ _) (.cells #[.int .i64 (2), .int .i64 (3), .int .i64 (4)] 3))
  replace hT := hT.keep (ball (Below.refl _ _) (.cells #[.int .i64 (2), .int .i64 (3), .int .i64 (4)] 3))
  replace hd := hd.keep (ball (Below.refl _ _) (.cells #[.int .i64 (2), .int .i64 (3), .int .i64 (4)] 3))
  replace hi := hi.keep (ball (Below.refl _ _) (.cells #[.int .i64 (2), .int .i64 (3), .int .i64 (4)] 3))
  replace hl := hl.keep (ball (Below.refl _ _) (.cells #[.int .i64 (2), .int .i64 (3), .int .i64 (4)] 3))
  refine (ints_eq_at [2, 3, 4] [2, 3, 4] 3 3 _ _ _ _ true _ rfl rfl hl (ints_of_cat (zs := [2, 3, 4]) (CAt.new _ [.int .i64 (2), .int .i64 (3), .int .i64 (4)] 3)) (by decide) (by decide)).mono ?_
  rintro e w6 ⟨rfl, b6⟩
  replace hP := hP.keep b6
  replace hT := hT.keep b6
  replace hd := hd.keep b6
  replace hi := hi.keep b6
  replace hl := hl.keep b6
  replace BB := bstep BB b6
  clear b6
  go_wp2_with fail
  replace BB := ball BB (.cells #[.int .i64 0] 3)
  replace hP := hP.keep (ball (Below.refl _ _) (.cells #[.int .i64 0] 3))
  replace hT := hT.keep (ball (Below.refl _ _) (.cells #[.int .i64 0] 3))
  replace hd := hd.keep (ball (Below.refl _ _) (.cells #[.int .i64 0] 3))
  replace hi := hi.keep (ball (Below.refl _ _) (.cells #[.int .i64 0] 3))
  refine (loop_at [0] 1 _ _ _ rfl (ints_of_cat (zs := [0]) (CAt.new _ [.int .i64 0] 3)) (by decide)).mono ?_
  rintro e w7 ⟨am, cm, rfl, hm, _, _, b7⟩
  replace hP := hP.keep b7
  replace hT := hT.keep b7
  replace hd := hd.keep b7
  replace hi := hi.keep b7
  replace BB := bstep BB b7
  clear b7
  rw [loop1] at hm ⊢
  go_wp2_with fail
  replace BB := ball BB (.cells #[.int .i64 (0)] 3)
  replace hP := hP.keep (ball (Below.refl _ _) (.cells #[.int .i64 (0)] 3))
  replace hT := hT.keep (ball (Below.refl _ _) (.cells #[.int .i64 (0)] 3))
  replace hd := hd.keep (ball (Below.refl _ _) (.cells #[.int .i64 (0)] 3))
  replace hi := hi.keep (ball (Below.refl _ _) (.cells #[.int .i64 (0)] 3))
  replace hm := hm.keep (ball (Below.refl _ _) (.cells #[.int .i64 (0)] 3))
  refine (ints_eq_at [0] [0] 1 1 _ _ _ _ true _ rfl rfl hm (ints_of_cat (zs := [0]) (CAt.new _ [.int .i64 (0)] 3)) (by decide) (by decide)).mono ?_
  rintro e w8 ⟨rfl, b8⟩
  replace hP := hP.keep b8
  replace hT := hT.keep b8
  replace hd := hd.keep b8
  replace hi := hi.keep b8
  replace hm := hm.keep b8
  replace BB := bstep BB b8
  clear b8
  go_wp2_with fail
  refine (reaches_at P0 6 _ _ 0 _ rfl hP (by decide)).mono ?_
  rintro e w9 ⟨ar, cr, rfl, hr, _, _, b9⟩
  replace hP := hP.keep b9
  replace hT := hT.keep b9
  replace hd := hd.keep b9
  replace hi := hi.keep b9
  replace BB := bstep BB b9
  clear b9
  rw [reach0] at hr ⊢
  go_wp2_with fail
  replace BB := ball BB (.cells #[.bool true, .bool true, .bool false, .bool false, .bool false, .bool false] 4)
  replace hP := hP.keep (ball (Below.refl _ _) (.cells #[.bool true, .bool true, .bool false, .bool false, .bool false, .bool false] 4))
  replace hT := hT.keep (ball (Below.refl _ _) (.cells #[.bool true, .bool true, .bool false, .bool false, .bool false, .bool false] 4))
  replace hd := hd.keep (ball (Below.refl _ _) (.cells #[.bool true, .bool true, .bool false, .bool false, .bool false, .bool false] 4))
  replace hi := hi.keep (ball (Below.refl _ _) (.cells #[.bool true, .bool true, .bool false, .bool false, .bool false, .bool false] 4))
  replace hr := hr.keep (ball (Below.refl _ _) (.cells #[.bool true, .bool true, .bool false, .bool false, .bool false, .bool false] 4))
  refine (bools_eq_at [true, true, false, false, false, false] [true, true, false, false, false, false] 6 6 _ _ _ _ true _ rfl rfl hr (bools_of_cat (bs := [true, true, false, false, false, false]) (CAt.new _ [.bool true, .bool true, .bool false, .bool false, .bool false, .bool false] 4)) (by decide) (by decide)).mono ?_
  rintro e w10 ⟨rfl, b10⟩
  replace hP := hP.keep b10
  replace hT := hT.keep b10
  replace hd := hd.keep b10
  replace hi := hi.keep b10
  replace hr := hr.keep b10
  replace BB := bstep BB b10
  clear b10
  go_wp2_with fail
  replace BB := ball BB (.cells #[.int .i64 (0), .int .i64 (1), .int .i64 (2), .int .i64 (-1), .int .i64 (-1)] 3)
  replace hP := hP.keep (ball (Below.refl _ _) (.cells #[.int .i64 (0), .int .i64 (1), .int .i64 (2), .int .i64 (-1), .int .i64 (-1)] 3))
  replace hT := hT.keep (ball (Below.refl _ _) (.cells #[.int .i64 (0), .int .i64 (1), .int .i64 (2), .int .i64 (-1), .int .i64 (-1)] 3))
  replace hd := hd.keep (ball (Below.refl _ _) (.cells #[.int .i64 (0), .int .i64 (1), .int .i64 (2), .int .i64 (-1), .int .i64 (-1)] 3))
  replace hi := hi.keep (ball (Below.refl _ _) (.cells #[.int .i64 (0), .int .i64 (1), .int .i64 (2), .int .i64 (-1), .int .i64 (-1)] 3))
  refine (ints_eq_at [0, 1, 2, -1, -1] [0, 1, 2, -1, -1] 5 5 _ _ _ _ true _ rfl rfl hd (ints_of_cat (zs := [0, 1, 2, -1, -1]) (CAt.new _ [.int .i64 (0), .int .i64 (1), .int .i64 (2), .int .i64 (-1), .int .i64 (-1)] 3)) (by decide) (by decide)).mono ?_
  rintro e w11 ⟨rfl, b11⟩
  replace hP := hP.keep b11
  replace hT := hT.keep b11
  replace hd := hd.keep b11
  replace hi := hi.keep b11
  replace BB := bstep BB b11
  clear b11
  go_wp2_with fail
  replace BB := ball BB (.cells #[.int .i64 (0), .int .i64 (0), .int .i64 (0), .int .i64 (3), .int .i64 (3)] 3)
  replace hP := hP.keep (ball (Below.refl _ _) (.cells #[.int .i64 (0), .int .i64 (0), .int .i64 (0), .int .i64 (3), .int .i64 (3)] 3))
  replace hT := hT.keep (ball (Below.refl _ _) (.cells #[.int .i64 (0), .int .i64 (0), .int .i64 (0), .int .i64 (3), .int .i64 (3)] 3))
  replace hd := hd.keep (ball (Below.refl _ _) (.cells #[.int .i64 (0), .int .i64 (0), .int .i64 (0), .int .i64 (3), .int .i64 (3)] 3))
  replace hi := hi.keep (ball (Below.refl _ _) (.cells #[.int .i64 (0), .int .i64 (0), .int .i64 (0), .int .i64 (3), .int .i64 (3)] 3))
  refine (ints_eq_at [0, 0, 0, 3, 3] [0, 0, 0, 3, 3] 5 5 _ _ _ _ true _ rfl rfl hi (ints_of_cat (zs := [0, 0, 0, 3, 3]) (CAt.new _ [.int .i64 (0), .int .i64 (0), .int .i64 (0), .int .i64 (3), .int .i64 (3)] 3)) (by decide) (by decide)).mono ?_
  rintro e w12 ⟨rfl, b12⟩
  replace hP := hP.keep b12
  replace hT := hT.keep b12
  replace hd := hd.keep b12
  replace hi := hi.keep b12
  replace BB := bstep BB b12
  clear b12
  go_wp2_with fail
  go_ret
  exact ⟨rfl, BB⟩
end Go.Proofs.Ytkomgjkeikaigaa
