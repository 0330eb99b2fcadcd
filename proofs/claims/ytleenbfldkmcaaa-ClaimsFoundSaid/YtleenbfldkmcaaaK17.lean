/- Proved: what the fixed examples of the statements return. Conditions: none. -/
import Derived.Test.YtleenbfldkmcaaaK16
import Derived.Test.YtleenbfldkmcaaaK15
import Derived.Test.YtleenbfldkmcaaaK12
import Derived.Deep.RegionHeld3
namespace Go.Proofs.Ytleenbfldkmcaaa
open Go.RowKit Go.Sort Go.BigFrame
set_option linter.unusedVariables false
set_option linter.unusedSimpArgs false
attribute [local go_sem] cell_alloc_old
/-- One table of three slices, by the blocks of its uses and its grants. -/
abbrev tA (k : Nat) : Tv := ⟨⟨[⟨2, 5, 0, 7⟩], [], []⟩, some ⟨k, 0, none⟩, 1, 1, none, 0, 0, none, 0, 0⟩
abbrev tB (k : Nat) : Tv := ⟨⟨[], [⟨2, 5, 4, 6, 14⟩], []⟩, none, 0, 0, some ⟨k, 0, none⟩, 1, 1, none, 0, 0⟩
abbrev tD (k : Nat) : Tv := ⟨⟨[], [⟨2, 5, 4, 7, 15⟩], []⟩, none, 0, 0, some ⟨k, 0, none⟩, 1, 1, none, 0, 0⟩
abbrev tE : Tv := ⟨⟨[], [], []⟩, none, 0, 0, none, 0, 0, none, 0, 0⟩
theorem tA_ok {k : Nat} {w : World} (h : CAt w k (Us.cs ⟨2, 5, 0, 7⟩)) : (tA k).ok w := by
  refine ⟨.inr ⟨k, 0, rfl, fun i hi j u hj => ?_⟩, .inl rfl, .inl rfl, rfl, rfl, rfl, Nat.le_refl _, Nat.le_refl _, Nat.le_refl _, by simp [maxLen], by simp [maxLen], by simp [maxLen], fun x hx => ?_, fun x hx => (by cases hx)⟩
  · obtain rfl : i = 0 := by simp at hi; exact hi
    have := h j u hj
    (rw [Nat.zero_mul, Nat.zero_add]; exact this)
  · obtain rfl := List.mem_singleton.1 hx
    exact ⟨rfl, rfl, rfl, rfl⟩
theorem tG_ok {k : Nat} {t u : Int} {w : World} (h : CAt w k (Gr.cs ⟨2, 5, 4, t, u⟩)) (h1 : I64 t) (h2 : I64 u) : (⟨⟨[], [⟨2, 5, 4, t, u⟩], []⟩, none, 0, 0, some ⟨k, 0, none⟩, 1, 1, none, 0, 0⟩ : Tv).ok w := by
  refine ⟨.inl rfl, .inr ⟨k, 0, rfl, fun i hi j u hj => ?_⟩, .inl rfl, rfl, rfl, rfl, Nat.le_refl _, Nat.le_refl _, Nat.le_refl _, by simp [maxLen], by simp [maxLen], by simp [maxLen], fun x hx => (by cases hx), fun x hx => ?_⟩
  · obtain rfl : i = 0 := by simp at hi; exact hi
    have := h j u hj
    (rw [Nat.zero_mul, Nat.zero_add]; exact this)
  · obtain rfl := List.mem_singleton.1 hx
    exact ⟨rfl, rfl, rfl, h1, h2⟩
theorem tE_ok {w : World} : tE.ok w := ⟨.inl rfl, .inl rfl, .inl rfl, rfl, rfl, rfl, Nat.le_refl _, Nat.le_refl _, Nat.le_refl _, by simp [maxLen], by simp [maxLen], by simp [maxLen], fun x hx => (by cases hx), fun x hx => (by cases hx)⟩
/-- The boxes of the three tables. -/
structure HS (k2 k3 k4 : Nat) (A B D : Tv) (w : World) : Prop where
  a : CAt w k2 A.cs
  b : CAt w k3 B.cs
  d : CAt w k4 D.cs
  ao : A.ok w
  bo : B.ok w
  do' : D.ok w
theorem HS.keep {k2 k3 k4 : Nat} {A B D : Tv} {w w' : World} (h : HS k2 k3 k4 A B D w) (hb : Below w.heap.size w w') : HS k2 k3 k4 A B D w' := ⟨h.a.keep hb, h.b.keep hb, h.d.keep hb, h.ao.keep hb, h.bo.keep hb, h.do'.keep hb⟩
theorem info4 : (Try.prog.info? 4).map (fun i => (i.zero, i.size, i.bytes)) = some (some (.bool false), 1, 1) := by kernel_rfl
theorem mk5 (w : World) : (Instr.makeSlice 66 (.int .i64 5) (.int .i64 5)).run Try.prog w = .ok (.slice (some ⟨w.heap.size, 0, none⟩) 5 5) (w.alloc (.cells #[.bool false, .bool false, .bool false, .bool false, .bool false] 4)) := by
  obtain ⟨i0, hi9, hz0, hz1, hz2⟩ := info_parts info4
  have h := run_makeSlice (P := Try.prog) (w := w) 66 4 i0 _ Try.underlying66 hi9 hz0 .i64 .i64 5 5 (by decide) (by decide) (by rw [hz1]; decide) (by rw [hz2]; decide) (by decide)
  rw [hz1, show madeCells (Value.bool false).cells (Int.toNat 5 * 1) = #[.bool false, .bool false, .bool false, .bool false, .bool false] from by first | kernel_rfl | (simp [madeCells]; done) | (simp [madeCells, Value.cells]; rfl)] at h
  exact h
attribute [local go_sem] mk5
theorem cat_heap {w : World} {k : Nat} {cs : List Value} {ty : TypeId} (h : w.heap[k]? = some (.cells cs.toArray ty)) : CAt w k cs := fun j v hj => cell_blk h (by simpa using hj)
theorem bools_of {w : World} {k : Nat} {bs : List Bool} (h : CAt w k (bs.map Value.bool)) : BoolsAt w (some ⟨k, 0, none⟩) bs :=
  .inr ⟨k, 0, rfl, fun j hj => by rw [Nat.zero_add]; refine h j _ ?_; rw [List.getElem?_map, List.getElem?_eq_getElem hj]; simp [List.getD_eq_getElem?_getD, hj]⟩
abbrev hearsV : List (List Bool) := [[false, false, false, false, false], [false, false, false, true, false], [false, false, false, false, false], [false, true, false, false, false], [false, false, false, false, false]]
theorem hears_at {Z V : World} {p0 p1 p2 p3 p4 : Nat} (hV : Z.alloc (.cells #[.slice (some ⟨p0, 0, none⟩) 5 5, .slice (some ⟨p1, 0, none⟩) 5 5, .slice (some ⟨p2, 0, none⟩) 5 5, .slice (some ⟨p3, 0, none⟩) 5 5, .slice (some ⟨p4, 0, none⟩) 5 5] 66) = V)
    (h0 : CAt Z p0 [.bool false, .bool false, .bool false, .bool false, .bool false]) (h1 : CAt Z p1 [.bool false, .bool false, .bool false, .bool true, .bool false]) (h2 : CAt Z p2 [.bool false, .bool false, .bool false, .bool false, .bool false])
    (h3 : CAt Z p3 [.bool false, .bool true, .bool false, .bool false, .bool false]) (h4 : CAt Z p4 [.bool false, .bool false, .bool false, .bool false, .bool false]) : TabAt V (some ⟨Z.heap.size, 0, none⟩) hearsV := by
  subst hV
  have hc := CAt.new Z [.slice (some ⟨p0, 0, none⟩) 5 5, .slice (some ⟨p1, 0, none⟩) 5 5, .slice (some ⟨p2, 0, none⟩) 5 5, .slice (some ⟨p3, 0, none⟩) 5 5, .slice (some ⟨p4, 0, none⟩) 5 5] 66
  refine .inr ⟨Z.heap.size, 0, rfl, fun i hi => ?_⟩
  have hi' : i < 5 := hi
  match i, hi' with
  | 0, _ => exact ⟨_, 5, hc 0 _ rfl, (bools_of h0).keep (ball (Below.refl _ _) _), Nat.le_refl _, by simp [maxLen]⟩
  | 1, _ => exact ⟨_, 5, hc 1 _ rfl, (bools_of h1).keep (ball (Below.refl _ _) _), Nat.le_refl _, by simp [maxLen]⟩
  | 2, _ => exact ⟨_, 5, hc 2 _ rfl, (bools_of h2).keep (ball (Below.refl _ _) _), Nat.le_refl _, by simp [maxLen]⟩
  | 3, _ => exact ⟨_, 5, hc 3 _ rfl, (bools_of h3).keep (ball (Below.refl _ _) _), Nat.le_refl _, by simp [maxLen]⟩
  | 4, _ => exact ⟨_, 5, hc 4 _ rfl, (bools_of h4).keep (ball (Below.refl _ _) _), Nat.le_refl _, by simp [maxLen]⟩
theorem tabs_at {Z V : World} {A B : Tv} (hV : Z.alloc (.cells #[.slice none 0 0, .slice none 0 0, .slice none 0 0, .slice A.ua A.nu A.uc, .slice A.ga A.ng A.gc, .slice A.aa A.na A.ac, .slice none 0 0, .slice none 0 0, .slice none 0 0, .slice B.ua B.nu B.uc, .slice B.ga B.ng B.gc, .slice B.aa B.na B.ac, .slice none 0 0, .slice none 0 0, .slice none 0 0] 26) = V)
    (ha : A.ok Z) (hb : B.ok Z) : TsAt V (some ⟨Z.heap.size, 0, none⟩) [tE, A, tE, B, tE] := by
  subst hV
  have hc := CAt.new Z [.slice none 0 0, .slice none 0 0, .slice none 0 0, .slice A.ua A.nu A.uc, .slice A.ga A.ng A.gc, .slice A.aa A.na A.ac, .slice none 0 0, .slice none 0 0, .slice none 0 0, .slice B.ua B.nu B.uc, .slice B.ga B.ng B.gc, .slice B.aa B.na B.ac, .slice none 0 0, .slice none 0 0, .slice none 0 0] 26
  refine ⟨.inr ⟨Z.heap.size, 0, rfl, fun i hi j u hj => ?_⟩, fun x hx => ?_⟩
  · have hi' : i < 5 := hi
    have hj3 : j < 3 := by
      have := (List.getElem?_eq_some_iff.1 hj).1; simpa using this
    match i, hi', j, hj3 with
    | 0, _, 0, _ => exact hc 0 u hj
    | 0, _, 1, _ => exact hc 1 u hj
    | 0, _, 2, _ => exact hc 2 u hj
    | 1, _, 0, _ => exact hc 3 u hj
    | 1, _, 1, _ => exact hc 4 u hj
    | 1, _, 2, _ => exact hc 5 u hj
    | 2, _, 0, _ => exact hc 6 u hj
    | 2, _, 1, _ => exact hc 7 u hj
    | 2, _, 2, _ => exact hc 8 u hj
    | 3, _, 0, _ => exact hc 9 u hj
    | 3, _, 1, _ => exact hc 10 u hj
    | 3, _, 2, _ => exact hc 11 u hj
    | 4, _, 0, _ => exact hc 12 u hj
    | 4, _, 1, _ => exact hc 13 u hj
    | 4, _, 2, _ => exact hc 14 u hj
  · simp only [List.mem_cons, List.not_mem_nil, or_false] at hx
    rcases hx with rfl | rfl | rfl | rfl | rfl
    · exact tE_ok
    · exact ha.keep (ball (Below.refl _ _) _)
    · exact tE_ok
    · exact hb.keep (ball (Below.refl _ _) _)
    · exact tE_ok
theorem cat_new {w : World} {k : Nat} (hk : w.heap.size = k) (cs : List Value) (ty : TypeId) : CAt (w.alloc (.cells cs.toArray ty)) k cs := hk ▸ CAt.new w cs ty
theorem one_cz (w : World) : At 5 Cz.cs (w.alloc (.cells #[.int .i64 2, .int .i64 5, .int .i64 3, .int .i64 4, .int .i64 1] 75)) (some ⟨w.heap.size, 0, none⟩) [⟨2, 5, 3, 4, 1⟩] := by
  refine .inr ⟨_, 0, rfl, fun i hi j u hj => ?_⟩
  obtain rfl : i = 0 := by simp at hi; exact hi
  have := CAt.new w [.int .i64 2, .int .i64 5, .int .i64 3, .int .i64 4, .int .i64 1] 75 j u hj
  (rw [Nat.zero_mul, Nat.zero_add]; exact this)
theorem nsat1 {w : World} {n : Nv} (hn : n.ok w) {V : World} (hV : w.alloc (.cells n.cs.toArray 61) = V) : NsAt V (some ⟨w.heap.size, 0, none⟩) [n] := by
  subst hV
  refine ⟨.inr ⟨_, 0, rfl, fun i hi j u hj => ?_⟩, fun x hx => by obtain rfl := List.mem_singleton.1 hx; exact hn.keep (ball (Below.refl _ _) _)⟩
  obtain rfl : i = 0 := by simp at hi; exact hi
  have := CAt.new w n.cs 61 j u hj
  (rw [Nat.zero_mul, Nat.zero_add]; exact this)

theorem HS.ca {k2 k3 k4 : Nat} {A B D : Tv} {w : World} (h : HS k2 k3 k4 A B D w) : w.cell? ⟨k2, 0, none⟩ = some (.slice A.ua A.nu A.uc) ∧ w.cell? ⟨k2, 1, none⟩ = some (.slice A.ga A.ng A.gc) ∧ w.cell? ⟨k2, 2, none⟩ = some (.slice A.aa A.na A.ac) :=
  ⟨h.a 0 _ rfl, h.a 1 _ rfl, h.a 2 _ rfl⟩
theorem HS.cb {k2 k3 k4 : Nat} {A B D : Tv} {w : World} (h : HS k2 k3 k4 A B D w) : w.cell? ⟨k3, 0, none⟩ = some (.slice B.ua B.nu B.uc) ∧ w.cell? ⟨k3, 1, none⟩ = some (.slice B.ga B.ng B.gc) ∧ w.cell? ⟨k3, 2, none⟩ = some (.slice B.aa B.na B.ac) :=
  ⟨h.b 0 _ rfl, h.b 1 _ rfl, h.b 2 _ rfl⟩
theorem HS.cd {k2 k3 k4 : Nat} {A B D : Tv} {w : World} (h : HS k2 k3 k4 A B D w) : w.cell? ⟨k4, 0, none⟩ = some (.slice D.ua D.nu D.uc) ∧ w.cell? ⟨k4, 1, none⟩ = some (.slice D.ga D.ng D.gc) ∧ w.cell? ⟨k4, 2, none⟩ = some (.slice D.aa D.na D.ac) :=
  ⟨h.d 0 _ rfl, h.d 1 _ rfl, h.d 2 _ rfl⟩
theorem same_is {r : Tv} {t t' : Tb} {me fr : Int} {N : List Nb} {y : Bool} (h : r.T = yieldV t me fr N) (hc : decide (yieldV t me fr N = t') = y) : sameB r.T t' = y := by rw [h]; exact hc

set_option maxRecDepth 100000 in
set_option maxHeartbeats 4000000 in
theorem head_any (w : World) : Calls Try.prog 10 #[] w (Yes true w) := by
  go_enter Try.func10, Try.ntmps10
  go_upto_region 5 with (fail)
  obtain ⟨W5, hW5⟩ : ∃ W5, (((((((w.alloc (.cells #[.int .i64 2, .int .i64 5] 41)).alloc (.cells #[.int .i64 2, .int .i64 5, .int .i64 0, .int .i64 7] 43)).alloc (.cells #[.slice (some ⟨w.heap.size + 1, 0, none⟩) 1 1, .slice none 0 0, .slice none 0 0] 26)).alloc (.cells #[.int .i64 2, .int .i64 5, .int .i64 4, .int .i64 6, .int .i64 14] 63)).alloc (.cells #[.slice none 0 0, .slice (some ⟨w.heap.size + 1 + 1 + 1, 0, none⟩) 1 1, .slice none 0 0] 26)).alloc (.cells #[.int .i64 2, .int .i64 5, .int .i64 4, .int .i64 7, .int .i64 15] 63)).alloc (.cells #[.slice none 0 0, .slice (some ⟨w.heap.size + 1 + 1 + 1 + 1 + 1, 0, none⟩) 1 1, .slice none 0 0] 26)) = W5 := ⟨_, rfl⟩
  have T0 : CAt W5 (w.heap.size) [.int .i64 2, .int .i64 5] := by
    rw [← hW5]
    refine CAt.alloc ?_ _
    refine CAt.alloc ?_ _
    refine CAt.alloc ?_ _
    refine CAt.alloc ?_ _
    refine CAt.alloc ?_ _
    refine CAt.alloc ?_ _
    exact cat_new (by simp) _ _
  have T1 : CAt W5 (w.heap.size + 1) [.int .i64 2, .int .i64 5, .int .i64 0, .int .i64 7] := by
    rw [← hW5]
    refine CAt.alloc ?_ _
    refine CAt.alloc ?_ _
    refine CAt.alloc ?_ _
    refine CAt.alloc ?_ _
    refine CAt.alloc ?_ _
    exact cat_new (by simp) _ _
  have T2 : CAt W5 (w.heap.size + 1 + 1) [.slice (some ⟨w.heap.size + 1, 0, none⟩) 1 1, .slice none 0 0, .slice none 0 0] := by
    rw [← hW5]
    refine CAt.alloc ?_ _
    refine CAt.alloc ?_ _
    refine CAt.alloc ?_ _
    refine CAt.alloc ?_ _
    exact cat_new (by simp) _ _
  have T3 : CAt W5 (w.heap.size + 1 + 1 + 1) [.int .i64 2, .int .i64 5, .int .i64 4, .int .i64 6, .int .i64 14] := by
    rw [← hW5]
    refine CAt.alloc ?_ _
    refine CAt.alloc ?_ _
    refine CAt.alloc ?_ _
    exact cat_new (by simp) _ _
  have T4 : CAt W5 (w.heap.size + 1 + 1 + 1 + 1) [.slice none 0 0, .slice (some ⟨w.heap.size + 1 + 1 + 1, 0, none⟩) 1 1, .slice none 0 0] := by
    rw [← hW5]
    refine CAt.alloc ?_ _
    refine CAt.alloc ?_ _
    exact cat_new (by simp) _ _
  have T5 : CAt W5 (w.heap.size + 1 + 1 + 1 + 1 + 1) [.int .i64 2, .int .i64 5, .int .i64 4, .int .i64 7, .int .i64 15] := by
    rw [← hW5]
    refine CAt.alloc ?_ _
    exact cat_new (by simp) _ _
  have T6 : CAt W5 (w.heap.size + 1 + 1 + 1 + 1 + 1 + 1) [.slice none 0 0, .slice (some ⟨w.heap.size + 1 + 1 + 1 + 1 + 1, 0, none⟩) 1 1, .slice none 0 0] := by
    rw [← hW5]
    exact cat_new (by simp) _ _
  have BB : Below w.heap.size w W5 := by
    rw [← hW5]
    refine ball ?_ _
    refine ball ?_ _
    refine ball ?_ _
    refine ball ?_ _
    refine ball ?_ _
    refine ball ?_ _
    refine ball ?_ _
    exact Below.refl _ _
  rw [hW5]
  clear hW5
  obtain ⟨k4, e4⟩ : ∃ k, w.heap.size + 1 + 1 + 1 + 1 + 1 + 1 = k := ⟨_, rfl⟩
  rw [e4] at T6 ⊢
  obtain ⟨kd, e5⟩ : ∃ k, w.heap.size + 1 + 1 + 1 + 1 + 1 = k := ⟨_, rfl⟩
  rw [e5] at T5 T6 ⊢
  obtain ⟨k3, e6⟩ : ∃ k, w.heap.size + 1 + 1 + 1 + 1 = k := ⟨_, rfl⟩
  rw [e6] at T4 ⊢
  obtain ⟨kb, e7⟩ : ∃ k, w.heap.size + 1 + 1 + 1 = k := ⟨_, rfl⟩
  rw [e7] at T3 T4 ⊢
  obtain ⟨k2, e8⟩ : ∃ k, w.heap.size + 1 + 1 = k := ⟨_, rfl⟩
  rw [e8] at T2 ⊢
  obtain ⟨ka, e9⟩ : ∃ k, w.heap.size + 1 = k := ⟨_, rfl⟩
  rw [e9] at T1 T2 ⊢
  clear e4 e5 e6 e7 e8 e9
  have HH : HS k2 k3 k4 (tA ka) (tB kb) (tD kd) W5 := ⟨T2, T4, T6, tA_ok T1, tG_ok T3 rfl rfl, tG_ok T5 rfl rfl⟩
  clear T1 T2 T3 T4 T5 T6
  obtain ⟨k1, e1⟩ : ∃ k, w.heap.size = k := ⟨_, rfl⟩
  replace T0 : CAt W5 k1 [.int .i64 2, .int .i64 5] := by rw [← e1]; exact T0
  refine' wp_region_late' [] [0, 1, 2, 3, 4] [5, 6] [] (by kernel_rfl) (by kernel_rfl) _ (fun _ => True) (fun _ => undef) (fun Z hZ hN => quiet_hole ?hq5) (fun i => .cells (if i = 1 then #[.bool false, .bool false, .bool false, .bool true, .bool false] else if i = 3 then #[.bool false, .bool true, .bool false, .bool false, .bool false] else #[.bool false, .bool false, .bool false, .bool false, .bool false]) 4) (fun _ p => .slice (some ⟨p, 0, none⟩) 5 5) ?ha5 (fun j hj => by cases hj) ?ht5
  case hq5 =>
    intro Q9 hQ9
    exact wpQuiet_nil hQ9
  case ha5 =>
    intro i hi o ho w' hw'
    simp only [List.mem_cons, List.not_mem_nil, or_false] at hi
    rcases hi with rfl | rfl | rfl | rfl | rfl
    all_goals (
      simp only [List.getElem?_cons_succ, List.getElem?_cons_zero, Option.some.injEq] at ho
      subst ho
      go_simp)
  intro π Z hz hπ hπ2

  obtain ⟨p0, hp0⟩ : ∃ q, π 0 = q := ⟨_, rfl⟩
  have hb0 := (hπ 0 (by simp)).1
  rw [hp0] at hb0
  obtain ⟨p1, hp1⟩ : ∃ q, π 1 = q := ⟨_, rfl⟩
  have hb1 := (hπ 1 (by simp)).1
  rw [hp1] at hb1
  obtain ⟨p2, hp2⟩ : ∃ q, π 2 = q := ⟨_, rfl⟩
  have hb2 := (hπ 2 (by simp)).1
  rw [hp2] at hb2
  obtain ⟨p3, hp3⟩ : ∃ q, π 3 = q := ⟨_, rfl⟩
  have hb3 := (hπ 3 (by simp)).1
  rw [hp3] at hb3
  obtain ⟨p4, hp4⟩ : ∃ q, π 4 = q := ⟨_, rfl⟩
  have hb4 := (hπ 4 (by simp)).1
  rw [hp4] at hb4
  simp only [List.filterMap_cons, List.filterMap_nil, List.getElem?_cons_zero, List.getElem?_cons_succ, putsA, Option.bind_some, Act.put, List.setIfInBounds_toArray, List.set_cons_zero, List.set_cons_succ, hp0, hp1, hp2, hp3, hp4]
  clear hπ hπ2 hp0 hp1 hp2 hp3 hp4
  replace BB := bstep BB hz
  replace HH := HH.keep hz
  replace T0 := T0.keep hz
  clear hz W5
  refine ⟨trivial, ?_⟩
  show wpListS _ _ _ _ [_, _] _ _
  refine listS_step rfl fun K9 hK9 => ?_
  refine wp_of_value (w' := Z.alloc (.cells #[.slice (some ⟨p0, 0, none⟩) 5 5, .slice (some ⟨p1, 0, none⟩) 5 5, .slice (some ⟨p2, 0, none⟩) 5 5, .slice (some ⟨p3, 0, none⟩) 5 5, .slice (some ⟨p4, 0, none⟩) 5 5] 66)) (v := .slice (some ⟨Z.heap.size, 0, none⟩) 5 5) (by first | kernel_rfl | go_simp) ?_
  refine hK9 _ _ trivial ?_
  clear hK9 K9
  refine listS_step rfl fun K9 hK9 => ?_
  obtain ⟨V5, hV5⟩ : ∃ V5, Z.alloc (.cells #[.slice (some ⟨p0, 0, none⟩) 5 5, .slice (some ⟨p1, 0, none⟩) 5 5, .slice (some ⟨p2, 0, none⟩) 5 5, .slice (some ⟨p3, 0, none⟩) 5 5, .slice (some ⟨p4, 0, none⟩) 5 5] 66) = V5 := ⟨_, rfl⟩
  refine wp_of_value (w' := V5) (v := .slice (some ⟨Z.heap.size, 0, none⟩) 5 5) (by rw [hV5]; first | kernel_rfl | go_simp) ?_
  refine hK9 _ _ trivial ?_
  clear hK9 K9
  unfold wpListS noPanic
  simp (config := { maxSteps := 10000000 }) only [Act.put, List.setIfInBounds_toArray, List.set_cons_succ, List.set_cons_zero, Exit.then]
  have TH := hears_at hV5 (cat_heap (cs := [_, _, _, _, _]) hb0) (cat_heap (cs := [_, _, _, _, _]) hb1) (cat_heap (cs := [_, _, _, _, _]) hb2) (cat_heap (cs := [_, _, _, _, _]) hb3) (cat_heap (cs := [_, _, _, _, _]) hb4)
  have bV : Below Z.heap.size Z V5 := by rw [← hV5]; exact ball (Below.refl _ _) _
  replace BB := bstep BB bV
  replace HH := HH.keep bV
  replace T0 := T0.keep bV
  obtain ⟨hb, hhb⟩ : ∃ hb, Z.heap.size = hb := ⟨_, rfl⟩
  rw [hhb] at TH ⊢
  clear hhb bV hV5 hb0 hb1 hb2 hb3 hb4 Z
  rw [e1]
  have c0 := T0 0 _ rfl
  have c1 := T0 1 _ rfl
  have a0 := HH.a 0 _ rfl
  have a1 := HH.a 1 _ rfl
  have a2 := HH.a 2 _ rfl
  have b0 := HH.b 0 _ rfl
  have b1 := HH.b 1 _ rfl
  have b2 := HH.b 2 _ rfl

  go_wp2_with fail
  have T5 := tabs_at (Z := V5) (A := tA ka) (B := tB kb) rfl HH.ao HH.bo
  have bV : Below V5.heap.size V5 (V5.alloc (.cells #[.slice none 0 0, .slice none 0 0, .slice none 0 0, .slice (some ⟨ka, 0, none⟩) 1 1, .slice none 0 0, .slice none 0 0, .slice none 0 0, .slice none 0 0, .slice none 0 0, .slice none 0 0, .slice (some ⟨kb, 0, none⟩) 1 1, .slice none 0 0, .slice none 0 0, .slice none 0 0, .slice none 0 0] 26)) := ball (Below.refl _ _) _
  refine (clash_at hearsV [tE, tA ka, tE, tB kb, tE] 9 5 5 _ _ _ _ _ (Lib.hid rfl) (Lib.hid rfl) (TH.keep bV) T5 (by decide) (Lib.hid (fun x hx => by simp only [List.mem_cons, List.not_mem_nil, or_false] at hx; rcases hx with rfl | rfl | rfl | rfl | rfl <;> exact ⟨by simp, by simp⟩))).mono ?_
  rintro e w1 ⟨ca, cn, cc, rfl, hca, hcn, hcc, hcm, bq⟩
  have hcl : clashV hearsV (tbs [tE, tA ka, tE, tB kb, tE]) 9 = [⟨2, 5, 3, 4, 1⟩] := by kernel_rfl
  rw [hcl] at hca hcn
  clear hcl T5
  replace bq := bstep bV bq
  replace BB := bstep BB bq
  replace HH := HH.keep bq
  replace T0 := T0.keep bq
  clear bq bV TH c0 c1 a0 a1 a2 b0 b1 b2
  have c0 := T0 0 _ rfl
  have c1 := T0 1 _ rfl
  obtain rfl : cn = 1 := hcn
  go_wp2_with fail
  refine (sameC_at [⟨2, 5, 3, 4, 1⟩] [⟨2, 5, 3, 4, 1⟩] 1 1 _ _ _ _ _ (Lib.hid rfl) (Lib.hid rfl) (hca.keep (ball (Below.refl _ _) _)) (one_cz w1) (by simp [maxLen]) (by simp [maxLen]) true (Lib.hid (by decide))).mono ?_
  rintro e w2 ⟨rfl, bq⟩
  replace bq := bstep (ball (Below.refl _ _) _) bq
  replace BB := bstep BB bq
  replace HH := HH.keep bq
  clear bq hca hcc hcm c0 c1 T0

  go_upto_region 8 with (fail)

  go_cut [7] (fun sx wx => sx = .bool true ∧ Below w2.heap.size w2 wx)
  case first =>
    go_region_held3 (fun w' => (w'.cell? ⟨k2, 0, none⟩ = some (.slice (some ⟨ka, 0, none⟩) 1 1) ∧ w'.cell? ⟨k2, 1, none⟩ = some (.slice none 0 0) ∧ w'.cell? ⟨k2, 2, none⟩ = some (.slice none 0 0)) ∧ (w'.cell? ⟨k3, 0, none⟩ = some (.slice none 0 0) ∧ w'.cell? ⟨k3, 1, none⟩ = some (.slice (some ⟨kb, 0, none⟩) 1 1) ∧ w'.cell? ⟨k3, 2, none⟩ = some (.slice none 0 0)))
      (first | exact ⟨H6.ca, H6.cb⟩ | exact ⟨(H6.keep (Below.drew (Below.refl _ _))).ca, (H6.keep (Below.drew (Below.refl _ _))).cb⟩ | exact ⟨(H6.keep (ball (Below.refl _ _) _)).ca, (H6.keep (ball (Below.refl _ _) _)).cb⟩ | exact ⟨H5.ca, H5.cb⟩ | exact ⟨(H5.keep (Below.drew (Below.refl _ _))).ca, (H5.keep (Below.drew (Below.refl _ _))).cb⟩ | exact ⟨(H5.keep (ball (Below.refl _ _) _)).ca, (H5.keep (ball (Below.refl _ _) _)).cb⟩ | exact ⟨H4.ca, H4.cb⟩ | exact ⟨(H4.keep (Below.drew (Below.refl _ _))).ca, (H4.keep (Below.drew (Below.refl _ _))).cb⟩ | exact ⟨(H4.keep (ball (Below.refl _ _) _)).ca, (H4.keep (ball (Below.refl _ _) _)).cb⟩ | exact ⟨H3.ca, H3.cb⟩ | exact ⟨(H3.keep (Below.drew (Below.refl _ _))).ca, (H3.keep (Below.drew (Below.refl _ _))).cb⟩ | exact ⟨(H3.keep (ball (Below.refl _ _) _)).ca, (H3.keep (ball (Below.refl _ _) _)).cb⟩ | exact ⟨H2.ca, H2.cb⟩ | exact ⟨(H2.keep (Below.drew (Below.refl _ _))).ca, (H2.keep (Below.drew (Below.refl _ _))).cb⟩ | exact ⟨(H2.keep (ball (Below.refl _ _) _)).ca, (H2.keep (ball (Below.refl _ _) _)).cb⟩ | exact ⟨H1.ca, H1.cb⟩ | exact ⟨(H1.keep (Below.drew (Below.refl _ _))).ca, (H1.keep (Below.drew (Below.refl _ _))).cb⟩ | exact ⟨(H1.keep (ball (Below.refl _ _) _)).ca, (H1.keep (ball (Below.refl _ _) _)).cb⟩ | exact ⟨HH.ca, HH.cb⟩ | exact ⟨(HH.keep (Below.drew (Below.refl _ _))).ca, (HH.keep (Below.drew (Below.refl _ _))).cb⟩ | exact ⟨(HH.keep (ball (Below.refl _ _) _)).ca, (HH.keep (ball (Below.refl _ _) _)).cb⟩)
      (first
        | (have _ := HH
           fail_if_success (have _ := H1)
           go_at_call 24
           refine (beacon_at _ _ (tB kb) _).mono ?_
           rintro e u1 ⟨rfl, v1⟩
           have H1 := HH.keep (bstep (by first | exact Below.refl _ _ | exact Below.drew (Below.refl _ _) | exact ball (Below.refl _ _) _ | exact Below.drew (ball (Below.refl _ _) _) | exact ball (Below.drew (Below.refl _ _)) _) v1)
           have LH1 := bstep (bstep (Below.refl _ _) (by first | exact Below.refl _ _ | exact Below.drew (Below.refl _ _) | exact ball (Below.refl _ _) _ | exact Below.drew (ball (Below.refl _ _) _) | exact ball (Below.drew (Below.refl _ _)) _)) v1
           clear v1)
        | (have _ := H1
           fail_if_success (have _ := H2)
           go_at_call 15
           refine (yield_at (tA ka) 1 9 [bcn 3 9 (tB kb)] 1 _ 1 _ (Lib.hid (H1.ao.keep (by first | exact Below.refl _ _ | exact Below.drew (Below.refl _ _) | exact ball (Below.refl _ _) _ | exact Below.drew (ball (Below.refl _ _) _) | exact ball (Below.drew (Below.refl _ _)) _))) (Lib.hid rfl) (by first | exact nsat1 (bcn_ok H1.bo) rfl | exact nsat1 (w := u1.drew) (bcn_ok (H1.bo.keep (by first | exact Below.refl _ _ | exact Below.drew (Below.refl _ _) | exact ball (Below.refl _ _) _ | exact Below.drew (ball (Below.refl _ _) _) | exact ball (Below.drew (Below.refl _ _)) _))) rfl) (by simp [maxLen]) (Lib.hid ⟨by simp, by simp⟩)).mono ?_
           rintro e u2 ⟨⟨rT, y1, y2, y3, y4, y5, y6, y7, y8, y9⟩, rfl, ok0, te0, v2⟩
           have H2 := H1.keep (bstep (by first | exact Below.refl _ _ | exact Below.drew (Below.refl _ _) | exact ball (Below.refl _ _) _ | exact Below.drew (ball (Below.refl _ _) _) | exact ball (Below.drew (Below.refl _ _)) _) v2)
           have LH2 := bstep (bstep LH1 (by first | exact Below.refl _ _ | exact Below.drew (Below.refl _ _) | exact ball (Below.refl _ _) _ | exact Below.drew (ball (Below.refl _ _) _) | exact ball (Below.drew (Below.refl _ _)) _)) v2
           clear v2)
        | (have _ := H2
           fail_if_success (have _ := H3)
           go_at_call 14
           refine (same_at ⟨_, _, _, _, _, _, _, _, _, _⟩ (tE) _ (ok0.keep (by first | exact Below.refl _ _ | exact Below.drew (Below.refl _ _) | exact ball (Below.refl _ _) _ | exact Below.drew (ball (Below.refl _ _) _) | exact ball (Below.drew (Below.refl _ _)) _)) tE_ok true (same_is te0 (by kernel_rfl))).mono ?_
           rintro e u3 ⟨rfl, v3⟩
           have H3 := H2.keep (bstep (by first | exact Below.refl _ _ | exact Below.drew (Below.refl _ _) | exact ball (Below.refl _ _) _ | exact Below.drew (ball (Below.refl _ _) _) | exact ball (Below.drew (Below.refl _ _)) _) v3)
           have LH3 := bstep (bstep LH2 (by first | exact Below.refl _ _ | exact Below.drew (Below.refl _ _) | exact ball (Below.refl _ _) _ | exact Below.drew (ball (Below.refl _ _) _) | exact ball (Below.drew (Below.refl _ _)) _)) v3
           clear v3)
        | (have _ := H3
           fail_if_success (have _ := H4)
           go_at_call 24
           refine (beacon_at _ _ (tA ka) _).mono ?_
           rintro e u4 ⟨rfl, v1⟩
           have H4 := H3.keep (bstep (by first | exact Below.refl _ _ | exact Below.drew (Below.refl _ _) | exact ball (Below.refl _ _) _ | exact Below.drew (ball (Below.refl _ _) _) | exact ball (Below.drew (Below.refl _ _)) _) v1)
           have LH4 := bstep (bstep LH3 (by first | exact Below.refl _ _ | exact Below.drew (Below.refl _ _) | exact ball (Below.refl _ _) _ | exact Below.drew (ball (Below.refl _ _) _) | exact ball (Below.drew (Below.refl _ _)) _)) v1
           clear v1)
        | (have _ := H4
           fail_if_success (have _ := H5)
           go_at_call 15
           refine (yield_at (tB kb) 3 9 [bcn 1 9 (tA ka)] 1 _ 1 _ (Lib.hid (H4.bo.keep (by first | exact Below.refl _ _ | exact Below.drew (Below.refl _ _) | exact ball (Below.refl _ _) _ | exact Below.drew (ball (Below.refl _ _) _) | exact ball (Below.drew (Below.refl _ _)) _))) (Lib.hid rfl) (by first | exact nsat1 (bcn_ok H4.ao) rfl | exact nsat1 (w := u4.drew) (bcn_ok (H4.ao.keep (by first | exact Below.refl _ _ | exact Below.drew (Below.refl _ _) | exact ball (Below.refl _ _) _ | exact Below.drew (ball (Below.refl _ _) _) | exact ball (Below.drew (Below.refl _ _)) _))) rfl) (by simp [maxLen]) (Lib.hid ⟨by simp, by simp⟩)).mono ?_
           rintro e u5 ⟨⟨rT, y1, y2, y3, y4, y5, y6, y7, y8, y9⟩, rfl, ok1, te1, v2⟩
           have H5 := H4.keep (bstep (by first | exact Below.refl _ _ | exact Below.drew (Below.refl _ _) | exact ball (Below.refl _ _) _ | exact Below.drew (ball (Below.refl _ _) _) | exact ball (Below.drew (Below.refl _ _)) _) v2)
           have LH5 := bstep (bstep LH4 (by first | exact Below.refl _ _ | exact Below.drew (Below.refl _ _) | exact ball (Below.refl _ _) _ | exact Below.drew (ball (Below.refl _ _) _) | exact ball (Below.drew (Below.refl _ _)) _)) v2
           clear v2)
        | (have _ := H5
           fail_if_success (have _ := H6)
           go_at_call 14
           refine (same_at ⟨_, _, _, _, _, _, _, _, _, _⟩ (tB kb) _ (ok1.keep (by first | exact Below.refl _ _ | exact Below.drew (Below.refl _ _) | exact ball (Below.refl _ _) _ | exact Below.drew (ball (Below.refl _ _) _) | exact ball (Below.drew (Below.refl _ _)) _)) (H5.bo.keep (by first | exact Below.refl _ _ | exact Below.drew (Below.refl _ _) | exact ball (Below.refl _ _) _ | exact Below.drew (ball (Below.refl _ _) _) | exact ball (Below.drew (Below.refl _ _)) _)) true (same_is te1 (by kernel_rfl))).mono ?_
           rintro e u6 ⟨rfl, v3⟩
           have H6 := H5.keep (bstep (by first | exact Below.refl _ _ | exact Below.drew (Below.refl _ _) | exact ball (Below.refl _ _) _ | exact Below.drew (ball (Below.refl _ _) _) | exact ball (Below.drew (Below.refl _ _)) _) v3)
           have LH6 := bstep (bstep LH5 (by first | exact Below.refl _ _ | exact Below.drew (Below.refl _ _) | exact ball (Below.refl _ _) _ | exact Below.drew (ball (Below.refl _ _) _) | exact ball (Below.drew (Below.refl _ _)) _)) v3
           clear v3))
    all_goals go_wp2_with fail
    all_goals go_meet
    all_goals exact ⟨rfl, by first | exact LH6 | exact bstep (Below.drew (Below.refl _ _)) LH6 | exact Below.drew LH6⟩
  case rest =>
    obtain ⟨rfl, hB⟩ := hcut
    obtain ⟨W8, hW8⟩ : ∃ W8, W8 = wc := ⟨_, rfl⟩
    subst hW8
    replace BB := bstep BB hB
    replace HH := HH.keep hB
    clear hB
    go_upto_region 9 with (fail)
    go_cut [7] (fun sx wx => sx = .bool true ∧ Below W8.heap.size W8 wx)
    case first =>
      go_region_held3 (fun w' => (w'.cell? ⟨k2, 0, none⟩ = some (.slice (some ⟨ka, 0, none⟩) 1 1) ∧ w'.cell? ⟨k2, 1, none⟩ = some (.slice none 0 0) ∧ w'.cell? ⟨k2, 2, none⟩ = some (.slice none 0 0)) ∧ (w'.cell? ⟨k4, 0, none⟩ = some (.slice none 0 0) ∧ w'.cell? ⟨k4, 1, none⟩ = some (.slice (some ⟨kd, 0, none⟩) 1 1) ∧ w'.cell? ⟨k4, 2, none⟩ = some (.slice none 0 0)))
        (first | exact ⟨H6.ca, H6.cd⟩ | exact ⟨(H6.keep (Below.drew (Below.refl _ _))).ca, (H6.keep (Below.drew (Below.refl _ _))).cd⟩ | exact ⟨(H6.keep (ball (Below.refl _ _) _)).ca, (H6.keep (ball (Below.refl _ _) _)).cd⟩ | exact ⟨H5.ca, H5.cd⟩ | exact ⟨(H5.keep (Below.drew (Below.refl _ _))).ca, (H5.keep (Below.drew (Below.refl _ _))).cd⟩ | exact ⟨(H5.keep (ball (Below.refl _ _) _)).ca, (H5.keep (ball (Below.refl _ _) _)).cd⟩ | exact ⟨H4.ca, H4.cd⟩ | exact ⟨(H4.keep (Below.drew (Below.refl _ _))).ca, (H4.keep (Below.drew (Below.refl _ _))).cd⟩ | exact ⟨(H4.keep (ball (Below.refl _ _) _)).ca, (H4.keep (ball (Below.refl _ _) _)).cd⟩ | exact ⟨H3.ca, H3.cd⟩ | exact ⟨(H3.keep (Below.drew (Below.refl _ _))).ca, (H3.keep (Below.drew (Below.refl _ _))).cd⟩ | exact ⟨(H3.keep (ball (Below.refl _ _) _)).ca, (H3.keep (ball (Below.refl _ _) _)).cd⟩ | exact ⟨H2.ca, H2.cd⟩ | exact ⟨(H2.keep (Below.drew (Below.refl _ _))).ca, (H2.keep (Below.drew (Below.refl _ _))).cd⟩ | exact ⟨(H2.keep (ball (Below.refl _ _) _)).ca, (H2.keep (ball (Below.refl _ _) _)).cd⟩ | exact ⟨H1.ca, H1.cd⟩ | exact ⟨(H1.keep (Below.drew (Below.refl _ _))).ca, (H1.keep (Below.drew (Below.refl _ _))).cd⟩ | exact ⟨(H1.keep (ball (Below.refl _ _) _)).ca, (H1.keep (ball (Below.refl _ _) _)).cd⟩ | exact ⟨HH.ca, HH.cd⟩ | exact ⟨(HH.keep (Below.drew (Below.refl _ _))).ca, (HH.keep (Below.drew (Below.refl _ _))).cd⟩ | exact ⟨(HH.keep (ball (Below.refl _ _) _)).ca, (HH.keep (ball (Below.refl _ _) _)).cd⟩)
        (first
          | (have _ := HH
             fail_if_success (have _ := H1)
             go_at_call 24
             refine (beacon_at _ _ (tD kd) _).mono ?_
             rintro e u1 ⟨rfl, v1⟩
             have H1 := HH.keep (bstep (by first | exact Below.refl _ _ | exact Below.drew (Below.refl _ _) | exact ball (Below.refl _ _) _ | exact Below.drew (ball (Below.refl _ _) _) | exact ball (Below.drew (Below.refl _ _)) _) v1)
             have LH1 := bstep (bstep (Below.refl _ _) (by first | exact Below.refl _ _ | exact Below.drew (Below.refl _ _) | exact ball (Below.refl _ _) _ | exact Below.drew (ball (Below.refl _ _) _) | exact ball (Below.drew (Below.refl _ _)) _)) v1
             clear v1)
          | (have _ := H1
             fail_if_success (have _ := H2)
             go_at_call 15
             refine (yield_at (tA ka) 1 9 [bcn 3 9 (tD kd)] 1 _ 1 _ (Lib.hid (H1.ao.keep (by first | exact Below.refl _ _ | exact Below.drew (Below.refl _ _) | exact ball (Below.refl _ _) _ | exact Below.drew (ball (Below.refl _ _) _) | exact ball (Below.drew (Below.refl _ _)) _))) (Lib.hid rfl) (by first | exact nsat1 (bcn_ok H1.do') rfl | exact nsat1 (w := u1.drew) (bcn_ok (H1.do'.keep (by first | exact Below.refl _ _ | exact Below.drew (Below.refl _ _) | exact ball (Below.refl _ _) _ | exact Below.drew (ball (Below.refl _ _) _) | exact ball (Below.drew (Below.refl _ _)) _))) rfl) (by simp [maxLen]) (Lib.hid ⟨by simp, by simp⟩)).mono ?_
             rintro e u2 ⟨⟨rT, y1, y2, y3, y4, y5, y6, y7, y8, y9⟩, rfl, ok0, te0, v2⟩
             have H2 := H1.keep (bstep (by first | exact Below.refl _ _ | exact Below.drew (Below.refl _ _) | exact ball (Below.refl _ _) _ | exact Below.drew (ball (Below.refl _ _) _) | exact ball (Below.drew (Below.refl _ _)) _) v2)
             have LH2 := bstep (bstep LH1 (by first | exact Below.refl _ _ | exact Below.drew (Below.refl _ _) | exact ball (Below.refl _ _) _ | exact Below.drew (ball (Below.refl _ _) _) | exact ball (Below.drew (Below.refl _ _)) _)) v2
             clear v2)
          | (have _ := H2
             fail_if_success (have _ := H3)
             go_at_call 14
             refine (same_at ⟨_, _, _, _, _, _, _, _, _, _⟩ (tA ka) _ (ok0.keep (by first | exact Below.refl _ _ | exact Below.drew (Below.refl _ _) | exact ball (Below.refl _ _) _ | exact Below.drew (ball (Below.refl _ _) _) | exact ball (Below.drew (Below.refl _ _)) _)) (H2.ao.keep (by first | exact Below.refl _ _ | exact Below.drew (Below.refl _ _) | exact ball (Below.refl _ _) _ | exact Below.drew (ball (Below.refl _ _) _) | exact ball (Below.drew (Below.refl _ _)) _)) true (same_is te0 (by kernel_rfl))).mono ?_
             rintro e u3 ⟨rfl, v3⟩
             have H3 := H2.keep (bstep (by first | exact Below.refl _ _ | exact Below.drew (Below.refl _ _) | exact ball (Below.refl _ _) _ | exact Below.drew (ball (Below.refl _ _) _) | exact ball (Below.drew (Below.refl _ _)) _) v3)
             have LH3 := bstep (bstep LH2 (by first | exact Below.refl _ _ | exact Below.drew (Below.refl _ _) | exact ball (Below.refl _ _) _ | exact Below.drew (ball (Below.refl _ _) _) | exact ball (Below.drew (Below.refl _ _)) _)) v3
             clear v3)
          | (have _ := H3
             fail_if_success (have _ := H4)
             go_at_call 24
             refine (beacon_at _ _ (tA ka) _).mono ?_
             rintro e u4 ⟨rfl, v1⟩
             have H4 := H3.keep (bstep (by first | exact Below.refl _ _ | exact Below.drew (Below.refl _ _) | exact ball (Below.refl _ _) _ | exact Below.drew (ball (Below.refl _ _) _) | exact ball (Below.drew (Below.refl _ _)) _) v1)
             have LH4 := bstep (bstep LH3 (by first | exact Below.refl _ _ | exact Below.drew (Below.refl _ _) | exact ball (Below.refl _ _) _ | exact Below.drew (ball (Below.refl _ _) _) | exact ball (Below.drew (Below.refl _ _)) _)) v1
             clear v1)
          | (have _ := H4
             fail_if_success (have _ := H5)
             go_at_call 15
             refine (yield_at (tD kd) 3 9 [bcn 1 9 (tA ka)] 1 _ 1 _ (Lib.hid (H4.do'.keep (by first | exact Below.refl _ _ | exact Below.drew (Below.refl _ _) | exact ball (Below.refl _ _) _ | exact Below.drew (ball (Below.refl _ _) _) | exact ball (Below.drew (Below.refl _ _)) _))) (Lib.hid rfl) (by first | exact nsat1 (bcn_ok H4.ao) rfl | exact nsat1 (w := u4.drew) (bcn_ok (H4.ao.keep (by first | exact Below.refl _ _ | exact Below.drew (Below.refl _ _) | exact ball (Below.refl _ _) _ | exact Below.drew (ball (Below.refl _ _) _) | exact ball (Below.drew (Below.refl _ _)) _))) rfl) (by simp [maxLen]) (Lib.hid ⟨by simp, by simp⟩)).mono ?_
             rintro e u5 ⟨⟨rT, y1, y2, y3, y4, y5, y6, y7, y8, y9⟩, rfl, ok1, te1, v2⟩
             have H5 := H4.keep (bstep (by first | exact Below.refl _ _ | exact Below.drew (Below.refl _ _) | exact ball (Below.refl _ _) _ | exact Below.drew (ball (Below.refl _ _) _) | exact ball (Below.drew (Below.refl _ _)) _) v2)
             have LH5 := bstep (bstep LH4 (by first | exact Below.refl _ _ | exact Below.drew (Below.refl _ _) | exact ball (Below.refl _ _) _ | exact Below.drew (ball (Below.refl _ _) _) | exact ball (Below.drew (Below.refl _ _)) _)) v2
             clear v2)
          | (have _ := H5
             fail_if_success (have _ := H6)
             go_at_call 14
             refine (same_at ⟨_, _, _, _, _, _, _, _, _, _⟩ (tE) _ (ok1.keep (by first | exact Below.refl _ _ | exact Below.drew (Below.refl _ _) | exact ball (Below.refl _ _) _ | exact Below.drew (ball (Below.refl _ _) _) | exact ball (Below.drew (Below.refl _ _)) _)) tE_ok true (same_is te1 (by kernel_rfl))).mono ?_
             rintro e u6 ⟨rfl, v3⟩
             have H6 := H5.keep (bstep (by first | exact Below.refl _ _ | exact Below.drew (Below.refl _ _) | exact ball (Below.refl _ _) _ | exact Below.drew (ball (Below.refl _ _) _) | exact ball (Below.drew (Below.refl _ _)) _) v3)
             have LH6 := bstep (bstep LH5 (by first | exact Below.refl _ _ | exact Below.drew (Below.refl _ _) | exact ball (Below.refl _ _) _ | exact Below.drew (ball (Below.refl _ _) _) | exact ball (Below.drew (Below.refl _ _)) _)) v3
             clear v3))
      all_goals go_wp2_with fail
      all_goals go_meet
      all_goals exact ⟨rfl, by first | exact LH6 | exact bstep (Below.drew (Below.refl _ _)) LH6 | exact Below.drew LH6⟩
    case rest =>
      obtain ⟨rfl, hB⟩ := hcut
      obtain ⟨W9, hW9⟩ : ∃ W9, W9 = wc := ⟨_, rfl⟩
      subst hW9
      replace BB := bstep BB hB
      replace HH := HH.keep hB
      clear hB
      go_upto_region 10 with (fail)
      go_cut [0] (fun sx wx => sx = .bool true ∧ Below W9.heap.size W9 wx)
      case first =>
        go_region_held3 (fun w' => (w'.cell? ⟨k2, 0, none⟩ = some (.slice (some ⟨ka, 0, none⟩) 1 1) ∧ w'.cell? ⟨k2, 1, none⟩ = some (.slice none 0 0) ∧ w'.cell? ⟨k2, 2, none⟩ = some (.slice none 0 0)) ∧ (w'.cell? ⟨k3, 0, none⟩ = some (.slice none 0 0) ∧ w'.cell? ⟨k3, 1, none⟩ = some (.slice (some ⟨kb, 0, none⟩) 1 1) ∧ w'.cell? ⟨k3, 2, none⟩ = some (.slice none 0 0)))
          (first | exact ⟨H3.ca, H3.cb⟩ | exact ⟨(H3.keep (Below.drew (Below.refl _ _))).ca, (H3.keep (Below.drew (Below.refl _ _))).cb⟩ | exact ⟨(H3.keep (ball (Below.refl _ _) _)).ca, (H3.keep (ball (Below.refl _ _) _)).cb⟩ | exact ⟨H2.ca, H2.cb⟩ | exact ⟨(H2.keep (Below.drew (Below.refl _ _))).ca, (H2.keep (Below.drew (Below.refl _ _))).cb⟩ | exact ⟨(H2.keep (ball (Below.refl _ _) _)).ca, (H2.keep (ball (Below.refl _ _) _)).cb⟩ | exact ⟨H1.ca, H1.cb⟩ | exact ⟨(H1.keep (Below.drew (Below.refl _ _))).ca, (H1.keep (Below.drew (Below.refl _ _))).cb⟩ | exact ⟨(H1.keep (ball (Below.refl _ _) _)).ca, (H1.keep (ball (Below.refl _ _) _)).cb⟩ | exact ⟨HH.ca, HH.cb⟩ | exact ⟨(HH.keep (Below.drew (Below.refl _ _))).ca, (HH.keep (Below.drew (Below.refl _ _))).cb⟩ | exact ⟨(HH.keep (ball (Below.refl _ _) _)).ca, (HH.keep (ball (Below.refl _ _) _)).cb⟩)
          (first
            | (have _ := HH
               fail_if_success (have _ := H1)
               go_at_call 24
               refine (beacon_at _ _ (tB kb) _).mono ?_
               rintro e u1 ⟨rfl, v1⟩
               have H1 := HH.keep (bstep (by first | exact Below.refl _ _ | exact Below.drew (Below.refl _ _) | exact ball (Below.refl _ _) _ | exact Below.drew (ball (Below.refl _ _) _) | exact ball (Below.drew (Below.refl _ _)) _) v1)
               have LH1 := bstep (bstep (Below.refl _ _) (by first | exact Below.refl _ _ | exact Below.drew (Below.refl _ _) | exact ball (Below.refl _ _) _ | exact Below.drew (ball (Below.refl _ _) _) | exact ball (Below.drew (Below.refl _ _)) _)) v1
               clear v1)
            | (have _ := H1
               fail_if_success (have _ := H2)
               go_at_call 15
               refine (yield_at (tA ka) 1 9 [bcn 3 7 (tB kb)] 1 _ 1 _ (Lib.hid (H1.ao.keep (by first | exact Below.refl _ _ | exact Below.drew (Below.refl _ _) | exact ball (Below.refl _ _) _ | exact Below.drew (ball (Below.refl _ _) _) | exact ball (Below.drew (Below.refl _ _)) _))) (Lib.hid rfl) (by first | exact nsat1 (bcn_ok H1.bo) rfl | exact nsat1 (w := u1.drew) (bcn_ok (H1.bo.keep (by first | exact Below.refl _ _ | exact Below.drew (Below.refl _ _) | exact ball (Below.refl _ _) _ | exact Below.drew (ball (Below.refl _ _) _) | exact ball (Below.drew (Below.refl _ _)) _))) rfl) (by simp [maxLen]) (Lib.hid ⟨by simp, by simp⟩)).mono ?_
               rintro e u2 ⟨⟨rT, y1, y2, y3, y4, y5, y6, y7, y8, y9⟩, rfl, ok0, te0, v2⟩
               have H2 := H1.keep (bstep (by first | exact Below.refl _ _ | exact Below.drew (Below.refl _ _) | exact ball (Below.refl _ _) _ | exact Below.drew (ball (Below.refl _ _) _) | exact ball (Below.drew (Below.refl _ _)) _) v2)
               have LH2 := bstep (bstep LH1 (by first | exact Below.refl _ _ | exact Below.drew (Below.refl _ _) | exact ball (Below.refl _ _) _ | exact Below.drew (ball (Below.refl _ _) _) | exact ball (Below.drew (Below.refl _ _)) _)) v2
               clear v2)
            | (have _ := H2
               fail_if_success (have _ := H3)
               go_at_call 14
               refine (same_at ⟨_, _, _, _, _, _, _, _, _, _⟩ (tA ka) _ (ok0.keep (by first | exact Below.refl _ _ | exact Below.drew (Below.refl _ _) | exact ball (Below.refl _ _) _ | exact Below.drew (ball (Below.refl _ _) _) | exact ball (Below.drew (Below.refl _ _)) _)) (H2.ao.keep (by first | exact Below.refl _ _ | exact Below.drew (Below.refl _ _) | exact ball (Below.refl _ _) _ | exact Below.drew (ball (Below.refl _ _) _) | exact ball (Below.drew (Below.refl _ _)) _)) true (same_is te0 (by kernel_rfl))).mono ?_
               rintro e u3 ⟨rfl, v3⟩
               have H3 := H2.keep (bstep (by first | exact Below.refl _ _ | exact Below.drew (Below.refl _ _) | exact ball (Below.refl _ _) _ | exact Below.drew (ball (Below.refl _ _) _) | exact ball (Below.drew (Below.refl _ _)) _) v3)
               have LH3 := bstep (bstep LH2 (by first | exact Below.refl _ _ | exact Below.drew (Below.refl _ _) | exact ball (Below.refl _ _) _ | exact Below.drew (ball (Below.refl _ _) _) | exact ball (Below.drew (Below.refl _ _)) _)) v3
               clear v3))
        all_goals go_wp2_with fail
        all_goals go_meet
        all_goals exact ⟨rfl, by first | exact LH3 | exact bstep (Below.drew (Below.refl _ _)) LH3 | exact Below.drew LH3⟩
      case rest =>
        obtain ⟨rfl, hB⟩ := hcut
        obtain ⟨W10, hW10⟩ : ∃ W10, W10 = wc := ⟨_, rfl⟩
        subst hW10
        replace BB := bstep BB hB
        replace HH := HH.keep hB
        clear hB
        go_wp2_with fail
        go_ret
        exact ⟨rfl, BB⟩
end Go.Proofs.Ytleenbfldkmcaaa
