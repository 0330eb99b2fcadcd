/- Proved: plain facts on the clashes that the statement counts by itself, and how rows and tables lie that a call has copied. Conditions: those that each theorem names. -/
import Derived.Test.YtleenbfldkmcaaaK29a
import Derived.Test.YtleenbfldkmcaaaK27
import Derived.Test.YtleenbfldkmcaaaK28a
namespace Go.Proofs.Ytleenbfldkmcaaa
open Go.RowKit Go.Sort Go.BigFrame
set_option linter.unusedVariables false
set_option linter.unusedSimpArgs false

/-! ### what the statement counts -/
def hitU (H : List (List Bool)) (fr : Int) (l : Nat) (g : Gr) (c : Nat) (u : Us) : Bool := c != l && ((c : Int) != g.p) && tabB H l c && (u.s == g.s && u.o == g.o) && decide (fr ≤ g.u)
def clO (l : Nat) (g : Gr) (c : Nat) : Cz := ⟨g.s, g.o, l, g.p, c⟩
def wU (H : List (List Bool)) (fr : Int) (l : Nat) (g : Gr) (c : Nat) (us : List Us) : List Cz := (us.filter (hitU H fr l g c)).map fun _ => clO l g c
def wC (H : List (List Bool)) (T : List Tb) (fr : Int) (l : Nat) (g : Gr) (n : Nat) : List Cz := (List.range n).flatMap fun c => wU H fr l g c (T.getD c default).U
def wG (H : List (List Bool)) (T : List Tb) (fr : Int) (l : Nat) (gs : List Gr) : List Cz := gs.flatMap fun g => wC H T fr l g T.length
def wL (H : List (List Bool)) (T : List Tb) (fr : Int) (n : Nat) : List Cz := (List.range n).flatMap fun l => wG H T fr l (T.getD l default).G
theorem wU_succ {H : List (List Bool)} {fr : Int} {l : Nat} {g : Gr} {c : Nat} {us : List Us} {k : Nat} (hk : k < us.length) : wU H fr l g c (us.take (k + 1)) = wU H fr l g c (us.take k) ++ (if hitU H fr l g c (us.getD k default) = true then [clO l g c] else []) := by
  unfold wU
  rw [filter_snoc _ hk, List.map_append]
  congr 1
  split <;> rfl
theorem wC_succ (H : List (List Bool)) (T : List Tb) (fr : Int) (l : Nat) (g : Gr) (c : Nat) : wC H T fr l g (c + 1) = wC H T fr l g c ++ wU H fr l g c (T.getD c default).U := by
  unfold wC; rw [List.range_succ, List.flatMap_append]; simp
theorem wG_succ {H : List (List Bool)} {T : List Tb} {fr : Int} {l : Nat} {gs : List Gr} {j : Nat} (hj : j < gs.length) : wG H T fr l (gs.take (j + 1)) = wG H T fr l (gs.take j) ++ wC H T fr l (gs.getD j default) T.length := by
  unfold wG
  rw [List.take_add_one, List.getElem?_eq_getElem hj, List.flatMap_append, List.getD_eq_getElem?_getD, List.getElem?_eq_getElem hj]
  simp
theorem wL_succ (H : List (List Bool)) (T : List Tb) (fr : Int) (l : Nat) : wL H T fr (l + 1) = wL H T fr l ++ wG H T fr l (T.getD l default).G := by
  unfold wL; rw [List.range_succ, List.flatMap_append]; simp
theorem want_iff {H : List (List Bool)} {T : List Tb} {fr : Int} (hs : squareB H T.length = true) (x : Cz) : x ∈ clashV H T fr ↔ x ∈ wL H T fr T.length := by
  rw [mem_clash hs]
  unfold wL wG wC wU
  simp only [List.mem_flatMap, List.mem_range, List.mem_map, List.mem_filter]
  constructor
  · rintro ⟨l, hl, g, hg, c, hc, hh, rfl⟩
    obtain ⟨h1, h2, h3, h4, u, hu, h5, h6⟩ := hit_iff.1 hh
    refine ⟨l, hl, g, hg, c, hc, u, ⟨hu, ?_⟩, rfl⟩
    unfold hitU
    simp [h1, h2, h3, h4, h5, h6]
  · rintro ⟨l, hl, g, hg, c, hc, u, ⟨hu, hh⟩, rfl⟩
    refine ⟨l, hl, g, hg, c, hc, ?_, rfl⟩
    unfold hitU at hh
    simp only [Bool.and_eq_true, bne_iff_ne, ne_eq, beq_iff_eq, decide_eq_true_eq] at hh
    obtain ⟨⟨⟨⟨h1, h2⟩, h3⟩, h4, h5⟩, h6⟩ := hh
    exact hit_iff.2 ⟨h6, h3, h1, h2, u, hu, h4, h5⟩
theorem hitU_parts {H : List (List Bool)} {fr : Int} {l : Nat} {g : Gr} {c : Nat} {u : Us} {q0 q1 q2 q3 q4 : Bool} (h0 : ((c : Int) != (l : Int)) = q0) (h1 : ((c : Int) != g.p) = q1) (h2 : tabB H l c = q2) (h3 : decide (u.s = g.s ∧ u.o = g.o) = q3) (h4 : decide (fr ≤ g.u) = q4) : hitU H fr l g c u = (q0 && q1 && q2 && q3 && q4) := by
  have e : (c != l) = q0 := by rw [← h0, Bool.eq_iff_iff]; simp; omega
  unfold hitU
  rw [e, h1, h2, h4, ← h3, cell_eq]
/-! ### rows and tables that a call has copied -/
def RowsOk (w : World) (RC : List Value) (H : List (List Bool)) : Prop := RC.length = H.length ∧ ∀ i, i < H.length → ∃ ra rc, RC[i]? = some (.slice ra (H.getD i []).length rc) ∧ BoolsAt w ra (H.getD i []) ∧ (H.getD i []).length ≤ rc ∧ rc ≤ maxLen
theorem RowsOk.keep {w w' : World} {RC : List Value} {H : List (List Bool)} (h : RowsOk w RC H) (hb : Below w.heap.size w w') : RowsOk w' RC H := ⟨h.1, fun i hi => by
  obtain ⟨ra, rc, h1, h2, h3, h4⟩ := h.2 i hi
  exact ⟨ra, rc, h1, h2.keep hb, h3, h4⟩⟩
theorem RowsOk.one {w : World} {RC : List Value} {H : List (List Bool)} (h : RowsOk w RC H) : ∀ u ∈ RC, u.oneCell' = true := fun u hu => by
  obtain ⟨i, hi, e⟩ := List.mem_iff_getElem.1 hu
  obtain ⟨ra, rc, h1, -⟩ := h.2 i (by rw [← h.1]; exact hi)
  rw [List.getElem?_eq_getElem hi, e] at h1
  cases h1
  rfl
theorem RowsOk.set {w : World} {RC : List Value} {H : List (List Bool)} (h : RowsOk w RC H) {k : Nat} {bs : List Bool} {ra : Option Addr} {rc : Nat} (hb : BoolsAt w ra bs) (h1 : bs.length ≤ rc) (h2 : rc ≤ maxLen) : RowsOk w (RC.set k (.slice ra bs.length rc)) (H.set k bs) := by
  refine ⟨by rw [List.length_set, List.length_set]; exact h.1, fun i hi => ?_⟩
  rw [List.length_set] at hi
  by_cases e : k = i
  · subst e
    have e1 : (H.set k bs).getD k [] = bs := by rw [List.getD_eq_getElem?_getD, List.getElem?_set_self hi]; rfl
    rw [e1]
    exact ⟨ra, rc, List.getElem?_set_self (by rw [h.1]; exact hi), hb, h1, h2⟩
  · have e1 : (H.set k bs).getD i [] = H.getD i [] := by rw [List.getD_eq_getElem?_getD, List.getElem?_set_ne e, ← List.getD_eq_getElem?_getD]
    rw [e1, List.getElem?_set_ne e]
    exact h.2 i hi
theorem rows_list {w : World} {b off : Nat} {H : List (List Bool)} (h : TabAt w (some ⟨b, off, none⟩) H) : ∃ RC, RowsOk w RC H ∧ CellsAt w b off RC := by
  refine ⟨(List.range H.length).map fun i => (w.cell? ⟨b, off + i, none⟩).getD undef, ⟨by simp, fun i hi => ?_⟩, fun j u hj => ?_⟩
  · obtain ⟨b', off', ra, rc, e, h1, h2, h3, h4⟩ := h.at (Below.refl _ _) hi
    cases e
    exact ⟨ra, rc, by rw [List.getElem?_map, List.getElem?_range hi, Option.map_some, h1]; rfl, h2, h3, h4⟩
  · have hl := (List.getElem?_eq_some_iff.1 hj).1
    rw [List.length_map, List.length_range] at hl
    obtain ⟨b', off', ra, rc, e, h1, -⟩ := h.at (Below.refl _ _) hl
    cases e
    rw [List.getElem?_map, List.getElem?_range hl, Option.map_some, h1] at hj
    rw [h1]; exact hj
theorem tab_of_row {w : World} {base n : Nat} {v : Value} {RC : List Value} {H : List (List Bool)} (h : w.ownsRow base 66 1 v n RC) (hr : RowsOk w RC H) (hn : n = H.length) (hpos : 0 < n) : ∃ g c, v = .slice (some ⟨g, 0, none⟩) n c ∧ TabAt w (some ⟨g, 0, none⟩) H ∧ n ≤ c ∧ c ≤ maxLen ∧ base ≤ g := by
  have h0 := h
  rcases h.2 with ⟨rfl, hn0⟩ | ⟨g, cap, cur, rfl, hb, hg, hnc, hcm, hcs, htake⟩
  · omega
  · refine ⟨g, cap, rfl, .inr ⟨g, 0, rfl, fun i hi => ?_⟩, by omega, hcm, hb⟩
    obtain ⟨ra, rc, h1, h2, h3, h4⟩ := hr.2 i hi
    refine ⟨ra, rc, ?_, h2, h3, h4⟩
    have := World.ownsRow.cellAt h0 i (by omega)
    rw [Nat.zero_add, this]; exact h1
theorem ts_set {w : World} {b off k : Nat} {T : List Tv} (h : At 3 Tv.cs w (some ⟨b, off, none⟩) T) (hk : k < T.length) :
    At 3 Tv.cs (((w.setCell ⟨b, off + k * 3, none⟩ (.slice none 0 0)).setCell ⟨b, off + k * 3 + 1, none⟩ (.slice none 0 0)).setCell ⟨b, off + k * 3 + 2, none⟩ (.slice none 0 0)) (some ⟨b, off, none⟩) (T.set k default) := by
  obtain ⟨b', off', e, hc⟩ := h.at hk
  cases e
  refine .inr ⟨_, _, rfl, fun i hi j u hj => ?_⟩
  rw [List.length_set] at hi
  have hj3 : j < 3 := by have := (List.getElem?_eq_some_iff.1 hj).1; simpa using this
  by_cases e : k = i
  · subst e
    have e1 : (T.set k default).getD k default = default := by rw [List.getD_eq_getElem?_getD, List.getElem?_set_self hi]; rfl
    rw [e1] at hj
    have hu : u = .slice none 0 0 := by
      have : j = 0 ∨ j = 1 ∨ j = 2 := by omega
      rcases this with rfl | rfl | rfl <;> (cases hj; rfl)
    subst hu
    have s0 : (w.cell? ⟨b, off + k * 3, none⟩).isSome = true := by have := hc k hk 0 _ rfl; rw [Nat.add_zero] at this; rw [this]; rfl
    have s1 : (w.cell? ⟨b, off + k * 3 + 1, none⟩).isSome = true := by rw [hc k hk 1 _ rfl]; rfl
    have s2 : (w.cell? ⟨b, off + k * 3 + 2, none⟩).isSome = true := by rw [hc k hk 2 _ rfl]; rfl
    have : j = 0 ∨ j = 1 ∨ j = 2 := by omega
    rcases this with rfl | rfl | rfl
    · rw [World.cell?_setCell_other _ _ _ _ (fun he => by have := congrArg Addr.off he; simp at this), World.cell?_setCell_other _ _ _ _ (fun he => by have := congrArg Addr.off he; simp at this)]
      rw [Nat.add_zero]
      exact World.cell?_setCell_same' _ _ _ s0
    · rw [World.cell?_setCell_other _ _ _ _ (fun he => by have := congrArg Addr.off he; simp at this)]
      exact World.cell?_setCell_same' _ _ _ (by rw [World.cell?_setCell_other _ _ _ _ (fun he => by have := congrArg Addr.off he; simp at this)]; exact s1)
    · exact World.cell?_setCell_same' _ _ _ (by
        rw [World.cell?_setCell_other _ _ _ _ (fun he => by have := congrArg Addr.off he; simp at this), World.cell?_setCell_other _ _ _ _ (fun he => by have := congrArg Addr.off he; simp at this)]
        exact s2)
  · have e1 : (T.set k default).getD i default = T.getD i default := by rw [List.getD_eq_getElem?_getD, List.getElem?_set_ne e, ← List.getD_eq_getElem?_getD]
    rw [e1] at hj
    have hne : ∀ q, q < 3 → off + k * 3 + q ≠ off + i * 3 + j := fun q hq => by omega
    rw [World.cell?_setCell_other _ _ _ _ (fun he => hne 2 (by omega) (congrArg Addr.off he)), World.cell?_setCell_other _ _ _ _ (fun he => hne 1 (by omega) (congrArg Addr.off he)), World.cell?_setCell_other _ _ _ _ (fun he => hne 0 (by omega) (congrArg Addr.off he))]
    exact hc i hi j u hj
theorem tv_default_ok (w : World) : (default : Tv).ok w := ⟨.inl rfl, .inl rfl, .inl rfl, rfl, rfl, rfl, Nat.le_refl _, Nat.le_refl _, Nat.le_refl _, Nat.zero_le _, Nat.zero_le _, Nat.zero_le _, (by intro x hx; cases hx), (by intro x hx; cases hx)⟩
theorem set_mem {α : Type} {l : List α} {k : Nat} {a x : α} (h : x ∈ l.set k a) : x ∈ l ∨ x = a := by
  rcases List.mem_or_eq_of_mem_set h with h | h
  · exact .inl h
  · exact .inr h
theorem tbs_set (T : List Tv) (k : Nat) : tbs (T.set k default) = (tbs T).set k default := by unfold tbs; rw [List.map_set]; rfl
/-- A node that hears nothing. -/
theorem deaf_square {H : List (List Bool)} {n k : Nat} (h : squareB H n = true) : squareB (H.set k (List.replicate n false)) n = true := by
  rw [square_iff] at h ⊢
  refine ⟨by rw [List.length_set]; exact h.1, fun j hj => ?_⟩
  rw [List.length_set] at hj
  by_cases e : k = j
  · subst e; rw [List.getD_eq_getElem?_getD, List.getElem?_set_self hj]; simp
  · rw [List.getD_eq_getElem?_getD, List.getElem?_set_ne e, ← List.getD_eq_getElem?_getD]; exact h.2 j hj
theorem deaf_le {H : List (List Bool)} {n k : Nat} : ∀ i j, tabB (H.set k (List.replicate n false)) i j = true → tabB H i j = true := fun i j h => by
  unfold tabB at *
  by_cases e : k = i
  · subst e
    by_cases hk : k < H.length
    · rw [List.getD_eq_getElem?_getD (l := H.set k _), List.getElem?_set_self hk, Option.getD_some, List.getD_eq_getElem?_getD] at h
      by_cases hj : j < n
      · simp [hj] at h
      · rw [List.getElem?_eq_none (by simp; omega)] at h; cases h
    · rw [List.getD_eq_getElem?_getD (l := H.set k _), List.getElem?_eq_none (by rw [List.length_set]; omega)] at h; simp at h
  · rwa [List.getD_eq_getElem?_getD (l := H.set k _), List.getElem?_set_ne e, ← List.getD_eq_getElem?_getD] at h
theorem clash_wf {w : World} {H : List (List Bool)} {T : List Tv} {fr : Int} (hT : ∀ t ∈ T, t.ok w) (hn : T.length ≤ 1000) (hs : squareB H T.length = true) : ∀ x ∈ clashV H (tbs T) fr, x.wf := fun x hx => by
  rw [mem_clash (by rw [tbs_len]; exact hs)] at hx
  obtain ⟨l, hl, g, hg, c, hc, -, rfl⟩ := hx
  rw [tbs_len] at hl hc
  rw [tbs_at hl] at hg
  have hw := (hT _ (getD_mem hl)).gw g hg
  exact ⟨hw.s, hw.o, wf_nat (by omega), hw.p, wf_nat (by omega)⟩
end Go.Proofs.Ytleenbfldkmcaaa
