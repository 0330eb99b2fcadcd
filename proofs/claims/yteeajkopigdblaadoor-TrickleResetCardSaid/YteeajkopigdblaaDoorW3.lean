/- Proved: what begin of package trickle and Interval of its reference do. Conditions: the table of steps holds its numbers. -/
import Derived.Test.YteeajkopigdblaaDoorW2
namespace Go.Proofs.YteeajkopigdblaaDoor
open Go.RowKit Go.Sort Go.BigFrame Go.Proofs.YteeajkopigdblaaDoor.K
set_option linter.unusedVariables false
set_option linter.unusedSimpArgs false
attribute [local go_sem] cell_alloc_old

theorem len_half {l : Int} (h : l = 1 ∨ l = 2 ∨ l = 4 ∨ l = 8) : 1 ≤ l - l / 2 ∧ l - l / 2 ≤ 4 ∧ 0 ≤ l / 2 ∧ l / 2 ≤ 4 := by omega
theorem rbelow_at (s n v : Int) (w : World) (h0 : 0 ≤ s) (hv : belowV s n = v) :
    Calls Tryd.prog 30 #[.int .u64 s, .int .i64 n] w fun e w' => e = .returned (.int .i64 v) ∧ w = w' := by rw [← hv]; exact rbelow_any s n w h0
set_option maxRecDepth 100000 in
set_option maxHeartbeats 1000000 in
theorem rival_any (s l n : Int) (w : World) (s0 : 0 ≤ s) (s1 : s ≤ 1000000000) (hl : l = 1 ∨ l = 2 ∨ l = 4 ∨ l = 8) (n0 : 0 ≤ n) (n1 : n ≤ 999999984) :
    Calls Tryd.prog 27 #[.int .i64 s, .int .i64 l, .int .i64 n] w fun e w' => e = .returned (ivalV s l n).v ∧ Below w.heap.size w w' := by
  obtain ⟨l1, l2, l3, l4⟩ := len_half hl
  have l5 : 1 ≤ l ∧ l ≤ 8 := by omega
  obtain ⟨l5, l6⟩ := l5
  clear hl
  obtain ⟨v0, v1⟩ := belowV_in (s := 1000003 * s + n) (n := l - l / 2) l1 (by omega)
  unfold ivalV
  obtain ⟨v, hv⟩ : ∃ v, belowV (1000003 * s + n) (l - l / 2) = v := ⟨_, rfl⟩
  rw [hv] at v0 v1 ⊢
  have HV := Lib.hid hv; clear hv
  go_enter Tryd.func27, Tryd.ntmps27
  go_wp2_with fail
  refine (rbelow_at _ _ v _ (by omega) HV.out).mono ?_
  rintro e w1 ⟨rfl, rfl⟩
  go_wp2_with fail
  refine bodyPost_ret (v := (⟨l, n, n + l / 2 + v, 0, s⟩ : Tk).v) (by simp [results, Tryd.results27, go_sem]) rfl ⟨rfl, ball (Below.refl _ _) _⟩
theorem rival_at (s l n : Int) (t : Tk) (w : World) (s0 : 0 ≤ s) (s1 : s ≤ 1000000000) (hl : l = 1 ∨ l = 2 ∨ l = 4 ∨ l = 8) (n0 : 0 ≤ n) (n1 : n ≤ 999999984) (ht : ivalV s l n = t) :
    Calls Tryd.prog 27 #[.int .i64 s, .int .i64 l, .int .i64 n] w fun e w' => e = .returned t.v ∧ Below w.heap.size w w' := by
  rw [← ht]; exact rival_any s l n w s0 s1 hl n0 n1

/-- A timer lies in a block. -/
def TkAt (w : World) (k : Nat) (t : Tk) : Prop := w.cell? ⟨k, 0, none⟩ = some (.int .i64 t.i) ∧ w.cell? ⟨k, 1, none⟩ = some (.int .i64 t.b) ∧ w.cell? ⟨k, 2, none⟩ = some (.int .i64 t.f) ∧ w.cell? ⟨k, 3, none⟩ = some (.int .i64 t.c) ∧ w.cell? ⟨k, 4, none⟩ = some (.int .i64 t.s)
theorem TkAt.set0 {w : World} {k : Nat} {t : Tk} (h : TkAt w k t) (x : Int) : TkAt (w.setCell ⟨k, 0, none⟩ (.int .i64 x)) k { t with i := x } := by
  obtain ⟨c0, c1, c2, c3, c4⟩ := h
  refine ⟨?_, ?_, ?_, ?_, ?_⟩
  · exact World.cell?_setCell_same' _ _ _ (by rw [c0]; rfl)
  · rw [World.cell?_setCell_other _ _ _ _ (by simp)]; exact c1
  · rw [World.cell?_setCell_other _ _ _ _ (by simp)]; exact c2
  · rw [World.cell?_setCell_other _ _ _ _ (by simp)]; exact c3
  · rw [World.cell?_setCell_other _ _ _ _ (by simp)]; exact c4
theorem TkAt.set1 {w : World} {k : Nat} {t : Tk} (h : TkAt w k t) (x : Int) : TkAt (w.setCell ⟨k, 1, none⟩ (.int .i64 x)) k { t with b := x } := by
  obtain ⟨c0, c1, c2, c3, c4⟩ := h
  refine ⟨?_, ?_, ?_, ?_, ?_⟩
  · rw [World.cell?_setCell_other _ _ _ _ (by simp)]; exact c0
  · exact World.cell?_setCell_same' _ _ _ (by rw [c1]; rfl)
  · rw [World.cell?_setCell_other _ _ _ _ (by simp)]; exact c2
  · rw [World.cell?_setCell_other _ _ _ _ (by simp)]; exact c3
  · rw [World.cell?_setCell_other _ _ _ _ (by simp)]; exact c4
theorem TkAt.set2 {w : World} {k : Nat} {t : Tk} (h : TkAt w k t) (x : Int) : TkAt (w.setCell ⟨k, 2, none⟩ (.int .i64 x)) k { t with f := x } := by
  obtain ⟨c0, c1, c2, c3, c4⟩ := h
  refine ⟨?_, ?_, ?_, ?_, ?_⟩
  · rw [World.cell?_setCell_other _ _ _ _ (by simp)]; exact c0
  · rw [World.cell?_setCell_other _ _ _ _ (by simp)]; exact c1
  · exact World.cell?_setCell_same' _ _ _ (by rw [c2]; rfl)
  · rw [World.cell?_setCell_other _ _ _ _ (by simp)]; exact c3
  · rw [World.cell?_setCell_other _ _ _ _ (by simp)]; exact c4
theorem TkAt.set3 {w : World} {k : Nat} {t : Tk} (h : TkAt w k t) (x : Int) : TkAt (w.setCell ⟨k, 3, none⟩ (.int .i64 x)) k { t with c := x } := by
  obtain ⟨c0, c1, c2, c3, c4⟩ := h
  refine ⟨?_, ?_, ?_, ?_, ?_⟩
  · rw [World.cell?_setCell_other _ _ _ _ (by simp)]; exact c0
  · rw [World.cell?_setCell_other _ _ _ _ (by simp)]; exact c1
  · rw [World.cell?_setCell_other _ _ _ _ (by simp)]; exact c2
  · exact World.cell?_setCell_same' _ _ _ (by rw [c3]; rfl)
  · rw [World.cell?_setCell_other _ _ _ _ (by simp)]; exact c4
theorem TkAt.keep {w w' : World} {k : Nat} {t : Tk} (h : TkAt w k t) (hb : Below w.heap.size w w') : TkAt w' k t := ⟨keep1 hb h.1, keep1 hb h.2.1, keep1 hb h.2.2.1, keep1 hb h.2.2.2.1, keep1 hb h.2.2.2.2⟩
def BeginPost (t : Tk) (k : Nat) (w : World) (e : Ending) (w' : World) : Prop := (∃ v, e = .returned v) ∧ TkAt w' k t ∧ Below k w w'
set_option maxRecDepth 100000 in
set_option maxHeartbeats 1000000 in
theorem begin_any (t : Tk) (l n : Int) (k : Nat) (w : World) (hT : Tab w) (s0 : 0 ≤ t.s) (s1 : t.s ≤ 1000000000) (hl : l = 1 ∨ l = 2 ∨ l = 4 ∨ l = 8) (n0 : 0 ≤ n) (n1 : n ≤ 999999984)
    (hc : TkAt w k t) (fz : ∀ j, w.frozen? ⟨k, j, none⟩ = false) (hk : 0 < k) :
    Calls Tryd.prog 25 #[.pointer (some ⟨k, 0, none⟩), .int .i64 l, .int .i64 n] w (BeginPost (ivalV t.s l n) k w) := by
  have h3 := ((hc.set0 l).set1 n).set3 0
  obtain ⟨c0, c1, c2, c3, c4⟩ := hc
  obtain ⟨l1, l2, l3, l4⟩ := len_half hl
  have l5 : 1 ≤ l ∧ l ≤ 8 := by omega
  obtain ⟨l5, l6⟩ := l5
  clear hl
  obtain ⟨i, b, f, c, s⟩ := t
  simp only at c0 c1 c2 c3 c4 s0 s1 h3 ⊢
  obtain ⟨v0, v1⟩ := belowV_in (s := 1000003 * s + n) (n := l - l / 2) l1 (by omega)
  unfold ivalV
  obtain ⟨v, hv⟩ : ∃ v, belowV (1000003 * s + n) (l - l / 2) = v := ⟨_, rfl⟩
  rw [hv] at v0 v1 ⊢
  have HV := Lib.hid hv; clear hv
  have f0 := fz 0; have f1 := fz 1; have f2 := fz 2; have f3 := fz 3
  have hT1 : Tab (((w.setCell ⟨k, 0, none⟩ (.int .i64 l)).setCell ⟨k, 1, none⟩ (.int .i64 n)).setCell ⟨k, 3, none⟩ (.int .i64 0)) := by
    obtain ⟨t0, t1, t2, t3, t4, t5⟩ := hT
    have hb : ¬ k = 0 := by omega
    have hb' : ¬ 0 = k := by omega
    refine ⟨?_, ?_, ?_, ?_, ?_, ?_⟩ <;> go_simp
  have HT := Lib.hid hT1; clear hT1 fz
  have B1 : Below k w (((w.setCell ⟨k, 0, none⟩ (.int .i64 l)).setCell ⟨k, 1, none⟩ (.int .i64 n)).setCell ⟨k, 3, none⟩ (.int .i64 0)) :=
    (((Below.refl _ w).setCell (p := ⟨k, 0, none⟩) (Nat.le_refl _) _).setCell (p := ⟨k, 1, none⟩) (Nat.le_refl _) _).setCell (p := ⟨k, 3, none⟩) (Nat.le_refl _) _
  go_enter Tryd.func25, Tryd.ntmps25
  go_wp2_with fail
  refine (below_at _ _ v _ (by omega) HT.out HV.out).mono ?_
  rintro e w1 ⟨rfl, b1⟩
  obtain ⟨V, hV⟩ : ∃ V, ((w.setCell ⟨k, 0, none⟩ (.int .i64 l)).setCell ⟨k, 1, none⟩ (.int .i64 n)).setCell ⟨k, 3, none⟩ (.int .i64 0) = V := ⟨_, rfl⟩
  have g2 : V.frozen? ⟨k, 2, none⟩ = false := by rw [← hV]; simp [f2]
  rw [hV] at b1 B1 h3
  clear hV c0 c1 c2 c3 c4 f0 f1 f2 f3 HT
  obtain ⟨d0, d1, d2, d3, d4⟩ := h3
  simp only at d0 d1 d2 d3 d4
  have e0 := keep1 b1 d0
  have e1 := keep1 b1 d1
  have e2 := keep1 b1 d2
  have e3 := keep1 b1 d3
  have e4 := keep1 b1 d4
  have h2 := keepF b1 d2 g2
  have B2 : Below k w w1 := B1.trans (b1.mono (by have := World.block_lt_of_cell? _ _ d0; simp at this; omega))
  clear d0 d1 d2 d3 d4 g2 b1 B1
  go_wp2_with fail
  go_end0
  refine ⟨⟨_, rfl⟩, ?_, B2.setCell (p := ⟨k, 2, none⟩) (Nat.le_refl _) _⟩
  have ht : TkAt w1 k ⟨l, n, f, 0, s⟩ := ⟨e0, e1, e2, e3, e4⟩
  exact ht.set2 _
theorem begin_at (t u : Tk) (l n : Int) (k : Nat) (w : World) (hu : ivalV t.s l n = u) (hT : Tab w) (s0 : 0 ≤ t.s) (s1 : t.s ≤ 1000000000) (hl : l = 1 ∨ l = 2 ∨ l = 4 ∨ l = 8) (n0 : 0 ≤ n) (n1 : n ≤ 999999984)
    (hc : TkAt w k t) (fz : ∀ j, w.frozen? ⟨k, j, none⟩ = false) (hk : 0 < k) :
    Calls Tryd.prog 25 #[.pointer (some ⟨k, 0, none⟩), .int .i64 l, .int .i64 n] w (BeginPost u k w) := by
  rw [← hu]; exact begin_any t l n k w hT s0 s1 hl n0 n1 hc fz hk
end Go.Proofs.YteeajkopigdblaaDoor
