/- Proved: what the two functions that tell who reaches whom return. Conditions: the list lies in memory. -/
import Derived.Test.YtkomgjkeikaigaaG3
namespace Go.Proofs.Ytkomgjkeikaigaa
open Go.RowKit Go.Sort Go.BigFrame
set_option linter.unusedVariables false
set_option linter.unusedSimpArgs false
attribute [local go_sem] cell_alloc_old

theorem inf4 : (Try.prog.info? 4).map (fun i => (i.zero, i.size, i.bytes)) = some (some (.bool false), 1, 1) := by kernel_rfl
theorem made_rep (v : Value) (hv : v.cells = #[v]) (n : Nat) : madeCells v.cells (n * 1) = Array.replicate n v := by
  rw [hv, Nat.mul_one]
  apply Array.ext
  · simp [madeCells]
  · intro i h1 h2
    simp [madeCells]
    try (rw [show i % 1 = 0 from Nat.mod_one i]; rfl)
theorem make_bools (n : Nat) (hn : n ≤ 60) (w : World) : (Instr.makeSlice 33 (.int .i64 n) (.int .i64 n)).run Try.prog w = .ok (.slice (some ⟨w.heap.size, 0, none⟩) n n) (w.alloc (.cells (Array.replicate n (.bool false)) 4)) := by
  obtain ⟨i0, hi, hz0, hz1, hz2⟩ := info_parts inf4
  have := run_make (P := Try.prog) w 33 4 i0 (.bool false) Try.underlying33 hi hz0 .i64 .i64 n n (by omega) (Int.le_refl _) (by rw [hz2]; omega) (by omega)
  rw [hz1, made_rep _ rfl] at this
  simpa using this
theorem make_ints (n : Nat) (hn : n ≤ 60) (w : World) : (Instr.makeSlice 23 (.int .i64 n) (.int .i64 n)).run Try.prog w = .ok (.slice (some ⟨w.heap.size, 0, none⟩) n n) (w.alloc (.cells (Array.replicate n (.int .i64 0)) 3)) := by
  obtain ⟨i0, hi, hz0, hz1, hz2⟩ := info_parts inf3
  have := run_make (P := Try.prog) w 23 3 i0 (.int .i64 0) Try.underlying23 hi hz0 .i64 .i64 n n (by omega) (Int.le_refl _) (by rw [hz2]; omega) (by omega)
  rw [hz1, made_rep _ rfl] at this
  simpa using this

/-! ### a row of a call's own that is written in place -/
def RowB (w : World) (g : Nat) (bs : List Bool) : Prop := CAt w g (bs.map Value.bool) ∧ Fz w g
def RowI (w : World) (g : Nat) (zs : List Int) : Prop := CAt w g (zs.map (Value.int .i64)) ∧ Fz w g
theorem RowB.keep {w w' : World} {g : Nat} {bs : List Bool} (h : RowB w g bs) (hb : Below w.heap.size w w') : RowB w' g bs := ⟨h.1.keep hb, h.2.keep hb⟩
theorem RowI.keep {w w' : World} {g : Nat} {bs : List Int} (h : RowI w g bs) (hb : Below w.heap.size w w') : RowI w' g bs := ⟨h.1.keep hb, h.2.keep hb⟩
theorem RowB.at {w : World} {g : Nat} {bs : List Bool} (h : RowB w g bs) {j : Nat} (hj : j < bs.length) : w.cell? ⟨g, j, none⟩ = some (.bool (bs.getD j false)) :=
  h.1 j _ (by rw [List.getElem?_map, List.getElem?_eq_getElem hj, List.getD_eq_getElem?_getD, List.getElem?_eq_getElem hj]; rfl)
theorem RowI.at {w : World} {g : Nat} {bs : List Int} (h : RowI w g bs) {j : Nat} (hj : j < bs.length) : w.cell? ⟨g, j, none⟩ = some (.int .i64 (at' bs j)) :=
  h.1 j _ (by unfold at'; rw [List.getElem?_map, List.getElem?_eq_getElem hj, List.getD_eq_getElem?_getD, List.getElem?_eq_getElem hj]; rfl)
theorem RowB.set {w : World} {g : Nat} {bs : List Bool} (h : RowB w g bs) {j : Nat} (hj : j < bs.length) (x : Bool) : RowB (w.setCell ⟨g, j, none⟩ (.bool x)) g (bs.set j x) :=
  ⟨by rw [List.map_set]; exact h.1.set j (.bool x) (by simpa using hj), h.2.set _ _⟩
theorem RowI.set {w : World} {g : Nat} {bs : List Int} (h : RowI w g bs) {j : Nat} (hj : j < bs.length) (x : Int) : RowI (w.setCell ⟨g, j, none⟩ (.int .i64 x)) g (bs.set j x) :=
  ⟨by rw [List.map_set]; exact h.1.set j (.int .i64 x) (by simpa using hj), h.2.set _ _⟩
theorem RowB.new (w : World) (n : Nat) : RowB (w.alloc (.cells (Array.replicate n (.bool false)) 4)) w.heap.size (List.replicate n false) :=
  ⟨by rw [List.map_replicate, ← List.toArray_replicate]; exact CAt.new w _ 4, Fz.new w _ 4⟩
theorem RowI.new (w : World) (n : Nat) : RowI (w.alloc (.cells (Array.replicate n (.int .i64 0)) 3)) w.heap.size (List.replicate n 0) :=
  ⟨by rw [List.map_replicate, ← List.toArray_replicate]; exact CAt.new w _ 3, Fz.new w _ 3⟩
theorem RowB.bools {w : World} {g : Nat} {bs : List Bool} (h : RowB w g bs) : BoolsAt w (some ⟨g, 0, none⟩) bs := .inr ⟨g, 0, rfl, fun j hj => by rw [Nat.zero_add]; exact h.at hj⟩
theorem RowI.ints {w : World} {g : Nat} {bs : List Int} (h : RowI w g bs) : IntsAt .i64 w (some ⟨g, 0, none⟩) bs := .inr ⟨g, 0, rfl, fun j hj => by rw [Nat.zero_add]; exact h.at hj⟩
def BoolsPost (bs : List Bool) (w : World) (e : Ending) (w' : World) : Prop := ∃ a cap, e = .returned (.slice a bs.length cap) ∧ BoolsAt w' a bs ∧ bs.length ≤ cap ∧ cap ≤ maxLen ∧ Below w.heap.size w w'
theorem reachL_len {l : List Int} {root : Int} (h : l.length ≤ 60) : (reachL l root).length = l.length := by unfold reachL; rw [if_pos h]; simp
theorem reachL_out {l : List Int} {root : Int} (h : l.length ≤ 60) (hr : ¬ inR l root) : reachL l root = List.replicate l.length false := by
  unfold reachL; rw [if_pos h]
  refine List.ext_getElem (by simp) fun i h1 h2 => ?_
  simp [hr]
def rTo (l : List Int) (root : Int) : Nat → List Bool
  | 0 => List.replicate l.length false
  | k + 1 => (rTo l root k).set k (reachB l root k)
theorem rTo_len {l : List Int} {root : Int} : ∀ k, (rTo l root k).length = l.length
  | 0 => by simp [rTo]
  | k + 1 => by rw [rTo, List.length_set, rTo_len k]
theorem rTo_at {l : List Int} {root : Int} : ∀ (k : Nat), k ≤ l.length → ∀ (j : Nat), j < l.length → (rTo l root k).getD j false = if j < k then reachB l root j else false
  | 0, _, j, hj => by rw [if_neg (by omega)]; unfold rTo; rw [List.getD_eq_getElem?_getD, List.getElem?_replicate, if_pos hj]; rfl
  | k + 1, hk, j, hj => by
    rw [rTo, getD_set, rTo_at k (by omega) j hj, rTo_len]
    by_cases e : k = j
    · subst e; rw [if_pos ⟨rfl, hj⟩, if_pos (by omega)]
    · rw [if_neg (fun x => e x.1)]
      by_cases h : j < k
      · rw [if_pos h, if_pos (by omega)]
      · rw [if_neg h, if_neg (by omega)]
theorem rTo_end {l : List Int} {root : Int} (h : l.length ≤ 60) (hr : inR l root) : rTo l root l.length = reachL l root := by
  refine list_eq false (by rw [rTo_len, reachL_len h]) fun j hj => ?_
  rw [rTo_len] at hj
  rw [rTo_at _ (Nat.le_refl _) j hj, if_pos hj]
  unfold reachL; rw [if_pos h, List.getD_eq_getElem?_getD, List.getElem?_map, List.getElem?_range hj]
  simp [hr]

set_option maxRecDepth 100000 in
set_option maxHeartbeats 2000000 in
theorem rreach_at (l : List Int) (n : Nat) (a : Option Addr) (cap : Nat) (root : Int) (w : World) (hn : n = l.length) (hl : IntsAt .i64 w a l) (hm : n ≤ maxLen) : Calls Try.prog 21 #[.slice a n cap, .int .i64 root] w (BoolsPost (reachL l root) w) := by
  have hm' := hm
  unfold maxLen at hm
  have HN := Lib.hid hn; clear hn
  by_cases h60 : (60 : Int) < (n : Int)
  · have e : reachL l root = [] := by unfold reachL; rw [if_neg (by rw [← HN.out]; omega)]
    have HE := Lib.hid e; clear e
    go_enter Try.func21, Try.ntmps21
    go_wp2_with fail
    go_ret
    exact ⟨none, 0, by rw [HE.out]; rfl, by rw [HE.out]; exact .inl rfl, by rw [HE.out]; exact Nat.zero_le _, by simp [maxLen], Below.refl _ _⟩
  have h60' : l.length ≤ 60 := by rw [← HN.out]; omega
  have H60 := Lib.hid h60'
  have hmk := make_bools n (by rw [HN.out]; exact h60')
  clear h60'
  have R0 := RowB.new w n
  have B0 : Below w.heap.size w (w.alloc (.cells (Array.replicate n (.bool false)) 4)) := ball (Below.refl _ _) _
  have hsz : w.heap.size < (w.alloc (.cells (Array.replicate n (.bool false)) 4)).heap.size := by simp
  by_cases hr : inR l root
  · have h0 : ¬ root < 0 := by have := hr.1; omega
    have h1 : root < (n : Int) := by rw [HN.out]; exact hr.2
    have HR := Lib.hid hr; clear hr
    go_enter Try.func21, Try.ntmps21
    go_wp2_with fail
    obtain ⟨V, hV⟩ : ∃ V, w.alloc (.cells (Array.replicate n (.bool false)) 4) = V := ⟨_, rfl⟩
    rw [hV] at R0 B0 hsz ⊢
    clear hV hmk
    go_loopw [6] (fun i wr => ∃ k : Nat, k ≤ n ∧ i = .int .i64 k ∧ RowB wr w.heap.size (rTo l root k) ∧ Below w.heap.size w wr ∧ w.heap.size < wr.heap.size) (fun i _ => n - (intOf i).toNat)
    case atStart => exact ⟨0, Nat.zero_le _, rfl, by unfold rTo; rw [← HN.out]; exact R0, B0, hsz⟩
    case round =>
      clear R0 B0 hsz
      obtain ⟨k, hk, rfl, R, BB, hsz⟩ := hrel
      by_cases hlt : k < n
      · have hlt' : (k : Int) < (n : Int) := by omega
        have hk0 : (0 : Int) ≤ (k : Int) := by omega
        have hlen : (rTo l root k).length = n := by rw [rTo_len, HN.out]
        have hst : rTo l root (k + 1) = (rTo l root k).set k (((k : Int) == root) || meets l k root) := rfl
        obtain ⟨y, hy⟩ : ∃ y, meets l k root = y := ⟨_, rfl⟩
        rw [hy] at hst
        obtain ⟨o, ho⟩ : ∃ o, rTo l root k = o := ⟨_, rfl⟩
        rw [ho] at hst hlen R
        have HY := Lib.hid hy; have HST := Lib.hid hst; have HL := Lib.hid hlen
        clear hy hst ho hlen
        by_cases he : (k : Int) = root
        · have heb : ((k : Int) == root) = true := by simp [he]
          have HE := Lib.hid he; clear he
          go_wp2_with fail
          refine (meets_at l n a cap k root y wr HN.out (hl.keep BB) hm' HY.out).mono ?_
          rintro e w1 ⟨rfl, b1⟩
          replace R := R.keep b1
          replace hsz := Nat.lt_of_lt_of_le hsz b1.size
          replace BB := bstep BB b1
          clear b1
          have c := R.at (j := k) (by rw [HL.out]; exact hlt)
          have f := R.2.1 k
          go_wp2_with fail
          go_roundw
          case rel => exact ⟨k + 1, by omega, by go_num, by rw [HST.out, heb]; exact R.set (by rw [HL.out]; exact hlt) true, BB.setCell (p := ⟨_, k, none⟩) (Nat.le_refl _) _, by simpa using hsz⟩
          case measure => simp [intOf]; omega
        · have heb : ((k : Int) == root) = false := by simp [he]
          have HE := Lib.hid he; clear he
          go_wp2_with fail
          refine (meets_at l n a cap k root y wr HN.out (hl.keep BB) hm' HY.out).mono ?_
          rintro e w1 ⟨rfl, b1⟩
          replace R := R.keep b1
          replace hsz := Nat.lt_of_lt_of_le hsz b1.size
          replace BB := bstep BB b1
          clear b1
          have c := R.at (j := k) (by rw [HL.out]; exact hlt)
          have f := R.2.1 k
          go_wp2_with fail
          go_roundw
          case rel => exact ⟨k + 1, by omega, by go_num, by rw [HST.out, heb]; exact R.set (by rw [HL.out]; exact hlt) y, BB.setCell (p := ⟨_, k, none⟩) (Nat.le_refl _) _, by simpa using hsz⟩
          case measure => simp [intOf]; omega
      · have hkn : n = k := by omega
        subst hkn
        go_wp2_with fail
        go_ret
        have e : rTo l root n = reachL l root := by rw [HN.out]; exact rTo_end H60.out HR.out
        rw [e] at R
        exact ⟨some ⟨w.heap.size, 0, none⟩, n, by rw [reachL_len H60.out, ← HN.out]; rfl, R.bools, by rw [reachL_len H60.out, ← HN.out]; exact Nat.le_refl _, hm', BB⟩
  · have e : reachL l root = List.replicate n false := by rw [HN.out]; exact reachL_out H60.out hr
    have HE := Lib.hid e; clear e
    have fin : ∀ e, e = .returned (.slice (some ⟨w.heap.size, 0, none⟩) n n) → BoolsPost (reachL l root) w e (w.alloc (.cells (Array.replicate n (.bool false)) 4)) := fun e he => by
      subst he
      exact ⟨some ⟨w.heap.size, 0, none⟩, n, by rw [HE.out]; simp, by rw [HE.out]; exact R0.bools, by rw [HE.out]; simp, hm', B0⟩
    by_cases h0 : root < 0
    · go_enter Try.func21, Try.ntmps21
      go_wp2_with fail
      go_ret
      exact fin _ rfl
    · have h1 : ¬ root < (n : Int) := fun h1 => hr ⟨by omega, by rw [← HN.out]; exact h1⟩
      clear hr
      go_enter Try.func21, Try.ntmps21
      go_wp2_with fail
      go_ret
      exact fin _ rfl
end Go.Proofs.Ytkomgjkeikaigaa
