/- Proved: small facts for what is deleted from a list of half-open joins: clearing, writing an element, the closure, where the first one lies. Conditions: those that each theorem names. -/
import Derived.Test.YtgmabjlehjpboaaDoorT21
import Derived.Laws.EntriesVeiled
namespace Go.Proofs.YtgmabjlehjpboaaDoor
open Go.RowKit Go.Sort Go.BigFrame Go.Proofs.YtgmabjlehjpboaaDoor.K
set_option linter.unusedVariables false
set_option linter.unusedSimpArgs false
attribute [local go_sem] cell_alloc_old

open Go.Maps Go.Shelf
theorem zc6 (n : Nat) : (Builtin.zeroCells (Hf.v zHf).cells n).size = n * 6 ∧ ∀ v ∈ (Builtin.zeroCells (Hf.v zHf).cells n).toList, v.oneCell' = true := by
  unfold Builtin.zeroCells
  refine ⟨by simp [Value.cells], fun v hv => ?_⟩
  simp only [Array.toList_map, List.mem_map] at hv
  obtain ⟨i, _, rfl⟩ := hv
  have h6 : (Hf.v zHf).cells.size = 6 := rfl
  have hi : i % (Hf.v zHf).cells.size < 6 := by rw [h6]; exact Nat.mod_lt _ (by omega)
  generalize i % (Hf.v zHf).cells.size = j at hi
  match j, hi with
  | 0, _ => rfl
  | 1, _ => rfl
  | 2, _ => rfl
  | 3, _ => rfl
  | 4, _ => rfl
  | 5, _ => rfl
/-- Clearing elements: cells from the first one on are written. -/
theorem clear6 (w : World) (ty : TypeId) (b o n c : Nat) (hn : 0 < n) (hc : ∀ j, j < n * 6 → (w.cell? ⟨b, o + j, none⟩).isSome = true) (hf : ∀ j, w.frozen? ⟨b, j, none⟩ = false) :
    ∃ vs, (Builtin.clear_ #[24] ty #[.slice (some ⟨b, o, none⟩) n c]).run Tryd.prog w = .ok (.tuple #[]) (w.setCells b o vs) := by
  obtain ⟨h1, h2⟩ := zc6 n
  have hst := run_storeCells_cells (P := Tryd.prog) b o (Builtin.zeroCells (Hf.v zHf).cells n).toList 0 w (by simpa [h1] using hc) (fun j _ => hf _) h2
  simp only [Nat.add_zero] at hst
  obtain ⟨m, rfl⟩ : ∃ m, n = m + 1 := ⟨n - 1, by omega⟩
  exact ⟨(Builtin.zeroCells (Hf.v zHf).cells (m + 1)).toList, by simp [Builtin.clear_, run_underlying Tryd.underlying24, Tryd.zeroValue70, hst]⟩
theorem flat_cons (y : Hf) (r : List Hf) : flatL Hf.cs (y :: r) = .int .i64 y.s :: .int .i64 y.n :: .int .i64 y.c :: .int .i64 y.u :: .bool y.pr :: .int .i64 y.k :: flatL Hf.cs r := rfl
theorem flat_set (x : Hf) : ∀ (r : List Hf) (i : Nat), i < r.length → flatL Hf.cs (r.set i x) = ((((((flatL Hf.cs r).set (i * 6) (.int .i64 x.s)).set (i * 6 + 1) (.int .i64 x.n)).set (i * 6 + 2) (.int .i64 x.c)).set (i * 6 + 3) (.int .i64 x.u)).set (i * 6 + 4) (.bool x.pr)).set (i * 6 + 5) (.int .i64 x.k)
  | [], i, h => by simp at h
  | y :: r, 0, _ => by rw [List.set_cons_zero, flat_cons, flat_cons]; rfl
  | y :: r, i + 1, h => by
    rw [List.set_cons_succ, flat_cons, flat_cons, flat_set x r i (by simpa using h), show (i + 1) * 6 = i * 6 + 6 from by omega]
    simp only [Nat.add_assoc, Nat.reduceAdd]
    rfl
/-- An element is written. -/
theorem CAt.put6 {w : World} {g : Nat} {r : List Hf} (h : CAt w g (flatL Hf.cs r)) (i : Nat) (hi : i < r.length) (x : Hf) :
    CAt ((((((w.setCell ⟨g, i * 6, none⟩ (.int .i64 x.s)).setCell ⟨g, i * 6 + 1, none⟩ (.int .i64 x.n)).setCell ⟨g, i * 6 + 2, none⟩ (.int .i64 x.c)).setCell ⟨g, i * 6 + 3, none⟩ (.int .i64 x.u)).setCell ⟨g, i * 6 + 4, none⟩ (.bool x.pr)).setCell ⟨g, i * 6 + 5, none⟩ (.int .i64 x.k)) g (flatL Hf.cs (r.set i x)) := by
  have hl : (flatL Hf.cs r).length = r.length * 6 := flatL_len hf_size r
  rw [flat_set x r i hi]
  exact (((((h.set (i * 6) _ (by omega)).set (i * 6 + 1) _ (by rw [List.length_set]; omega)).set (i * 6 + 2) _ (by simp only [List.length_set]; omega)).set (i * 6 + 3) _ (by simp only [List.length_set]; omega)).set (i * 6 + 4) _ (by simp only [List.length_set]; omega)).set (i * 6 + 5) _ (by simp only [List.length_set]; omega)
theorem CAt.hf {w : World} {g : Nat} {r : List Hf} (h : CAt w g (flatL Hf.cs r)) {i : Nat} (hi : i < r.length) :
    w.cell? ⟨g, i * 6, none⟩ = some (.int .i64 (r.getD i default).s) ∧ w.cell? ⟨g, i * 6 + 1, none⟩ = some (.int .i64 (r.getD i default).n) ∧ w.cell? ⟨g, i * 6 + 2, none⟩ = some (.int .i64 (r.getD i default).c) ∧
    w.cell? ⟨g, i * 6 + 3, none⟩ = some (.int .i64 (r.getD i default).u) ∧ w.cell? ⟨g, i * 6 + 4, none⟩ = some (.bool (r.getD i default).pr) ∧ w.cell? ⟨g, i * 6 + 5, none⟩ = some (.int .i64 (r.getD i default).k) := by
  have key := fun j (hj : j < 6) => flatL_at hf_size r i j hi hj
  exact ⟨h _ _ (key 0 (by omega)), h _ _ (key 1 (by omega)), h _ _ (key 2 (by omega)), h _ _ (key 3 (by omega)), h _ _ (key 4 (by omega)), h _ _ (key 5 (by omega))⟩
theorem CAt.hs {w : World} {g : Nat} {r : List Hf} (h : CAt w g (flatL Hf.cs r)) (hg : g < w.heap.size) : HsAt w (some ⟨g, 0, none⟩) r :=
  ⟨At.of_cells hf_size fun j u hj => by rw [Nat.zero_add]; exact h j u hj, .inr ⟨g, 0, rfl, hg⟩⟩
/-- Whether a join has ended. -/
abbrev endB (fr : Int) (h : Hf) : Bool := decide (h.u < fr)
theorem ended_at (fr : Int) (h : Hf) (k : Nat) (w : World) (hk : w.cell? ⟨k, 0, none⟩ = some (.int .i64 fr)) : Calls Tryd.prog 28 #[h.v, .pointer (some ⟨k, 0, none⟩)] w (Ans (.bool (endB fr h)) w) := by
  obtain ⟨s, n, c, u, pr, kk⟩ := h
  obtain ⟨y, hy⟩ : ∃ y, endB fr ⟨s, n, c, u, pr, kk⟩ = y := ⟨_, rfl⟩
  rw [hy]
  have hy' : decide (u < fr) = y := hy
  go_enter Tryd.func28, Tryd.ntmps28
  go_upto_region 1 with (fail)
  have BB := ball (Below.refl _ w) (.cells #[.int .i64 s, .int .i64 n, .int .i64 c, .int .i64 u, .bool pr, .int .i64 kk] 70)
  have t3 := new0 (w := w) (vs := #[.int .i64 s, .int .i64 n, .int .i64 c, .int .i64 u, .bool pr, .int .i64 kk]) (t := 70) (i := 3) rfl rfl
  have hk' := old1 hk (.cells #[.int .i64 s, .int .i64 n, .int .i64 c, .int .i64 u, .bool pr, .int .i64 kk] 70)
  go_wp2_with fail
  go_ret
  exact ⟨by simp [hy'], BB⟩
theorem ended_below (fr : Int) (k : Nat) (w : World) (hk : w.cell? ⟨k, 0, none⟩ = some (.int .i64 fr)) : PredBelow Tryd.prog 28 #[.pointer (some ⟨k, 0, none⟩)] (fun x : Hf => .agg x.cs.toArray) (endB fr) w := fun W x hb => (ended_at fr x k W (keep1 hb hk)).mono fun e w' ⟨h1, h2⟩ => ⟨h1, bstep hb h2⟩
theorem idx_no (p : Hf → Bool) : ∀ (l : List Hf) (i : Nat), Lib.idxByFrom (fun _ y => p y) default l i = -1 → l.filter (fun y => !p y) = l
  | [], _, _ => rfl
  | y :: r, i, h => by
    unfold Lib.idxByFrom at h
    cases hp : p y
    · rw [hp] at h
      have := idx_no p r (i + 1) (by simpa using h)
      rw [List.filter_cons, hp]; simp [this]
    · rw [hp] at h; simp at h
theorem idx_yes (p : Hf → Bool) : ∀ (l : List Hf) (i : Nat), Lib.idxByFrom (fun _ y => p y) default l i = -1 ∨ ∃ k, k < l.length ∧ Lib.idxByFrom (fun _ y => p y) default l i = ((i + k : Nat) : Int) ∧ (l.take (k + 1)).filter (fun y => !p y) = l.take k
  | [], i => .inl rfl
  | y :: r, i => by
    cases hp : p y
    · rcases idx_yes p r (i + 1) with h | ⟨k, hk, h, hf⟩
      · left; unfold Lib.idxByFrom; rw [hp]; simpa using h
      · right
        refine ⟨k + 1, by simpa using hk, ?_, ?_⟩
        · unfold Lib.idxByFrom; rw [hp]; simp only [Bool.false_eq_true, if_false]; rw [h]; congr 1; omega
        · rw [List.take_succ_cons, List.filter_cons, hp]; simp [hf]
    · right
      refine ⟨0, by simp, ?_, ?_⟩
      · unfold Lib.idxByFrom; rw [hp]; simp
      · simp [List.filter_cons, hp]
/-- Where the first join lies that has ended. -/
theorem index_at (l : List Hf) (fr : Int) (g k cap : Nat) (w : World) (hT : CAt w g (flatL Hf.cs l)) (hg : g < w.heap.size) (hk : w.cell? ⟨k, 0, none⟩ = some (.int .i64 fr)) (n : Nat) (hn : Hid (n = l.length)) (h4 : n ≤ 60) :
    Calls Tryd.prog 51 #[.slice (some ⟨g, 0, none⟩) n cap, .func (.func 28) #[] #[.pointer (some ⟨k, 0, none⟩)]] w fun e w' => e = .returned (.int .i64 (Lib.idxByFrom (fun _ y => endB fr y) default l 0)) ∧ Below w.heap.size w w' := by
  have h := AnyQ.slices_IndexFunc (ρ := Tryd.indexA_ren) Tryd.indexA 6 Tryd.isAgg70 Tryd.sizeOf70 Hf.cs hf_size (endB fr) 28 #[.pointer (some ⟨k, 0, none⟩)] (enters_of Tryd.func28 (by kernel_rfl) rfl) g 0 n cap l w (ended_below fr k w hk) (Nat.le_of_eq hn.out) (by omega) hg
    (fun j hj i v hi => by
      have hi6 : i < 6 := (List.getElem?_eq_some_iff.1 hi).1
      have e1 : l[j]! = l.getD j default := by rw [getElem!_pos l j hj, List.getD_eq_getElem?_getD, List.getElem?_eq_getElem hj]; rfl
      rw [e1] at hi
      have := hT (j * 6 + i) v (by rw [flatL_at hf_size l j i hj hi6]; exact hi)
      rw [Nat.zero_add]; exact this)
  change Calls Tryd.prog 51 _ _ _ at h
  have e2 : l.take n = l := by rw [hn.out]; exact List.take_length
  rw [e2] at h
  exact h
end Go.Proofs.YtgmabjlehjpboaaDoor
