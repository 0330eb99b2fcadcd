/- Proved: small facts on lists of links in memory, and append to a slice that is full. Conditions: those that each theorem names. -/
import Derived.Test.YtfhdpogngdgklaaL6
import Derived.Deep.AppendSrc
namespace Go.Proofs.Ytfhdpogngdgklaa
open Go.RowKit Go.Sort Go.BigFrame
set_option linter.unusedVariables false
set_option linter.unusedSimpArgs false

def flat (ls : List Lk) : List Value := ls.flatMap Lk.cells
theorem flat_cons (x : Lk) (ls : List Lk) : flat (x :: ls) = .int .i64 x.p :: .int .i64 x.s :: .int .i64 x.g :: flat ls := rfl
theorem flat_len : ∀ ls : List Lk, (flat ls).length = ls.length * 3
  | [] => rfl
  | x :: ls => by rw [flat_cons]; simp [flat_len ls]; omega
theorem flat_append (a b : List Lk) : flat (a ++ b) = flat a ++ flat b := by simp [flat]
theorem flat_at : ∀ (ls : List Lk) (i : Nat), i < ls.length → (flat ls)[i * 3]? = some (.int .i64 (ls.getD i default).p) ∧ (flat ls)[i * 3 + 1]? = some (.int .i64 (ls.getD i default).s) ∧ (flat ls)[i * 3 + 2]? = some (.int .i64 (ls.getD i default).g)
  | [], i, h => by simp at h
  | x :: ls, 0, _ => ⟨rfl, rfl, rfl⟩
  | x :: ls, i + 1, h => by
    have := flat_at ls i (by simpa using h)
    rw [flat_cons, show (i + 1) * 3 = i * 3 + 1 + 1 + 1 from by omega]
    exact this
theorem flat_one (ls : List Lk) : ∀ u ∈ flat ls, u.oneCell' = true := fun u hu => by
  simp only [flat, List.mem_flatMap] at hu
  obtain ⟨x, _, hx⟩ := hu
  simp at hx
  rcases hx with rfl | rfl | rfl <;> rfl
/-- The cells of the list lie one behind the other at the address. -/
def CellsAt (w : World) (b off : Nat) (cs : List Value) : Prop := ∀ (j : Nat) (u : Value), cs[j]? = some u → w.cell? ⟨b, off + j, none⟩ = some u
theorem cells_of {w : World} {b off : Nat} {ls : List Lk} (h : ∀ i, i < ls.length → w.cell? ⟨b, off + i * 3, none⟩ = some (.int .i64 (ls.getD i default).p) ∧
    w.cell? ⟨b, off + i * 3 + 1, none⟩ = some (.int .i64 (ls.getD i default).s) ∧ w.cell? ⟨b, off + i * 3 + 2, none⟩ = some (.int .i64 (ls.getD i default).g)) : CellsAt w b off (flat ls) := fun j u hj => by
  have hl : j < (flat ls).length := (List.getElem?_eq_some_iff.1 hj).1
  rw [flat_len] at hl
  have hi : j / 3 < ls.length := by omega
  have h1 := h (j / 3) hi
  have h2 := flat_at ls (j / 3) hi
  have hr : j % 3 = 0 ∨ j % 3 = 1 ∨ j % 3 = 2 := by omega
  rcases hr with hr | hr | hr
  · rw [show j = j / 3 * 3 from by omega] at hj ⊢
    rw [h2.1] at hj; rw [← hj]; exact h1.1
  · rw [show j = j / 3 * 3 + 1 from by omega] at hj ⊢
    rw [h2.2.1] at hj; rw [← hj, ← Nat.add_assoc]; exact h1.2.1
  · rw [show j = j / 3 * 3 + 2 from by omega] at hj ⊢
    rw [h2.2.2] at hj; rw [← hj, ← Nat.add_assoc]; exact h1.2.2
theorem links_of {w : World} {b off : Nat} {ls : List Lk} (h : CellsAt w b off (flat ls)) : LkAt w (some ⟨b, off, none⟩) ls :=
  .inr ⟨b, off, rfl, fun i hi => by
    have h2 := flat_at ls i hi
    exact ⟨h _ _ h2.1, by rw [Nat.add_assoc]; exact h _ _ h2.2.1, by rw [Nat.add_assoc]; exact h _ _ h2.2.2⟩⟩
theorem LkAt.cells {w : World} {a : Option Addr} {ls : List Lk} (h : LkAt w a ls) (hne : ls ≠ []) : ∃ b off, a = some ⟨b, off, none⟩ ∧ CellsAt w b off (flat ls) := by
  rcases h with h | ⟨b, off, ha, h⟩
  · exact absurd h hne
  · exact ⟨b, off, ha, cells_of h⟩
theorem CellsAt.keep {w w' : World} {b off : Nat} {cs : List Value} (h : CellsAt w b off cs) (hb : Below w.heap.size w w') : CellsAt w' b off cs := fun j u hj => keep1 hb (h j u hj)
theorem CellsAt.add {w : World} {b off : Nat} {cs : List Value} (h : CellsAt w b off cs) : ∀ j u, cs[j]? = some u → w.cell? ((⟨b, off, none⟩ : Addr).add j) = some u := fun j u hj => by
  rw [show (⟨b, off, none⟩ : Addr).add j = ⟨b, off + j, none⟩ from by unfold Addr.add; by_cases h0 : j = 0 <;> simp [h0]]
  exact h j u hj
theorem CellsAt.left {w : World} {b off : Nat} {xs ys : List Value} (h : CellsAt w b off (xs ++ ys)) : CellsAt w b off xs := fun j u hj =>
  h j u (by rw [List.getElem?_append_left (List.getElem?_eq_some_iff.1 hj).1]; exact hj)
theorem CellsAt.right {w : World} {b off : Nat} {xs ys : List Value} (h : CellsAt w b off (xs ++ ys)) : CellsAt w b (off + xs.length) ys := fun j u hj => by
  have := h (xs.length + j) u (by rw [List.getElem?_append_right (by omega), Nat.add_sub_cancel_left]; exact hj)
  rw [← Nat.add_assoc] at this; exact this
/-- A row that a call owns, of links. -/
def OwnL (w : World) (base : Nat) (v : Value) (ls : List Lk) : Prop := w.ownsRow base 32 3 v ls.length (flat ls)
theorem OwnL.links {w : World} {base : Nat} {v : Value} {ls : List Lk} (h : OwnL w base v ls) : ∃ a cap, v = .slice a ls.length cap ∧ LkAt w a ls ∧ ls.length ≤ maxLen := by
  have h0 := h
  rcases h.2 with ⟨rfl, hn⟩ | ⟨g, cap, cur, rfl, hb, hg, hnc, hcm, hcs, htake⟩
  · exact ⟨none, 0, by rw [hn], .inl (List.length_eq_zero_iff.1 hn), by omega⟩
  · refine ⟨some ⟨g, 0, none⟩, cap, rfl, links_of fun j u hj => ?_, by omega⟩
    have hlt : j < (flat ls).length := (List.getElem?_eq_some_iff.1 hj).1
    rw [flat_len] at hlt
    have := World.ownsRow.cellAt h0 j hlt
    rw [Nat.zero_add, this]; exact hj

section
variable {P : Program}
/-- APPEND TO A SLICE THAT IS FULL: a new row. -/
theorem run_append_full (w : World) (t ty e : TypeId) (i : TypeInfo) (z : Value) (size bytes : Nat) (ht : P.underlying t = some (.slice e)) (hi : P.info? e = some i) (hz : i.zero = some z) (hsize : i.size = size) (hby : i.bytes = bytes) (hzs : z.cells.size = size)
    (ao : Option Addr) (k : Nat) (olds : List Value) (hol : olds.length = k * size) (hold : k = 0 ∨ ∃ b off, ao = some ⟨b, off, none⟩ ∧ CellsAt w b off olds)
    (b off m c : Nat) (news : List Value) (hl : news.length = m * size) (hnews : CellsAt w b off news) (h1 : ∀ u ∈ news, u.oneCell' = true) (hm : 0 < m)
    (h63 : k + m ≤ maxLen) (hbytes : (k + m) * bytes ≤ 140737488355328) :
    ∃ v' w', (Builtin.append_ #[t, t] ty #[.slice ao k k, .slice (some ⟨b, off, none⟩) m c]).run P w = .ok v' w' ∧ w'.ownsRow w.heap.size e size v' (k + m) (olds ++ news) ∧ Below w.heap.size w w' := by
  subst hsize
  subst hby
  have h63' : k + m ≤ 9223372036854775807 := by simp only [maxLen] at h63; omega
  have hsrc : Src P i.size t (.slice (some ⟨b, off, none⟩) m c) m news w := Src.ofSlice w ht _ _ _ _ hl hnews.add h1
  have hf : (Builtin.firstCells i.size k (.slice ao k k)).run P w.drew = .ok olds.toArray w.drew := by
    rcases hold with rfl | ⟨b', off', rfl, hc⟩
    · obtain rfl : olds = [] := List.eq_nil_of_length_eq_zero (by simpa using hol)
      cases ao with
      | none => exact run_firstCells_none w.drew i.size 0 0 0
      | some a => exact run_firstCells_some w.drew i.size 0 a 0 0 [] (by simp) (fun j u hj => by simp at hj)
    · exact run_firstCells_some w.drew i.size k ⟨b', off', none⟩ k k olds hol (by simpa using hc.add)
  have hr := run_append_grow_src (P := P) w t t ty e i z ht hi hz ao k k olds hf _ m news hsrc (by omega) (by omega) (growslice_fits (by omega) hbytes)
  refine ⟨_, _, hr, ?_, ?_⟩
  · have hge := grownCap_ge w (k + m) k e
    have hcm : grownCap w (k + m) k e ≤ maxLen := grownCap_le_maxLen w (k + m) k e h63
    have hlen : (olds ++ news).length = (k + m) * i.size := by rw [List.length_append, hol, hl, Nat.add_mul]
    refine ⟨hlen, .inr ⟨w.heap.size, _, _, rfl, Nat.le_refl _, heap_alloc_new w.drew _, hge, hcm, ?_, ?_⟩⟩
    · simp only [Array.size_append, List.size_toArray, size_zeroCells, hzs, hlen, ← Nat.add_mul]
      congr 1
      omega
    · simp only [Array.toList_append, List.append_assoc]
      rw [← List.append_assoc, ← hlen]
      exact List.take_left
  · exact ball (Below.drew (Below.refl _ _)) _
/-- An append as an operation of a walk. -/
theorem oper_append {o : Oper} {a : Act} {w : World} {K : Act → World → Prop} {Q : Exit → Act → World → Prop} (s x : Operand) (t : TypeId) (ho : o.op = .call { callee := .builtin .append, args := #[s, x], argTypes := #[t, t] })
    {v1 v2 v' : Value} {w' : World} (h1 : a.eval s = v1) (h2 : a.eval x = v2) (hr : (Builtin.append_ #[t, t] o.type #[v1, v2]).run P w = .ok v' w') (h : K (a.put o.dst v') w') : o.wp P a w K Q := by
  unfold Oper.wp execOp
  simp only [ho, resolve, invoke, builtin, Sem.run_bind, Sem.run_pure, Result.andThen_ok, List.map_toArray, List.map_cons, List.map_nil, h1, h2, hr]
  exact h
end

/-! ### sorted lists -/
theorem sorted_of {ls : List Lk} (hv : validV ls = true) : ls.Pairwise (fun x y => x.p < y.p) := by
  rw [List.pairwise_iff_getElem]
  intro i j hi hj hij
  have := ok_lt hv hij hj
  rwa [List.getD_eq_getElem?_getD, List.getD_eq_getElem?_getD, List.getElem?_eq_getElem hi, List.getElem?_eq_getElem hj] at this
def lower (ls : List Lk) (peer : Int) : List Lk := ls.filter fun x => decide (x.p < peer)
def upper (ls : List Lk) (peer : Int) : List Lk := ls.filter fun x => decide (peer < x.p)
def countV (ls : List Lk) (peer : Int) (acked : Bool) : List Lk := lower ls peer ++ cntV (ofV ls peer) acked :: upper ls peer
theorem take_lower {ls : List Lk} (hv : validV ls = true) {peer : Int} {k : Nat} (hk : IsFirst ls peer k) : ls.take k = lower ls peer := by
  obtain ⟨h1, h2, h3⟩ := hk
  unfold lower
  have e : ls = ls.take k ++ ls.drop k := (List.take_append_drop k ls).symm
  have e1 : (ls.take k).filter (fun x => decide (x.p < peer)) = ls.take k := List.filter_eq_self.2 fun x hx => by
    obtain ⟨i, hi, rfl⟩ := List.mem_iff_getElem.1 hx
    have hik : i < k := by simp at hi; omega
    have := h2 i hik
    rw [List.getD_eq_getElem?_getD, List.getElem?_eq_getElem (by omega)] at this
    simpa using this
  have e2 : (ls.drop k).filter (fun x => decide (x.p < peer)) = [] := List.filter_eq_nil_iff.2 fun x hx => by
    obtain ⟨i, hi, rfl⟩ := List.mem_iff_getElem.1 hx
    have hik : k + i < ls.length := by simp at hi; omega
    have h4 := h3 (by omega)
    have h5 : peer ≤ (ls.getD (k + i) default).p := by
      rcases Nat.eq_zero_or_pos i with h0 | h0
      · subst h0; exact h4
      · have := ok_lt hv (show k < k + i by omega) hik; omega
    rw [List.getD_eq_getElem?_getD, List.getElem?_eq_getElem hik] at h5
    simp only [List.getElem_drop, decide_eq_true_eq]
    have h6 : peer ≤ (ls[k + i]).p := h5
    omega
  conv => rhs; rw [e, List.filter_append, e1, e2, List.append_nil]
theorem drop_upper {ls : List Lk} (hv : validV ls = true) {peer : Int} {k : Nat} (hk : IsFirst ls peer k) :
    ls.drop (if k < ls.length ∧ (ls.getD k default).p = peer then k + 1 else k) = upper ls peer := by
  obtain ⟨h1, h2, h3⟩ := hk
  unfold upper
  obtain ⟨r, hr⟩ : ∃ r, (if k < ls.length ∧ (ls.getD k default).p = peer then k + 1 else k) = r := ⟨_, rfl⟩
  have hlow : ∀ i, i < r → i < ls.length → (ls.getD i default).p ≤ peer := fun i hi hil => by
    split at hr
    · rename_i h
      rcases Nat.lt_or_ge i k with h4 | h4
      · have := h2 i h4; omega
      · rw [show i = k from by omega, h.2]; exact Int.le_refl _
    · have := h2 i (by omega); omega
  have hup : ∀ i, r ≤ i → i < ls.length → peer < (ls.getD i default).p := fun i hi hil => by
    have h4 := h3 (by split at hr <;> omega)
    split at hr
    · rename_i h
      have := ok_lt hv (show k < i by omega) hil; omega
    · rename_i h
      rcases Nat.lt_or_ge k i with h5 | h5
      · have := ok_lt hv h5 hil; omega
      · have hik : i = k := by omega
        subst hik
        have : ¬ (ls.getD i default).p = peer := fun hh => h ⟨hil, hh⟩
        omega
  rw [hr]
  have e : ls = ls.take r ++ ls.drop r := (List.take_append_drop r ls).symm
  have e1 : (ls.take r).filter (fun x => decide (peer < x.p)) = [] := List.filter_eq_nil_iff.2 fun x hx => by
    obtain ⟨i, hi, rfl⟩ := List.mem_iff_getElem.1 hx
    simp at hi
    have := hlow i (by omega) (by omega)
    rw [List.getD_eq_getElem?_getD, List.getElem?_eq_getElem (by omega)] at this
    simp only [List.getElem_take, decide_eq_true_eq]
    have h6 : (ls[i]).p ≤ peer := this
    omega
  have e2 : (ls.drop r).filter (fun x => decide (peer < x.p)) = ls.drop r := List.filter_eq_self.2 fun x hx => by
    obtain ⟨i, hi, rfl⟩ := List.mem_iff_getElem.1 hx
    simp at hi
    have := hup (r + i) (by omega) (by omega)
    rw [List.getD_eq_getElem?_getD, List.getElem?_eq_getElem (by omega)] at this
    simpa using this
  conv => rhs; rw [e, List.filter_append, e1, e2, List.nil_append]
end Go.Proofs.Ytfhdpogngdgklaa
