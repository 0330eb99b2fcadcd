/- Proved: how the reference's list after a frame grows, peer by peer, to the list that link.Count returns. Conditions: the list is valid. -/
import Derived.Test.YtfhdpogngdgklaaL8
namespace Go.Proofs.Ytfhdpogngdgklaa
open Go.RowKit Go.Sort
set_option linter.unusedVariables false

theorem filter_split (Q : Lk → Bool) (k : Int) (hQ : ∀ x : Lk, x.p = k → Q x = true) : ∀ {ls : List Lk}, ls.Pairwise (fun x y => x.p < y.p) →
    ls.filter (fun x => decide (x.p < k + 1) && Q x) = ls.filter (fun x => decide (x.p < k) && Q x) ++ ls.filter (fun x => decide (x.p = k))
  | [], _ => rfl
  | x :: l, h => by
    obtain ⟨h1, h2⟩ := List.pairwise_cons.1 h
    have ih := filter_split Q k hQ h2
    by_cases hx : x.p < k
    · have e1 : decide (x.p < k + 1) = true := by simp; omega
      have e2 : decide (x.p < k) = true := by simp; omega
      have e3 : decide (x.p = k) = false := by simp; omega
      simp only [List.filter_cons, e1, e2, e3, Bool.true_and]
      by_cases hq : Q x = true
      · rw [if_pos hq, if_pos hq, ih]; simp
      · rw [if_neg hq, if_neg hq, ih]; simp
    · have hno : l.filter (fun x => decide (x.p < k) && Q x) = [] := List.filter_eq_nil_iff.2 fun y hy => by
        have := h1 y hy
        simp; omega
      have e2 : decide (x.p < k) = false := by simp; omega
      rw [hno, List.nil_append] at ih
      by_cases hk : x.p = k
      · have e1 : decide (x.p < k + 1) = true := by simp; omega
        have e3 : decide (x.p = k) = true := by simp [hk]
        simp only [List.filter_cons, e1, e2, e3, Bool.true_and, hQ x hk, Bool.false_and]
        rw [hno, ih]; simp
      · have e1 : decide (x.p < k + 1) = false := by simp; omega
        have e3 : decide (x.p = k) = false := by simp; omega
        simp only [List.filter_cons, e1, e2, e3, Bool.false_and]
        rw [hno, ih]; simp

/-- The reference's list when the peers below k are done. -/
def outC (ls : List Lk) (peer : Int) (y : Lk) (k : Int) : List Lk :=
  ls.filter (fun x => decide (x.p < k) && decide (x.p < peer)) ++ ((if peer < k then [y] else []) ++ ls.filter (fun x => decide (x.p < k) && decide (peer < x.p)))
theorem outC_zero {ls : List Lk} (hv : validV ls = true) {peer : Int} (h0 : 0 ≤ peer) (y : Lk) : outC ls peer y 0 = [] := by
  have hp : ∀ x ∈ ls, 0 ≤ x.p := fun x hx => by
    obtain ⟨i, hi, rfl⟩ := List.mem_iff_getElem.1 hx
    have := valid_ge hv i hi
    rw [List.getD_eq_getElem?_getD, List.getElem?_eq_getElem hi] at this
    have h2 : (i : Int) ≤ (ls[i]).p := this
    omega
  unfold outC
  rw [if_neg (by omega), List.filter_eq_nil_iff.2 fun x hx => by have := hp x hx; simp; omega, List.filter_eq_nil_iff.2 fun x hx => by have := hp x hx; simp; omega]; rfl
theorem outC_peer {ls : List Lk} {peer : Int} (y : Lk) : outC ls peer y (peer + 1) = outC ls peer y peer ++ [y] := by
  unfold outC
  rw [if_pos (by omega), if_neg (by omega)]
  have e1 : ∀ x : Lk, (decide (x.p < peer + 1) && decide (x.p < peer)) = (decide (x.p < peer) && decide (x.p < peer)) := fun x => by
    by_cases h : x.p < peer
    · have : x.p < peer + 1 := by omega
      simp [h, this]
    · simp [h]
  have e2 : ls.filter (fun x => decide (x.p < peer + 1) && decide (peer < x.p)) = [] := List.filter_eq_nil_iff.2 fun x _ => by simp; omega
  have e3 : ls.filter (fun x => decide (x.p < peer) && decide (peer < x.p)) = [] := List.filter_eq_nil_iff.2 fun x _ => by simp; omega
  rw [List.filter_congr (fun x _ => e1 x), e2, e3]
  simp
theorem outC_other {ls : List Lk} (hv : validV ls = true) {peer k : Int} (hk : k ≠ peer) (y : Lk) : outC ls peer y (k + 1) = outC ls peer y k ++ ls.filter (fun x => decide (x.p = k)) := by
  have hs := sorted_of hv
  unfold outC
  rcases Int.lt_or_lt_of_ne hk with h | h
  · rw [if_neg (by omega), if_neg (by omega), filter_split (fun x => decide (x.p < peer)) k (fun x hx => by simp; omega) hs]
    have e2 : ls.filter (fun x => decide (x.p < k + 1) && decide (peer < x.p)) = [] := List.filter_eq_nil_iff.2 fun x _ => by simp; omega
    have e3 : ls.filter (fun x => decide (x.p < k) && decide (peer < x.p)) = [] := List.filter_eq_nil_iff.2 fun x _ => by simp; omega
    rw [e2, e3]; simp
  · rw [if_pos (by omega), if_pos (by omega), filter_split (fun x => decide (peer < x.p)) k (fun x hx => by simp; omega) hs]
    have e1 : ∀ x : Lk, (decide (x.p < k + 1) && decide (x.p < peer)) = (decide (x.p < k) && decide (x.p < peer)) := fun x => by
      by_cases h1 : x.p < peer
      · have : x.p < k + 1 := by omega
        have : x.p < k := by omega
        simp [*]
      · simp [h1]
    rw [List.filter_congr (fun x _ => e1 x)]
    simp [List.append_assoc]
theorem outC_end {ls : List Lk} (hv : validV ls = true) {peer : Int} (h1 : peer ≤ 59) (acked : Bool) : outC ls peer (cntV (ofV ls peer) acked) 60 = countV ls peer acked := by
  have hp : ∀ x ∈ ls, x.p ≤ 59 := fun x hx => by
    obtain ⟨i, hi, rfl⟩ := List.mem_iff_getElem.1 hx
    have h2 := okTo_at hv i hi
    unfold okAt at h2
    rw [Bool.and_eq_true, lkOk_iff, List.getD_eq_getElem?_getD, List.getElem?_eq_getElem hi] at h2
    exact h2.1.2.1
  have c1 : ls.filter (fun x => decide (x.p < 60) && decide (x.p < peer)) = ls.filter (fun x => decide (x.p < peer)) := List.filter_congr fun x hx => by
    have := hp x hx
    have h6 : x.p < 60 := by omega
    simp [h6]
  have c2 : ls.filter (fun x => decide (x.p < 60) && decide (peer < x.p)) = ls.filter (fun x => decide (peer < x.p)) := List.filter_congr fun x hx => by
    have := hp x hx
    have h6 : x.p < 60 := by omega
    simp [h6]
  unfold outC countV lower upper
  rw [if_pos (by omega), c1, c2]
  rfl
theorem outC_len (ls : List Lk) (peer : Int) (y : Lk) (k : Int) : (outC ls peer y k).length ≤ 2 * ls.length + 1 := by
  unfold outC
  have h1 := List.length_filter_le (fun x : Lk => decide (x.p < k) && decide (x.p < peer)) ls
  have h2 := List.length_filter_le (fun x : Lk => decide (x.p < k) && decide (peer < x.p)) ls
  simp only [List.length_append]
  split <;> simp <;> omega
/-- A link of a valid list that is at peer k is the one that Of returns. -/
theorem filter_of {ls : List Lk} (hv : validV ls = true) {i : Nat} (hi : i < ls.length) : ofV ls (ls.getD i default).p = ls.getD i default :=
  of_hit (fun j hj => by have := ok_lt hv hj hi; omega) hi rfl
theorem take_filter_succ {ls : List Lk} {i : Nat} (hi : i < ls.length) (k : Int) : (ls.take (i + 1)).filter (fun x => decide (x.p = k)) = (ls.take i).filter (fun x => decide (x.p = k)) ++ (if (ls.getD i default).p = k then [ls.getD i default] else []) := by
  have e : ls.getD i default = ls[i] := by rw [List.getD_eq_getElem?_getD, List.getElem?_eq_getElem hi]; rfl
  rw [List.take_add_one, List.getElem?_eq_getElem hi, List.filter_append, e]
  congr 1
  by_cases h : (ls[i]).p = k
  · rw [if_pos h]; simp [h]
  · rw [if_neg h]; simp [h]
end Go.Proofs.Ytfhdpogngdgklaa
