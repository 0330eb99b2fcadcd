/- Proved: plain facts for LinkValid and LinkIndependence: how long the list after a frame is; frames to two peers in either order. Conditions: the list is valid. -/
import Derived.Test.YtfhdpogngdgklaaL16
namespace Go.Proofs.Ytfhdpogngdgklaa
open Go.RowKit Go.Sort
set_option linter.unusedVariables false

theorem low_up_len (peer : Int) : ∀ {ls : List Lk}, ls.Pairwise (fun x y => x.p < y.p) → (lower ls peer).length + (upper ls peer).length ≤ ls.length ∧ ls.length ≤ (lower ls peer).length + (upper ls peer).length + 1
  | [], _ => by simp [lower, upper]
  | x :: l, h => by
    obtain ⟨h1, h2⟩ := List.pairwise_cons.1 h
    have ih := low_up_len peer h2
    unfold lower upper at ih ⊢
    by_cases hx : x.p < peer
    · have e2 : ¬ peer < x.p := by omega
      simp only [List.filter_cons, hx, e2, decide_true, decide_false, if_true, List.length_cons]
      simp; omega
    · have hl : l.filter (fun x => decide (x.p < peer)) = [] := List.filter_eq_nil_iff.2 fun y hy => by have := h1 y hy; simp; omega
      have hu : l.filter (fun x => decide (peer < x.p)) = l := List.filter_eq_self.2 fun y hy => by have := h1 y hy; simp; omega
      by_cases hk : peer < x.p
      · simp only [List.filter_cons, hx, hk, decide_true, decide_false, hl, hu]; simp
      · simp only [List.filter_cons, hx, hk, decide_false, hl, hu]; simp
theorem count_len {ls : List Lk} (hv : validV ls = true) (peer : Int) (acked : Bool) : ls.length ≤ (countV ls peer acked).length ∧ (countV ls peer acked).length ≤ ls.length + 1 := by
  have := low_up_len peer (sorted_of hv)
  unfold countV
  simp only [List.length_append, List.length_cons]
  omega

theorem comm_lt {ls : List Lk} (hv : validV ls = true) {p q : Int} (h0 : 0 ≤ p) (hpq : p < q) (h1 : q ≤ 59) (a b : Bool) : countV (countV ls p a) q b = countV (countV ls q b) p a := by
  have e1 : countV (countV ls p a) q b = lower (countV ls p a) q ++ cntV (ofV ls q) b :: upper (countV ls p a) q := by
    rw [countV, of_count_other hv h0 (by omega) a (by omega)]
  have e2 : countV (countV ls q b) p a = lower (countV ls q b) p ++ cntV (ofV ls p) a :: upper (countV ls q b) p := by
    rw [countV, of_count_other hv (by omega) h1 b (by omega)]
  have op := of_ok hv h0 (show p ≤ 59 by omega)
  have oq := of_ok hv (show 0 ≤ q by omega) h1
  have yp : (cntV (ofV ls p) a).p = p := (cnt_ok op.1 a).2.trans op.2
  have yq : (cntV (ofV ls q) b).p = q := (cnt_ok oq.1 b).2.trans oq.2
  rw [e1, e2]
  unfold countV
  generalize cntV (ofV ls p) a = y at *
  generalize cntV (ofV ls q) b = z at *
  have c1 : decide (y.p < q) = true := by simp; omega
  have c2 : decide (q < y.p) = false := by simp; omega
  have c3 : decide (z.p < p) = false := by simp; omega
  have c4 : decide (p < z.p) = true := by simp; omega
  unfold lower upper
  simp only [List.filter_append, List.filter_cons, List.filter_filter, c1, c2, c3, c4, if_true, Bool.false_eq_true, if_false]
  have f1 : ls.filter (fun x => decide (x.p < q) && decide (x.p < p)) = ls.filter (fun x => decide (x.p < p) && decide (x.p < q)) := List.filter_congr fun x _ => Bool.and_comm _ _
  have f2 : ls.filter (fun x => decide (q < x.p) && decide (x.p < p)) = [] := List.filter_eq_nil_iff.2 fun x _ => by simp; omega
  have f3 : ls.filter (fun x => decide (x.p < p) && decide (q < x.p)) = [] := List.filter_eq_nil_iff.2 fun x _ => by simp; omega
  have f4 : ls.filter (fun x => decide (p < x.p) && decide (q < x.p)) = ls.filter (fun x => decide (q < x.p) && decide (p < x.p)) := List.filter_congr fun x _ => Bool.and_comm _ _
  have f5 : ls.filter (fun x => decide (x.p < q) && decide (p < x.p)) = ls.filter (fun x => decide (p < x.p) && decide (x.p < q)) := List.filter_congr fun x _ => Bool.and_comm _ _
  simp only [f1, f2, f3, f4, f5, List.append_assoc, List.nil_append, List.append_nil, List.cons_append]
theorem comm_any {ls : List Lk} (hv : validV ls = true) {p q : Int} (h0 : 0 ≤ p) (h1 : p ≤ 59) (h2 : 0 ≤ q) (h3 : q ≤ 59) (hpq : p ≠ q) (a b : Bool) : countV (countV ls p a) q b = countV (countV ls q b) p a := by
  rcases Int.lt_or_lt_of_ne hpq with h | h
  · exact comm_lt hv h0 h h3 a b
  · exact (comm_lt hv h2 h h1 b a).symm
end Go.Proofs.Ytfhdpogngdgklaa
