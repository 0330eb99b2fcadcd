/- Proved: a map from whole numbers to truth values that a call has made: what it holds; and the plain law of counters that come in any order. Conditions: those that each theorem names. -/
import Derived.Test.YtlofghfdcfpaiaaS2
import Derived.Maps.OwnOps
import Derived.Maps.Views
import Derived.Lib.QuietBelow
namespace Go.Proofs.Ytlofghfdcfpaiaa
open Go.RowKit Go.Sort Go.Maps Go.BigFrame
set_option linter.unusedVariables false

/-- Block b is a map of at most n entries, from whole numbers (type k) to truth values (type e), that says f. -/
def SetAt (P : Program) (k e : TypeId) (w : World) (b n : Nat) (f : Int → Bool) : Prop :=
  ∃ D : DataW Unit, w.ownsMap P k (plainElem P e) b n D ∧ ∀ x : Int, D.atKey (.int .i64 x) (.lit (.bool false)) = .lit (.bool (f x))

section
variable {P : Program} {k e t : TypeId} {w w' : World} {b n : Nat} {f : Int → Bool}
theorem ownsMap_same {D : DataW Unit} {R : Value → Option (DataW Unit × List MemPlace)} (h : w.ownsMap P k R b n D) (hb : w'.heap[b]? = w.heap[b]?) : w'.ownsMap P k R b n D := by
  obtain ⟨es, clock, h1, h2, h3, h4⟩ := h
  exact ⟨es, clock, by rw [hb]; exact h1, h2, h3, h4⟩
theorem SetAt.lt (h : SetAt P k e w b n f) : b < w.heap.size := by
  obtain ⟨D, h1, _⟩ := h; exact h1.lt
theorem SetAt.keep (h : SetAt P k e w b n f) (hb : Below w.heap.size w w') : SetAt P k e w' b n f := by
  have hl := h.lt
  obtain ⟨D, h1, h2⟩ := h
  exact ⟨D, ownsMap_same h1 (hb.block b hl), h2⟩
theorem SetAt.alloc (h : SetAt P k e w b n f) (o : Obj) : SetAt P k e (w.alloc o) b n f := h.keep (ball (Below.refl _ _) o)
theorem SetAt.set (h : SetAt P k e w b n f) {p : Addr} (hp : b ≠ p.block) (u : Value) : SetAt P k e (w.setCell p u) b n f := by
  obtain ⟨D, h1, h2⟩ := h
  exact ⟨D, ownsMap_same h1 (Below.heap_setCell _ _ _ _ hp), h2⟩
theorem SetAt.made (w : World) : SetAt P k e (w.alloc (.map #[] 0)) w.heap.size 0 (fun _ => false) := by
  refine ⟨.map [], World.ownsMap_made _ _ _ _, fun x => rfl⟩
theorem plainElem_bool_inv {v : Value} {z : DataW Unit × List MemPlace} (he : P.underlying e = some .bool) (h : plainElem P e v = some z) : ∃ x, v = .bool x ∧ z = (.lit (.bool x), []) := by
  unfold plainElem at h
  rw [he] at h
  cases v <;> simp at h
  rename_i x
  exact ⟨x, rfl, h.symm⟩
theorem SetAt.look (h : SetAt P k e w b n f) (ht : P.underlying t = some (.map k e)) (hk : P.underlying k = some (.int .i64)) (he : P.underlying e = some .bool) (hz : ∀ w : World, (zeroValue e).run P w = .ok (.bool false) w) {x : Int} (hx : (Lit.int .i64 x).wf = true) :
    (Instr.lookup t (.map (some b)) (.int .i64 x) false).run P w = .ok (.bool (f x)) w := by
  obtain ⟨D, h1, h2⟩ := h
  obtain ⟨v, ps, hrun, hv⟩ := h1.lookup (int_keyed hk) ht (hz w) (plainElem_bool he false) (keyOf_int_mk hk hx)
  obtain ⟨y, rfl, hy⟩ := plainElem_bool_inv he hv
  rw [h2 x] at hy
  simp only [Prod.mk.injEq, DataW.lit.injEq, Lit.bool.injEq] at hy
  rw [hrun, hy.1]
theorem SetAt.look_regrown (h : SetAt P k e w b n f) (ht : P.underlying t = some (.map k e)) (hk : P.underlying k = some (.int .i64)) (he : P.underlying e = some .bool) (hz : ∀ w : World, (zeroValue e).run P w = .ok (.bool false) w) {x : Int} (hx : (Lit.int .i64 x).wf = true) (d : Nat) (os : Array Obj) :
    (Instr.lookup t (.map (some b)) (.int .i64 x) false).run P (grow (redrawn w d) os) = .ok (.bool (f x)) (grow (redrawn w d) os) :=
  (h.keep (below_regrown w d os)).look ht hk he hz hx
end

/-- The counters that a window has noted, all of them. -/
structure Once (T : Int) (B : Nat) (f : Int → Bool) : Prop where
  valid : validN T B = true
  lt : B < U
  seen : ∀ m, seenN T B m = (f m && decide (T - 64 < m))
  le : ∀ m, f m = true → m ≤ T
theorem Once.nil : Once 0 0 (fun _ => false) := by
  refine ⟨by decide, by decide, fun m => ?_, by simp⟩
  unfold seenN hasN; simp
theorem Once.fresh {T : Int} {B : Nat} {f : Int → Bool} (h : Once T B f) {n : Int} (h1 : 1 ≤ n) (h2 : n ≤ 1000000000) : freshN T B n = (!f n && decide (T - 64 < n)) := by
  have e1 : counterN n = true := by simp [counterN]; omega
  have hs := h.seen n
  unfold seenN at hs
  unfold freshN
  rw [h.valid, e1, hs]
  by_cases hd : T - n < 64
  · have : T - 64 < n := by omega
    simp [hd, this]
  · have : ¬ T - 64 < n := by omega
    simp [hd, this]
theorem Once.no {T : Int} {B : Nat} {f : Int → Bool} (h : Once T B f) {n : Int} (h1 : 1 ≤ n) (h2 : n ≤ 1000000000) (hn : (!f n && decide (T - 64 < n)) = false) : noteE T B n = 14 := by
  have e1 : counterN n = true := by simp [counterN]; omega
  exact old_iff.2 ⟨h.valid, e1, by rw [h.fresh h1 h2]; exact hn⟩
theorem Once.yes {T : Int} {B : Nat} {f : Int → Bool} (h : Once T B f) {n : Int} (h1 : 1 ≤ n) (h2 : n ≤ 1000000000) (hn : (!f n && decide (T - 64 < n)) = true) :
    noteE T B n = 0 ∧ noteT T B n = max T n ∧ Once (max T n) (noteB T B n) (fun m => if m = n then true else f m) := by
  have hf : freshN T B n = true := by rw [h.fresh h1 h2]; exact hn
  have he := note_ok.2 hf
  have eT : noteT T B n = max T n := by unfold noteT; rw [if_pos he]
  simp only [Bool.and_eq_true, decide_eq_true_eq] at hn
  refine ⟨he, eT, by rw [← eT]; exact valid_note h.lt hf, noteB_lt _ _ _, fun m => ?_, fun m hm => ?_⟩
  · have := seen_note h.lt hf m
    rw [eT] at this
    rw [this, h.seen m]
    by_cases hm : m = n
    · have : max T n - 64 < m := by omega
      simp [hm]; omega
    · by_cases h3 : max T n - 64 < m
      · have : T - 64 < m := by omega
        simp [hm, h3, this]
      · simp [hm, h3]
  · split at hm
    · omega
    · have := h.le m hm; omega
end Go.Proofs.Ytlofghfdcfpaiaa
