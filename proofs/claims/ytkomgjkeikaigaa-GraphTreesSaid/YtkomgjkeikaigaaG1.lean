/- Proved: what the small functions of the graph statements return. Conditions: the lists lie in memory. -/
import Derived.Test.YtkomgjkeikaigaaT1
namespace Go.Proofs.Ytkomgjkeikaigaa
open Go.RowKit Go.Sort Go.BigFrame
set_option linter.unusedVariables false
set_option linter.unusedSimpArgs false
attribute [local go_sem] cell_alloc_old

abbrev Yes (y : Bool) (w : World) (e : Ending) (w' : World) : Prop := e = .returned (.bool y) ∧ Below w.heap.size w w'
abbrev Gives (v : Value) (w : World) (e : Ending) (w' : World) : Prop := e = .returned v ∧ Below w.heap.size w w'
abbrev L (l : List Int) (w : World) (a : Option Addr) : Prop := IntsAt .i64 w a l
/-- The truth values lie one behind the other at the address. -/
def BoolsAt (w : World) (a : Option Addr) (bs : List Bool) : Prop := bs = [] ∨ ∃ b off, a = some ⟨b, off, none⟩ ∧ ∀ j, j < bs.length → w.cell? ⟨b, off + j, none⟩ = some (.bool (bs.getD j false))
theorem BoolsAt.keep {w w' : World} {a : Option Addr} {bs : List Bool} (h : BoolsAt w a bs) (hb : Below w.heap.size w w') : BoolsAt w' a bs := by
  rcases h with h | ⟨b, off, ha, h⟩
  · exact .inl h
  · exact .inr ⟨b, off, ha, fun j hj => keep1 hb (h j hj)⟩
/-- The rows of the table lie at the address. -/
def TabAt (w : World) (a : Option Addr) (h : Tab) : Prop := h = [] ∨ ∃ b off, a = some ⟨b, off, none⟩ ∧ ∀ i, i < h.length → ∃ ra rc, w.cell? ⟨b, off + i, none⟩ = some (.slice ra (h.getD i []).length rc) ∧ BoolsAt w ra (h.getD i []) ∧ (h.getD i []).length ≤ maxLen
theorem TabAt.keep {w w' : World} {a : Option Addr} {h : Tab} (x : TabAt w a h) (hb : Below w.heap.size w w') : TabAt w' a h := by
  rcases x with x | ⟨b, off, ha, x⟩
  · exact .inl x
  · exact .inr ⟨b, off, ha, fun i hi => by obtain ⟨ra, rc, h1, h2, h3⟩ := x i hi; exact ⟨ra, rc, keep1 hb h1, h2.keep hb, h3⟩⟩
theorem ints_at {w : World} {a : Option Addr} {l : List Int} (h : IntsAt .i64 w a l) {i : Nat} (hi : i < l.length) : ∃ b off, a = some ⟨b, off, none⟩ ∧ ∀ j, j < l.length → w.cell? ⟨b, off + j, none⟩ = some (.int .i64 (l.getD j 0)) := by
  rcases h with rfl | h
  · simp at hi
  · exact h
theorem bools_at {w : World} {a : Option Addr} {l : List Bool} (h : BoolsAt w a l) {i : Nat} (hi : i < l.length) : ∃ b off, a = some ⟨b, off, none⟩ ∧ ∀ j, j < l.length → w.cell? ⟨b, off + j, none⟩ = some (.bool (l.getD j false)) := by
  rcases h with rfl | h
  · simp at hi
  · exact h
theorem tab_at {w : World} {a : Option Addr} {h : Tab} (x : TabAt w a h) {i : Nat} (hi : i < h.length) : ∃ b off, a = some ⟨b, off, none⟩ ∧ ∀ i, i < h.length → ∃ ra rc, w.cell? ⟨b, off + i, none⟩ = some (.slice ra (h.getD i []).length rc) ∧ BoolsAt w ra (h.getD i []) ∧ (h.getD i []).length ≤ maxLen := by
  rcases x with rfl | x
  · simp at hi
  · exact x

theorem isidx_any (i n : Int) (w : World) : Calls Try.prog 28 #[.int .i64 i, .int .i64 n] w (Yes (decide (0 ≤ i) && decide (i < n)) w) := by
  by_cases h0 : 0 ≤ i
  · by_cases h1 : i < n
    · go_enter Try.func28, Try.ntmps28
      go_wp2_with fail
      go_ret
      exact ⟨by simp [h0, h1], Below.refl _ _⟩
    · go_enter Try.func28, Try.ntmps28
      go_wp2_with fail
      go_ret
      exact ⟨by simp [h0, h1], Below.refl _ _⟩
  · go_enter Try.func28, Try.ntmps28
    go_wp2_with fail
    go_ret
    exact ⟨by simp; omega, Below.refl _ _⟩
theorem isidx_at (i n : Int) (y : Bool) (w : World) (hy : (decide (0 ≤ i) && decide (i < n)) = y) : Calls Try.prog 28 #[.int .i64 i, .int .i64 n] w (Yes y w) := by rw [← hy]; exact isidx_any i n w

theorem step_at (l : List Int) (n : Nat) (a : Option Addr) (cap : Nat) (i r : Int) (w : World) (hn : n = l.length) (hl : IntsAt .i64 w a l) (hm : n ≤ maxLen) (hr : stepI l i = r) : Calls Try.prog 24 #[.slice a n cap, .int .i64 i] w (Gives (.int .i64 r) w) := by
  have HN := Lib.hid hn; have HR := Lib.hid hr; clear hn hr
  unfold maxLen at hm
  by_cases h0 : i < 0
  · have e : r = -1 := by rw [← HR.out]; exact step_out (fun h => by have := h.1; omega)
    subst e
    go_enter Try.func24, Try.ntmps24
    go_wp2_with fail
    go_ret
    exact ⟨rfl, Below.refl _ _⟩
  by_cases h1 : i < (n : Int)
  · have h0' : 0 ≤ i := by omega
    obtain ⟨k, rfl⟩ : ∃ k : Nat, i = k := ⟨i.toNat, by omega⟩
    obtain ⟨b, off, rfl, hc⟩ := ints_at hl (i := k) (by rw [← HN.out]; omega)
    have c := hc k (by rw [← HN.out]; omega)
    clear hl hc
    have hs : stepI l (k : Int) = if inR l (l.getD k 0) then l.getD k 0 else -1 := by
      unfold stepI pAt
      have hk : inR l (k : Int) := ⟨h0', by rw [← HN.out]; exact h1⟩
      simp only [Int.toNat_natCast, hk, true_and]
    rw [HR.out] at hs
    obtain ⟨p, hp⟩ : ∃ p, l.getD k 0 = p := ⟨_, rfl⟩
    rw [hp] at c hs
    have HS := Lib.hid hs; clear hs hp
    by_cases h2 : p < 0
    · have e : r = -1 := by rw [HS.out, if_neg (fun h => by have := h.1; omega)]
      subst e; clear HS HR
      go_enter Try.func24, Try.ntmps24
      go_wp2_with fail
      go_ret
      exact ⟨rfl, Below.refl _ _⟩
    by_cases h3 : p < (n : Int)
    · have e : r = p := by rw [HS.out, if_pos ⟨by omega, by rw [← HN.out]; exact h3⟩]
      subst e; clear HS HR
      go_enter Try.func24, Try.ntmps24
      go_wp2_with fail
      go_ret
      exact ⟨rfl, Below.refl _ _⟩
    · have e : r = -1 := by rw [HS.out, if_neg (fun h => by have := h.2; rw [← HN.out] at this; omega)]
      subst e; clear HS HR
      go_enter Try.func24, Try.ntmps24
      go_wp2_with fail
      go_ret
      exact ⟨rfl, Below.refl _ _⟩
  · have e : r = -1 := by rw [← HR.out]; exact step_out (fun h => by have := h.2; rw [← HN.out] at this; omega)
    subst e
    go_enter Try.func24, Try.ntmps24
    go_wp2_with fail
    go_ret
    exact ⟨rfl, Below.refl _ _⟩

set_option maxRecDepth 100000 in
set_option maxHeartbeats 1000000 in
theorem meets_at (l : List Int) (n : Nat) (a : Option Addr) (cap : Nat) (i goal : Int) (y : Bool) (w : World) (hn : n = l.length) (hl : IntsAt .i64 w a l) (hm : n ≤ maxLen) (hy : meets l i goal = y) : Calls Try.prog 23 #[.slice a n cap, .int .i64 i, .int .i64 goal] w (Yes y w) := by
  have hm' := hm
  unfold maxLen at hm
  have HN := Lib.hid hn; have HY := Lib.hid hy; clear hn hy
  go_enter Try.func23, Try.ntmps23
  go_wp2_with fail
  go_loopw [7, 8] (fun p j wr => ∃ k : Nat, k ≤ n ∧ j = .int .i64 k ∧ p = .int .i64 (itr l i k) ∧ meetTo l i goal k = false ∧ Below w.heap.size w wr) (fun _ j _ => n - (intOf j).toNat)
  case atStart => exact ⟨0, Nat.zero_le _, rfl, rfl, rfl, Below.refl _ _⟩
  case round =>
    obtain ⟨k, hk, rfl, rfl, hf, BB⟩ := hrel
    have HF := Lib.hid hf; clear hf
    by_cases hlt : k < n
    · have hlt' : (k : Int) < (n : Int) := by omega
      have hk0 : (0 : Int) ≤ (k : Int) := by omega
      have e1 : meetTo l i goal (k + 1) = (stepI l (itr l i k) == goal) := by rw [meetTo, HF.out]; rfl
      obtain ⟨r, hr⟩ : ∃ r, stepI l (itr l i k) = r := ⟨_, rfl⟩
      rw [hr] at e1
      have e2 : itr l i (k + 1) = r := hr
      have HR := Lib.hid hr; have HE := Lib.hid e1; have HE2 := Lib.hid e2; clear hr e1 e2
      by_cases hg : r = goal
      · have hgb : (r == goal) = true := by simp [hg]
        have HG := Lib.hid hg; clear hg
        go_wp2_with fail
        refine (step_at l n a cap (itr l i k) r wr HN.out (hl.keep BB) hm' HR.out).mono ?_
        rintro e w1 ⟨rfl, b1⟩
        replace BB := bstep BB b1
        clear b1
        go_wp2_with fail
        go_ret
        refine ⟨?_, BB⟩
        have : meets l i goal = true := by
          refine meetTo_iff.2 ⟨k + 1, by omega, by rw [← HN.out]; omega, ?_⟩
          rw [HE2.out, HG.out]
        rw [← HY.out, this]; rfl
      · have hgb : (r == goal) = false := by simp [hg]
        have HG := Lib.hid hg; clear hg
        go_wp2_with fail
        refine (step_at l n a cap (itr l i k) r wr HN.out (hl.keep BB) hm' HR.out).mono ?_
        rintro e w1 ⟨rfl, b1⟩
        replace BB := bstep BB b1
        clear b1
        go_wp2_with fail
        go_roundw
        case rel => exact ⟨k + 1, by omega, by go_num, by rw [HE2.out], by rw [HE.out]; simpa using HG.out, BB⟩
        case measure => simp [intOf]; omega
    · have hkn : n = k := by omega
      subst hkn
      go_wp2_with fail
      go_ret
      refine ⟨?_, BB⟩
      have : meets l i goal = false := by unfold meets; rw [← HN.out]; exact HF.out
      rw [← HY.out, this]; rfl

def hasB (l : List Int) (x : Int) : Bool := l.any (· == x)
theorem any_take {α : Type} (d : α) (f : α → Bool) (l : List α) {k : Nat} (h : k < l.length) : (l.take (k + 1)).any f = ((l.take k).any f || f (l.getD k d)) := by
  rw [List.take_add_one, List.getD_eq_getElem?_getD, List.getElem?_eq_getElem h]
  simp only [List.any_append, Option.toList, List.any_cons, List.any_nil, Bool.or_false, Option.getD_some]
set_option maxRecDepth 100000 in
set_option maxHeartbeats 1000000 in
theorem has_at (l : List Int) (n : Nat) (a : Option Addr) (cap : Nat) (x : Int) (y : Bool) (w : World) (hn : n = l.length) (hl : IntsAt .i64 w a l) (hm : n ≤ maxLen) (hy : hasB l x = y) : Calls Try.prog 22 #[.slice a n cap, .int .i64 x] w (Yes y w) := by
  unfold maxLen at hm
  have HN := Lib.hid hn; have HY := Lib.hid hy; clear hn hy
  go_enter Try.func22, Try.ntmps22
  go_wp2_with fail
  go_loopw [5] (fun j wr => ∃ k : Nat, k ≤ n ∧ j = .int .i64 k ∧ (l.take k).any (· == x) = false ∧ Below w.heap.size w wr) (fun j _ => n - (intOf j).toNat)
  case atStart => exact ⟨0, Nat.zero_le _, rfl, rfl, Below.refl _ _⟩
  case round =>
    obtain ⟨k, hk, rfl, hf, BB⟩ := hrel
    have HF := Lib.hid hf; clear hf
    by_cases hlt : k < n
    · have hlt' : (k : Int) < (n : Int) := by omega
      have hk0 : (0 : Int) ≤ (k : Int) := by omega
      obtain ⟨b, off, rfl, hc⟩ := ints_at hl (i := k) (by rw [← HN.out]; exact hlt)
      have c := keep1 BB (hc k (by rw [← HN.out]; exact hlt))
      have e1 := any_take 0 (· == x) l (k := k) (by rw [← HN.out]; exact hlt)
      rw [HF.out] at e1
      have hmem : l.getD k 0 ∈ l := by rw [List.getD_eq_getElem?_getD, List.getElem?_eq_getElem (by rw [← HN.out]; exact hlt)]; exact List.getElem_mem _
      obtain ⟨z, hz⟩ : ∃ z, l.getD k 0 = z := ⟨_, rfl⟩
      rw [hz] at c e1 hmem
      have HE := Lib.hid e1; have HM := Lib.hid hmem
      clear hz e1 hc hl hmem
      by_cases hg : z = x
      · have hgb : (z == x) = true := by simp [hg]
        have HG := Lib.hid hg; clear hg
        go_wp2_with fail
        go_ret
        refine ⟨?_, BB⟩
        rw [← HY.out, show hasB l x = true from List.any_eq_true.2 ⟨z, HM.out, by simpa using HG.out⟩]; rfl
      · have hgb : (z == x) = false := by simp [hg]
        have HG := Lib.hid hg; clear hg
        go_wp2_with fail
        go_roundw
        case rel => exact ⟨k + 1, by omega, by go_num, by rw [HE.out]; simpa using HG.out, BB⟩
        case measure => simp [intOf]; omega
    · have hkn : n = k := by omega
      subst hkn
      go_wp2_with fail
      go_ret
      refine ⟨?_, BB⟩
      have : hasB l x = false := by have := HF.out; rwa [HN.out, List.take_length] at this
      rw [← HY.out, this]; rfl
end Go.Proofs.Ytkomgjkeikaigaa
