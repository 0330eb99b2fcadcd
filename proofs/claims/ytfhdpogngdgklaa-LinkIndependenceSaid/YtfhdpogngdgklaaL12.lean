/- Proved: plain facts on the list after a frame: it is valid, has the link that was counted, and the others as before; and what the law's after returns. Conditions: the list is valid and lies in memory. -/
import Derived.Test.YtfhdpogngdgklaaL11
namespace Go.Proofs.Ytfhdpogngdgklaa
open Go.RowKit Go.Sort Go.BigFrame
set_option linter.unusedVariables false
set_option linter.unusedSimpArgs false
attribute [local go_sem] cell_alloc_old

theorem valid_mem {ls : List Lk} (hv : validV ls = true) : ∀ x ∈ ls, lkOk x = true := fun x hx => by
  obtain ⟨i, hi, rfl⟩ := List.mem_iff_getElem.1 hx
  have h2 := okTo_at hv i hi
  unfold okAt at h2
  rw [Bool.and_eq_true, List.getD_eq_getElem?_getD, List.getElem?_eq_getElem hi] at h2
  exact h2.1
theorem valid_of {ls : List Lk} (h1 : ls.Pairwise (fun x y => x.p < y.p)) (h2 : ∀ x ∈ ls, lkOk x = true) : validV ls = true := by
  refine at_okTo fun i hi => ?_
  have e : ls.getD i default = ls[i] := by rw [List.getD_eq_getElem?_getD, List.getElem?_eq_getElem hi]; rfl
  unfold okAt
  rw [Bool.and_eq_true, e]
  refine ⟨h2 _ (List.getElem_mem hi), ?_⟩
  rcases Nat.eq_zero_or_pos i with h0 | h0
  · simp [h0]
  · have e' : ls.getD (i - 1) default = ls[i - 1] := by rw [List.getD_eq_getElem?_getD, List.getElem?_eq_getElem (by omega)]; rfl
    rw [e']
    have := List.pairwise_iff_getElem.1 h1 (i - 1) i (by omega) hi (by omega)
    simp [this]
theorem cnt_ok {x : Lk} (hx : lkOk x = true) (acked : Bool) : lkOk (cntV x acked) = true ∧ (cntV x acked).p = x.p := by
  rw [lkOk_iff] at hx
  unfold cntV
  constructor
  · rw [lkOk_iff]
    cases acked <;> simp only [Bool.false_eq_true, if_false, if_true] <;> split <;> simp only <;> omega
  · simp only []
    by_cases h : x.s + 1 = 32
    · simp [h]
    · simp [h]
theorem count_valid {ls : List Lk} (hv : validV ls = true) {peer : Int} (h0 : 0 ≤ peer) (h1 : peer ≤ 59) (acked : Bool) : validV (countV ls peer acked) = true := by
  have ho := of_ok hv h0 h1
  obtain ⟨c1, c2⟩ := cnt_ok ho.1 acked
  rw [ho.2] at c2
  have hs := sorted_of hv
  refine valid_of ?_ ?_
  · unfold countV lower upper
    rw [List.pairwise_append, List.pairwise_cons]
    refine ⟨hs.filter _, ⟨fun y hy => ?_, hs.filter _⟩, fun x hx y hy => ?_⟩
    · have := (List.mem_filter.1 hy).2
      rw [c2]; simpa using this
    · have hx2 := (List.mem_filter.1 hx).2
      simp only [decide_eq_true_eq] at hx2
      rcases List.mem_cons.1 hy with rfl | hy
      · rw [c2]; exact hx2
      · have := (List.mem_filter.1 hy).2
        simp only [decide_eq_true_eq] at this
        omega
  · intro x hx
    unfold countV at hx
    rcases List.mem_append.1 hx with hx | hx
    · exact valid_mem hv x (List.mem_filter.1 hx).1
    · rcases List.mem_cons.1 hx with rfl | hx
      · exact c1
      · exact valid_mem hv x (List.mem_filter.1 hx).1
theorem of_unique {ls : List Lk} (hv : validV ls = true) {x : Lk} (hx : x ∈ ls) : ofV ls x.p = x := by
  obtain ⟨i, hi, rfl⟩ := List.mem_iff_getElem.1 hx
  have := filter_of hv hi
  rwa [List.getD_eq_getElem?_getD, List.getElem?_eq_getElem hi] at this
theorem of_absent {ls : List Lk} {q : Int} (h : ∀ x ∈ ls, x.p ≠ q) : ofV ls q = ⟨q, 0, 0⟩ := of_miss fun i hi => by
  have := h _ (List.getElem_mem hi)
  rw [List.getD_eq_getElem?_getD, List.getElem?_eq_getElem hi]
  exact this
theorem of_count_same {ls : List Lk} (hv : validV ls = true) {peer : Int} (h0 : 0 ≤ peer) (h1 : peer ≤ 59) (acked : Bool) : ofV (countV ls peer acked) peer = cntV (ofV ls peer) acked := by
  have ho := of_ok hv h0 h1
  obtain ⟨_, c2⟩ := cnt_ok ho.1 acked
  have := of_unique (count_valid hv h0 h1 acked) (x := cntV (ofV ls peer) acked) (by unfold countV; simp)
  rwa [c2, ho.2] at this
theorem of_count_other {ls : List Lk} (hv : validV ls = true) {peer q : Int} (h0 : 0 ≤ peer) (h1 : peer ≤ 59) (acked : Bool) (hq : q ≠ peer) : ofV (countV ls peer acked) q = ofV ls q := by
  have ho := of_ok hv h0 h1
  obtain ⟨_, c2⟩ := cnt_ok ho.1 acked
  rw [ho.2] at c2
  by_cases hex : ∃ x ∈ ls, x.p = q
  · obtain ⟨x, hx, rfl⟩ := hex
    rw [of_unique hv hx]
    refine of_unique (count_valid hv h0 h1 acked) ?_
    unfold countV lower upper
    rcases Int.lt_or_lt_of_ne hq with h | h
    · exact List.mem_append_left _ (List.mem_filter.2 ⟨hx, by simpa using h⟩)
    · exact List.mem_append_right _ (List.mem_cons_of_mem _ (List.mem_filter.2 ⟨hx, by simpa using h⟩))
  · rw [of_absent (fun x hx h => hex ⟨x, hx, h⟩), of_absent]
    intro x hx h
    unfold countV at hx
    rcases List.mem_append.1 hx with hx | hx
    · exact hex ⟨x, (List.mem_filter.1 hx).1, h⟩
    · rcases List.mem_cons.1 hx with rfl | hx
      · exact hq (by rw [← h, c2])
      · exact hex ⟨x, (List.mem_filter.1 hx).1, h⟩

def afterV (ls : List Lk) (peer : Int) (acked : Bool) : Nat → List Lk
  | 0 => ls
  | k + 1 => countV (afterV ls peer acked k) peer acked
theorem after_valid {ls : List Lk} (hv : validV ls = true) {peer : Int} (h0 : 0 ≤ peer) (h1 : peer ≤ 59) (acked : Bool) : ∀ k, validV (afterV ls peer acked k) = true
  | 0 => hv
  | k + 1 => count_valid (after_valid hv h0 h1 acked k) h0 h1 acked
def SlicePost (zs : List Lk) (w : World) (e : Ending) (w' : World) : Prop := ∃ a cap, e = .returned (.slice a zs.length cap) ∧ LkAt w' a zs ∧ zs.length ≤ cap ∧ cap ≤ maxLen ∧ Below w.heap.size w w'

set_option maxRecDepth 100000 in
set_option maxHeartbeats 4000000 in
theorem after_any (n : Nat) (a : Option Addr) (cap : Nat) (ls : List Lk) (peer : Int) (acked : Bool) (T : Nat) (w : World) (hn : n = ls.length) (hl : LkAt w a ls) (hcap : ls.length ≤ cap) (hcm : cap ≤ maxLen) (hv : validV ls = true) (p0 : 0 ≤ peer) (p1 : peer ≤ 59) (hT : T ≤ 200) :
    Calls Try.prog 17 #[.slice a n cap, .int .i64 peer, .bool acked, .int .i64 (T : Int)] w (SlicePost (afterV ls peer acked T) w) := by
  subst hn
  have HV := Lib.hid hv; clear hv
  go_enter Try.func17, Try.ntmps17
  go_wp2_with fail
  go_loopw [0, 9] (fun v i wr => ∃ (k : Nat) (a' : Option Addr) (cap' : Nat), k ≤ T ∧ i = .int .i64 k ∧ v = .slice a' (afterV ls peer acked k).length cap' ∧ LkAt wr a' (afterV ls peer acked k) ∧ (afterV ls peer acked k).length ≤ cap' ∧ cap' ≤ maxLen ∧ Below w.heap.size w wr) (fun _ i _ => T - (intOf i).toNat)
  case atStart => exact ⟨0, a, cap, Nat.zero_le _, rfl, rfl, hl, hcap, hcm, Below.refl _ _⟩
  case round =>
    clear hl hcap hcm
    obtain ⟨k, a', cap', hk, rfl, rfl, hl, hcap, hcm, hB⟩ := hrel
    by_cases hlt : k < T
    · have hlt' : (k : Int) < (T : Int) := by omega
      have hk2 : (k : Int) < 200 := by omega
      have hvk := after_valid HV.out p0 p1 acked k
      have hst : afterV ls peer acked (k + 1) = countV (afterV ls peer acked k) peer acked := rfl
      have hcnt := count_gen (afterV ls peer acked k).length a' cap' (afterV ls peer acked k) peer acked wr rfl hl hcap hcm
      unfold cListV errV at hcnt
      rw [if_pos ⟨hvk, p0, p1⟩, if_pos ⟨hvk, p0, p1⟩, ← hst] at hcnt
      clear hst hvk hl hcap
      generalize (afterV ls peer acked k).length = nk at *
      go_wp2_with fail
      refine hcnt.mono ?_
      rintro e w2 ⟨a2, cap2, rfl, hl2, hc2, hm2, b2⟩
      clear hcnt
      have BB := bstep hB b2
      have rel : ∃ (k' : Nat) (a' : Option Addr) (cap' : Nat), k' ≤ T ∧ Value.int .i64 ((k : Int) + 1) = .int .i64 k' ∧ Value.slice a2 (afterV ls peer acked (k + 1)).length cap2 = .slice a' (afterV ls peer acked k').length cap' ∧ LkAt w2 a' (afterV ls peer acked k') ∧ (afterV ls peer acked k').length ≤ cap' ∧ cap' ≤ maxLen ∧ Below w.heap.size w w2 :=
        ⟨k + 1, a2, cap2, by omega, by simp, rfl, hl2, hc2, hm2, BB⟩
      have REL := Lib.hid rel; clear rel hl2 hc2
      generalize (afterV ls peer acked (k + 1)).length = nk2 at *
      go_wp2_with fail
      go_roundw
      case rel => exact REL.out
      case measure => simp [intOf]; omega
    · have hkT : T = k := by omega
      subst hkT
      have fin : SlicePost (afterV ls peer acked T) w (.returned (.slice a' (afterV ls peer acked T).length cap')) wr := ⟨a', cap', rfl, hl, hcap, hcm, hB⟩
      have FIN := Lib.hid fin; clear fin hl hcap
      generalize (afterV ls peer acked T).length = nk at *
      go_wp2_with fail
      go_ret
      exact FIN.out
end Go.Proofs.Ytfhdpogngdgklaa
