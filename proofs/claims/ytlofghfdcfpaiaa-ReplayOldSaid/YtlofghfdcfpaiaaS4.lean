/- Proved: the plain law of counters that lie near each other: whatever their order, all are noted, and the window is the same. Conditions: they are different, and lie within sixty-four of each other. -/
import Derived.Test.YtlofghfdcfpaiaaS2
namespace Go.Proofs.Ytlofghfdcfpaiaa
open Go.RowKit Go.Sort
set_option linter.unusedVariables false

/-- The window that remembers just the counters of a list. -/
structure Inv (F T : Int) (B : Nat) (L : List Int) : Prop where
  valid : validN T B = true
  lt : B < U
  seen : ∀ m, seenN T B m = decide (m ∈ L)
  le : ∀ m ∈ L, m ≤ T
  zero : L = [] → T = 0
  top : L ≠ [] → T ∈ L
  range : ∀ m ∈ L, 1 + F ≤ m ∧ m ≤ 64 + F

theorem Inv.nil (F : Int) : Inv F 0 0 [] := by
  refine ⟨by decide, by decide, fun m => ?_, by simp, fun _ => rfl, by simp, by simp⟩
  unfold seenN hasN; simp

theorem Inv.step {F T : Int} {B : Nat} {L : List Int} (h : Inv F T B L) {n : Int} (hF : 0 ≤ F) (hF' : F ≤ 65535) (hn : n ∉ L) (h1 : 1 + F ≤ n) (h2 : n ≤ 64 + F) :
    noteE T B n = 0 ∧ Inv F (noteT T B n) (noteB T B n) (L ++ [n]) := by
  have hT : T ≤ 64 + F := by
    by_cases hL : L = []
    · rw [h.zero hL]; omega
    · exact (h.range T (h.top hL)).2
  have hf : freshN T B n = true := by
    have e1 : counterN n = true := by simp [counterN]; omega
    have e2 : T - n < 64 := by omega
    have e3 : hasN B (T - n) = false := by have := h.seen n; unfold seenN at this; rw [this]; simp [hn]
    simp [freshN, h.valid, e1, e2, e3]
  have he := note_ok.2 hf
  have eT : noteT T B n = max T n := by unfold noteT; rw [if_pos he]
  refine ⟨he, valid_note h.lt hf, noteB_lt _ _ _, fun m => ?_, ?_, by simp, fun _ => ?_, ?_⟩
  · rw [seen_note h.lt hf, h.seen m, eT]
    by_cases hm : m ∈ L
    · have := h.range m hm
      have h3 : max T n - 64 < m := by omega
      simp [hm, h3]
    · simp [hm]
  · intro m hm
    rw [eT]
    rcases List.mem_append.1 hm with hm | hm
    · have := h.le m hm; omega
    · simp at hm; omega
  · rw [eT, List.mem_append]
    by_cases hL : L = []
    · right; rw [h.zero hL]; simp; omega
    · rcases Int.le_total T n with hle | hle
      · right; simp; omega
      · left; rw [Int.max_eq_left hle]; exact h.top hL
  · intro m hm
    rcases List.mem_append.1 hm with hm | hm
    · exact h.range m hm
    · simp at hm; subst hm; exact ⟨h1, h2⟩

theorem not_in_take {L : List Int} (hnd : L.Nodup) {k : Nat} (hk : k < L.length) : L.getD k 0 ∉ L.take k := by
  intro h
  obtain ⟨j, hj, he⟩ := List.mem_iff_getElem.1 h
  simp only [List.length_take] at hj
  rw [List.getElem_take, List.getD_eq_getElem?_getD, List.getElem?_eq_getElem hk] at he
  exact (List.pairwise_iff_getElem.1 hnd) j k (by omega) hk (by omega) he
theorem take_push {L : List Int} {k : Nat} (hk : k < L.length) : L.take (k + 1) = L.take k ++ [L.getD k 0] := by
  rw [List.take_add_one, List.getElem?_eq_getElem hk, List.getD_eq_getElem?_getD, List.getElem?_eq_getElem hk]; rfl

theorem Inv.all {F : Int} {L : List Int} (hF : 0 ≤ F) (hF' : F ≤ 65535) (hnd : L.Nodup) (hr : ∀ m ∈ L, 1 + F ≤ m ∧ m ≤ 64 + F) :
    ∀ k, k ≤ L.length → Inv F (stT 0 0 L k).1 (stT 0 0 L k).2 (L.take k)
  | 0, _ => by simpa [stT] using Inv.nil F
  | k + 1, hk => by
    have ih := Inv.all hF hF' hnd hr k (by omega)
    have hm : L.getD k 0 ∈ L := by rw [List.getD_eq_getElem?_getD, List.getElem?_eq_getElem (by omega)]; exact List.getElem_mem _
    have hnot := not_in_take hnd (k := k) (by omega)
    rw [take_push (by omega)]
    exact (ih.step hF hF' hnot (hr _ hm).1 (hr _ hm).2).2
theorem all_ok {F : Int} {L : List Int} (hF : 0 ≤ F) (hF' : F ≤ 65535) (hnd : L.Nodup) (hr : ∀ m ∈ L, 1 + F ≤ m ∧ m ≤ 64 + F) {k : Nat} (hk : k < L.length) :
    noteE (stT 0 0 L k).1 (stT 0 0 L k).2 (L.getD k 0) = 0 := by
  have ih := Inv.all hF hF' hnd hr k (by omega)
  have hm : L.getD k 0 ∈ L := by rw [List.getD_eq_getElem?_getD, List.getElem?_eq_getElem (by omega)]; exact List.getElem_mem _
  have hnot := not_in_take hnd (k := k) (by omega)
  exact (ih.step hF hF' hnot (hr _ hm).1 (hr _ hm).2).1

/-- The window behind a list of which the set is known. -/
theorem same_window {F T T' : Int} {B B' : Nat} {L L' : List Int} (h : Inv F T B L) (h' : Inv F T' B' L') (hs : ∀ m, m ∈ L ↔ m ∈ L') (hne : L ≠ []) : T = T' ∧ B = B' := by
  have hne' : L' ≠ [] := fun e => hne (List.eq_nil_iff_forall_not_mem.2 fun m hm => by have := (hs m).1 hm; rw [e] at this; cases this)
  have eT : T = T' := by
    have a := h'.le T ((hs T).1 (h.top hne))
    have b := h.le T' ((hs T').2 (h'.top hne'))
    omega
  subst eT
  refine ⟨rfl, Nat.eq_of_testBit_eq fun j => ?_⟩
  by_cases hj : j < 64
  · have e : ∀ X : Nat, X.testBit j = seenN T X (T - j) := fun X => by
      unfold seenN
      rw [hasN_in (by omega) (by omega), show (T - (T - (j : Int))).toNat = j from by omega]
    rw [e, e, h.seen, h'.seen]
    simp [hs]
  · rw [high_bits h.lt (by omega), high_bits h'.lt (by omega)]
/-- The window behind a whole list, and the one behind a list with the same counters. -/
theorem same_all {F : Int} {L L' : List Int} (hF : 0 ≤ F) (hF' : F ≤ 65535) (hnd : L.Nodup) (hnd' : L'.Nodup) (hr : ∀ m ∈ L, 1 + F ≤ m ∧ m ≤ 64 + F) (hs : ∀ m, m ∈ L ↔ m ∈ L') (hne : L ≠ []) :
    (stT 0 0 L L.length).1 = (stT 0 0 L' L'.length).1 ∧ (stT 0 0 L L.length).2 = (stT 0 0 L' L'.length).2 := by
  have a := Inv.all hF hF' hnd hr L.length (Nat.le_refl _)
  have b := Inv.all hF hF' hnd' (fun m hm => hr m ((hs m).2 hm)) L'.length (Nat.le_refl _)
  rw [List.take_length] at a b
  exact same_window a b hs hne

/-- The counters of a set. -/
def lst (F : Int) (S : Nat) : Nat → List Int
  | 0 => []
  | k + 1 => if S.testBit k then lst F S k ++ [1 + F + (k : Int)] else lst F S k
theorem lst_mem {F : Int} {S : Nat} : ∀ (k : Nat) (m : Int), m ∈ lst F S k → 1 + F ≤ m ∧ m < 1 + F + k
  | 0, m, h => by simp [lst] at h
  | k + 1, m, h => by
    rw [lst] at h
    split at h
    · rcases List.mem_append.1 h with h | h
      · have := lst_mem k m h; omega
      · simp at h; omega
    · have := lst_mem k m h; omega
theorem lst_len (F : Int) (S : Nat) : ∀ k, (lst F S k).length ≤ k
  | 0 => Nat.le_refl _
  | k + 1 => by
    have := lst_len F S k
    rw [lst]; split
    · simp; omega
    · omega
theorem lst_sorted {F : Int} {S : Nat} : ∀ k : Nat, (lst F S k).Pairwise (· < ·)
  | 0 => List.Pairwise.nil
  | k + 1 => by
    rw [lst]; split
    · refine List.pairwise_append.2 ⟨lst_sorted k, by simp, fun x hx y hy => ?_⟩
      have := lst_mem k x hx
      simp at hy; omega
    · exact lst_sorted k
theorem lst_nodup {F : Int} {S : Nat} (k : Nat) : (lst F S k).Nodup := (lst_sorted k).imp fun h => by omega
theorem top_last {F : Int} (hF : 0 ≤ F) (hF' : F ≤ 65535) {L : List Int} (hs : L.Pairwise (· < ·)) (hr : ∀ m ∈ L, 1 + F ≤ m ∧ m ≤ 64 + F) (hne : 0 < L.length) :
    (stT 0 0 L L.length).1 = L.getD (L.length - 1) 0 := by
  have hnd : L.Nodup := hs.imp fun h => by omega
  have a := Inv.all hF hF' hnd hr L.length (Nat.le_refl _)
  rw [List.take_length] at a
  have ht := a.top (by intro h; rw [h] at hne; exact absurd hne (by simp))
  rw [List.getD_eq_getElem?_getD, List.getElem?_eq_getElem (by omega)]
  have h1 := a.le _ (List.getElem_mem (l := L) (n := L.length - 1) (by omega))
  obtain ⟨j, hj, he⟩ := List.mem_iff_getElem.1 ht
  by_cases hjl : j = L.length - 1
  · subst hjl; rw [← he]; rfl
  · have := (List.pairwise_iff_getElem.1 hs) j (L.length - 1) hj (by omega) (by omega)
    simp only [Option.getD_some]
    omega
theorem turn_mem {L : List Int} (k : Nat) (m : Int) : m ∈ L ↔ m ∈ L.drop k ++ L.take k := by
  rw [List.mem_append]
  constructor
  · intro h
    rw [← List.take_append_drop k L, List.mem_append] at h
    exact h.symm
  · intro h
    rw [← List.take_append_drop k L, List.mem_append]
    exact h.symm
theorem turn_nodup {L : List Int} (h : L.Nodup) (k : Nat) : (L.drop k ++ L.take k).Nodup := by
  have h' := h
  rw [← List.take_append_drop k L] at h'
  exact (List.perm_append_comm.nodup_iff).1 h'
end Go.Proofs.Ytlofghfdcfpaiaa
