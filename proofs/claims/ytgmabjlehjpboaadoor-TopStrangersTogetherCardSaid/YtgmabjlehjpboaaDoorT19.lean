/- Proved: plain facts on sorted lists of half-open joins: an element noted in its place. Conditions: those that each theorem names. -/
import Derived.Test.YtgmabjlehjpboaaDoorT18
namespace Go.Proofs.YtgmabjlehjpboaaDoor
open Go.RowKit Go.Sort Go.BigFrame Go.Proofs.YtgmabjlehjpboaaDoor.K
set_option linter.unusedVariables false
set_option linter.unusedSimpArgs false
attribute [local go_sem] cell_alloc_old

theorem mem_ins {h x : Hf} : ∀ {l : List Hf}, x ∈ insH h l ↔ x = h ∨ x ∈ l
  | [] => by simp [insH]
  | y :: r => by
    unfold insH
    split
    · simp
    · simp only [List.mem_cons, mem_ins (l := r)]
      constructor
      · rintro (h | h | h)
        · exact .inr (.inl h)
        · exact .inl h
        · exact .inr (.inr h)
      · rintro (h | h | h)
        · exact .inr (.inl h)
        · exact .inl h
        · exact .inr (.inr h)
theorem len_ins (h : Hf) : ∀ l : List Hf, (insH h l).length = l.length + 1
  | [] => rfl
  | y :: r => by
    unfold insH
    split
    · simp
    · simp [len_ins h r]
abbrev Srt (l : List Hf) : Prop := l.Pairwise fun a b => a.s < b.s
theorem srt_ins {h : Hf} : ∀ {l : List Hf}, Srt l → (∀ y ∈ l, y.s ≠ h.s) → Srt (insH h l)
  | [], _, _ => by simp [insH]
  | y :: r, hs, hn => by
    obtain ⟨h1, h2⟩ := List.pairwise_cons.1 hs
    have hy := hn y List.mem_cons_self
    unfold insH
    split
    · rename_i hlt
      refine List.pairwise_cons.2 ⟨fun z hz => ?_, hs⟩
      rcases List.mem_cons.1 hz with rfl | hz
      · exact hlt
      · have := h1 z hz; omega
    · rename_i hge
      refine List.pairwise_cons.2 ⟨fun z hz => ?_, srt_ins h2 fun z hz => hn z (List.mem_cons_of_mem _ hz)⟩
      rcases mem_ins.1 hz with rfl | hz
      · omega
      · exact h1 z hz
theorem mem_put {h x : Hf} {l : List Hf} : x ∈ putL l h ↔ x = h ∨ (x ∈ l ∧ x.s ≠ h.s) := by
  unfold putL; rw [mem_ins]; simp
theorem srt_put {h : Hf} {l : List Hf} (hs : Srt l) : Srt (putL l h) := srt_ins (hs.filter _) fun y hy => by simpa using (List.mem_filter.1 hy).2
theorem ins_last {h : Hf} : ∀ {l : List Hf}, (∀ y ∈ l, y.s < h.s) → insH h l = l ++ [h]
  | [], _ => rfl
  | y :: r, hl => by
    have := hl y List.mem_cons_self
    unfold insH
    rw [if_neg (by omega), ins_last fun z hz => hl z (List.mem_cons_of_mem _ hz)]; rfl
theorem put_last {h : Hf} {l : List Hf} (hl : ∀ y ∈ l, y.s < h.s) : putL l h = l ++ [h] := by
  unfold putL
  have : l.filter (fun y => !decide (y.s = h.s)) = l := List.filter_eq_self.2 fun y hy => by have := hl y hy; simp; omega
  rw [this, ins_last hl]
theorem put_take {l : List Hf} (hs : Srt l) {k : Nat} (hk : k < l.length) : putL (l.take k) (l.getD k default) = l.take (k + 1) := by
  rw [put_last fun y hy => ?_, ← take_snoc hk]
  obtain ⟨j, hj, rfl⟩ := List.mem_iff_getElem.1 hy
  rw [List.length_take] at hj
  rw [List.getElem_take]
  have := List.pairwise_iff_getElem.1 hs j k (by omega) hk (by omega)
  simpa [List.getD_eq_getElem?_getD, hk] using this
theorem find_none {l : List Hf} {x : Int} (h : findL l x = none) : ∀ y ∈ l, y.s ≠ x := fun y hy e => by
  have := List.find?_eq_none.1 h y hy
  simp [e] at this
theorem find_some {l : List Hf} {x : Int} {h : Hf} (e : findL l x = some h) : h ∈ l ∧ h.s = x := ⟨List.mem_of_find?_eq_some e, by simpa using List.find?_some e⟩
theorem find_of {l : List Hf} (hs : Srt l) {h : Hf} (hm : h ∈ l) : findL l h.s = some h := by
  obtain ⟨k, hk, rfl⟩ := List.mem_iff_getElem.1 hm
  have := find_at hs hk
  simpa [List.getD_eq_getElem?_getD, hk] using this
theorem filter_all {l : List Hf} {x : Int} (h : ∀ y ∈ l, y.s ≠ x) : l.filter (fun y => !decide (y.s = x)) = l := List.filter_eq_self.2 fun y hy => by simpa using h y hy
theorem len_put_none {l : List Hf} {h : Hf} (hn : findL l h.s = none) : (putL l h).length = l.length + 1 := by
  unfold putL; rw [len_ins, filter_all (find_none hn)]
theorem len_put_some {l : List Hf} {h g : Hf} (hn : findL l h.s = some g) : (putL l h).length ≤ l.length := by
  unfold putL; rw [len_ins]
  obtain ⟨h1, h2⟩ := find_some hn
  exact List.length_filter_lt_length_iff_exists.2 ⟨g, h1, by simp [h2]⟩
theorem find_put (l : List Hf) (h : Hf) (hs : Srt l) (x : Int) : findL (putL l h) x = if x = h.s then some h else findL l x := by
  by_cases e : x = h.s
  · subst e
    rw [if_pos rfl]
    exact find_of (srt_put hs) (mem_put.2 (.inl rfl))
  · rw [if_neg e]
    cases hf : findL l x with
    | none =>
      cases hp : findL (putL l h) x with
      | none => rfl
      | some g =>
        obtain ⟨h1, h2⟩ := find_some hp
        rcases mem_put.1 h1 with rfl | ⟨h3, _⟩
        · exact absurd h2.symm e
        · exact absurd h2 (find_none hf g h3)
    | some g =>
      obtain ⟨h1, h2⟩ := find_some hf
      have := find_of (srt_put (h := h) hs) (mem_put.2 (.inr ⟨h1, by rw [h2]; exact e⟩))
      rwa [h2] at this
theorem OkL.put {l : List Hf} {h : Hf} (hl : OkL l) (hh : h.ok) (hn : findL l h.s ≠ none ∨ l.length < 4) : OkL (putL l h) where
  len := by
    cases hf : findL l h.s with
    | none => rw [len_put_none hf]; rcases hn with hn | hn; exact absurd hf hn; omega
    | some g => exact Nat.le_trans (len_put_some hf) hl.len
  ok := fun x hx => by
    rcases mem_put.1 hx with rfl | ⟨h1, _⟩
    · exact hh
    · exact hl.ok x h1
  srt := srt_put hl.srt
theorem node_64 {s : Int} (h : nodeB s = true) : I64 s := by
  have h' : 0 ≤ s ∧ s < 60 := by simpa [nodeB] using h
  have e1 : IntKind.i64.min = -9223372036854775808 := by decide
  have e2 : IntKind.i64.max = 9223372036854775807 := by decide
  show (decide (IntKind.i64.min ≤ s) && decide (s ≤ IntKind.i64.max)) = true
  rw [e1, e2]
  simp; omega
theorem OkL.i64 {l : List Hf} (h : OkL l) : ∀ x ∈ l, I64 x.s := fun x hx => node_64 (h.ok x hx).s
end Go.Proofs.YtgmabjlehjpboaaDoor
