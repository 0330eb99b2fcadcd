/- Proved: the six laws for a list as the given statements lay it in memory. Conditions: the list lies there. -/
import Derived.Test.YtfhdpogngdgklaaL19
namespace Go.Proofs.Ytfhdpogngdgklaa
open Go.RowKit
set_option linter.unusedVariables false

abbrev LK : List CK := [some .i64, some .i64, some .i64]
theorem link_of {cs : List Value} (h : Flat LK cs) : ∃ x : Lk, cs = x.cells := by
  obtain ⟨hl, hk⟩ := h
  obtain ⟨u, v, z, rfl⟩ := list3 (l := cs) hl
  obtain ⟨_, e, p, rfl, _⟩ := hk 0 _ rfl
  simp at e; subst e
  obtain ⟨_, e, s, rfl, _⟩ := hk 1 _ rfl
  simp at e; subst e
  obtain ⟨_, e, g, rfl, _⟩ := hk 2 _ rfl
  simp at e; subst e
  exact ⟨⟨p, s, g⟩, rfl⟩
theorem links_of_rows : ∀ {css : List (List Value)}, (∀ cs ∈ css, Flat LK cs) → ∃ ls : List Lk, css = ls.map Lk.cells
  | [], _ => ⟨[], rfl⟩
  | cs :: css, h => by
    obtain ⟨x, rfl⟩ := link_of (h cs List.mem_cons_self)
    obtain ⟨ls, rfl⟩ := links_of_rows (css := css) fun c hc => h c (List.mem_cons_of_mem _ hc)
    exact ⟨x :: ls, rfl⟩
theorem links_at {w : World} {a : Option Addr} {ls : List Lk} (h : RowAt w a 3 (ls.map Lk.cells)) : LkAt w a ls := by
  rcases h with h | ⟨b, off, ha, h⟩
  · exact .inl (List.map_eq_nil_iff.1 h)
  · refine .inr ⟨b, off, ha, fun i hi => ?_⟩
    have e : ls.getD i default = ls[i] := by rw [List.getD_eq_getElem?_getD, List.getElem?_eq_getElem hi]; rfl
    have hi' : (ls.map Lk.cells)[i]? = some (ls[i]).cells := by rw [List.getElem?_map, List.getElem?_eq_getElem hi]; rfl
    rw [e]
    exact ⟨h i _ hi' 0 _ rfl, h i _ hi' 1 _ rfl, h i _ hi' 2 _ rfl⟩
section
variable (a : Option Addr) (cap : Nat) (css : List (List Value)) (w : World) (hr : RowAt w a 3 css) (hfl : ∀ cs ∈ css, Flat LK cs) (hl : css.length ≤ cap) (hm : cap ≤ maxLen)
include hr hfl hl hm
theorem pMatches (peer : Int) (acked : Bool) : Calls Try.prog 3 #[.slice a css.length cap, .int .i64 peer, .bool acked] w fun e w' => e = .returned (.bool true) ∧ Below w.heap.size w w' := by
  obtain ⟨ls, rfl⟩ := links_of_rows hfl
  rw [List.length_map] at hl ⊢
  exact lawMatches a cap ls peer acked w (links_at hr) hl hm
theorem pValid (peer : Int) (acked : Bool) (other : Int) : Calls Try.prog 4 #[.slice a css.length cap, .int .i64 peer, .bool acked, .int .i64 other] w fun e w' => e = .returned (.bool true) ∧ Below w.heap.size w w' := by
  obtain ⟨ls, rfl⟩ := links_of_rows hfl
  rw [List.length_map] at hl ⊢
  exact lawValid a cap ls peer acked other w (links_at hr) hl hm
theorem pBounds (peer : Int) : Calls Try.prog 5 #[.slice a css.length cap, .int .i64 peer] w fun e w' => e = .returned (.bool true) ∧ Below w.heap.size w w' := by
  obtain ⟨ls, rfl⟩ := links_of_rows hfl
  rw [List.length_map] at hl ⊢
  exact lawBounds a cap ls peer w (links_at hr) hl hm
theorem pBetter (peer : Int) : Calls Try.prog 6 #[.slice a css.length cap, .int .i64 peer] w fun e w' => e = .returned (.bool true) ∧ Below w.heap.size w w' := by
  obtain ⟨ls, rfl⟩ := links_of_rows hfl
  rw [List.length_map] at hl ⊢
  exact lawBetter a cap ls peer w (links_at hr) hl hm
theorem pRecovery (peer : Int) : Calls Try.prog 7 #[.slice a css.length cap, .int .i64 peer] w fun e w' => e = .returned (.bool true) ∧ Below w.heap.size w w' := by
  obtain ⟨ls, rfl⟩ := links_of_rows hfl
  rw [List.length_map] at hl ⊢
  exact lawRecovery a cap ls peer w (links_at hr) hl hm
theorem pIndependence (p q : Int) (c d : Bool) : Calls Try.prog 8 #[.slice a css.length cap, .int .i64 p, .int .i64 q, .bool c, .bool d] w fun e w' => e = .returned (.bool true) ∧ Below w.heap.size w w' := by
  obtain ⟨ls, rfl⟩ := links_of_rows hfl
  rw [List.length_map] at hl ⊢
  exact lawIndependence a cap ls p q c d w (links_at hr) hl hm
end
end Go.Proofs.Ytfhdpogngdgklaa
