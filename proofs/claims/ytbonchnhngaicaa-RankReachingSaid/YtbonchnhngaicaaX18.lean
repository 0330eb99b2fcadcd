/- Proved: six laws for offers as the given statements lay them in memory. Conditions: the list lies there. -/
import Derived.Test.YtbonchnhngaicaaX17
namespace Go.Proofs.Ytbonchnhngaicaa
open Go.RowKit
set_option linter.unusedVariables false

abbrev OK4 : List CK := [some .i64, some .i64, some .i64, some .i64]
theorem offer_of {cs : List Value} (h : Flat OK4 cs) : ∃ x : Ofr, cs = x.cs := by
  obtain ⟨hl, hk⟩ := h
  obtain ⟨u, v, z, y, rfl⟩ := list4 (l := cs) hl
  obtain ⟨_, e, p, rfl, _⟩ := hk 0 _ rfl
  simp at e; subst e
  obtain ⟨_, e, s, rfl, _⟩ := hk 1 _ rfl
  simp at e; subst e
  obtain ⟨_, e, g, rfl, _⟩ := hk 2 _ rfl
  simp at e; subst e
  obtain ⟨_, e, q, rfl, _⟩ := hk 3 _ rfl
  simp at e; subst e
  exact ⟨⟨p, ⟨s, g⟩, q⟩, rfl⟩
theorem offers_of_rows : ∀ {css : List (List Value)}, (∀ cs ∈ css, Flat OK4 cs) → ∃ ls : List Ofr, css = ls.map Ofr.cs
  | [], _ => ⟨[], rfl⟩
  | cs :: css, h => by
    obtain ⟨x, rfl⟩ := offer_of (h cs List.mem_cons_self)
    obtain ⟨ls, rfl⟩ := offers_of_rows (css := css) fun c hc => h c (List.mem_cons_of_mem _ hc)
    exact ⟨x :: ls, rfl⟩
theorem offers_at {w : World} {a : Option Addr} {ls : List Ofr} (h : RowAt w a 4 (ls.map Ofr.cs)) : OfAt w a ls := by
  rcases h with h | ⟨b, off, ha, h⟩
  · exact .inl (List.map_eq_nil_iff.1 h)
  · refine .inr ⟨b, off, ha, fun i hi => ?_⟩
    have e : ls.getD i default = ls[i] := by rw [List.getD_eq_getElem?_getD, List.getElem?_eq_getElem hi]; rfl
    have hi' : (ls.map Ofr.cs)[i]? = some (ls[i]).cs := by rw [List.getElem?_map, List.getElem?_eq_getElem hi]; rfl
    rw [e]
    exact ⟨h i _ hi' 0 _ rfl, h i _ hi' 1 _ rfl, h i _ hi' 2 _ rfl, h i _ hi' 3 _ rfl⟩
section
variable (q1 q2 q3 q4 q5 : Int) (a : Option Addr) (cap : Nat) (css : List (List Value)) (w : World) (hr : RowAt w a 4 css) (hfl : ∀ cs ∈ css, Flat OK4 cs) (hl : css.length ≤ cap) (hm : cap ≤ maxLen)
include hr hfl hl hm
theorem pMatches (t1 t2 o1 o2 : Int) (root : Bool) (q : Int) : Calls Try.prog 3 #[.agg #[.int .i64 q1, .int .i64 q2, .int .i64 q3, .int .i64 q4, .int .i64 q5], .slice a css.length cap, .agg #[.int .i64 t1, .int .i64 t2], .agg #[.int .i64 o1, .int .i64 o2], .bool root, .int .i64 q] w fun e w' => e = .returned (.bool true) ∧ Below w.heap.size w w' := by
  obtain ⟨ls, rfl⟩ := offers_of_rows hfl
  rw [List.length_map] at hl ⊢
  exact lawMatches ⟨⟨q1, q2⟩, ⟨q3, q4⟩, q5⟩ ⟨t1, t2⟩ ⟨o1, o2⟩ root q a cap ls w (offers_at hr) (by omega)
theorem pValid (q : Int) : Calls Try.prog 5 #[.agg #[.int .i64 q1, .int .i64 q2, .int .i64 q3, .int .i64 q4, .int .i64 q5], .slice a css.length cap, .int .i64 q] w fun e w' => e = .returned (.bool true) ∧ Below w.heap.size w w' := by
  obtain ⟨ls, rfl⟩ := offers_of_rows hfl
  rw [List.length_map] at hl ⊢
  exact lawValid ⟨⟨q1, q2⟩, ⟨q3, q4⟩, q5⟩ q a cap ls w (offers_at hr) (by omega)
theorem pChoice (t u : Int) (ht : (Lit.int .u8 t).wf = true) (hu : (Lit.int .u8 u).wf = true) : Calls Try.prog 6 #[.agg #[.int .i64 q1, .int .i64 q2, .int .i64 q3, .int .i64 q4, .int .i64 q5], .slice a css.length cap, .int .u8 t, .int .u8 u] w fun e w' => e = .returned (.bool true) ∧ Below w.heap.size w w' := by
  obtain ⟨ls, rfl⟩ := offers_of_rows hfl
  rw [List.length_map] at hl ⊢
  exact lawChoice ⟨⟨q1, q2⟩, ⟨q3, q4⟩, q5⟩ t u (u8_bd ht).1 (u8_bd ht).2 (u8_bd hu).1 (u8_bd hu).2 a cap ls w (offers_at hr) (by omega) hl hm
theorem pDownhill (t1 t2 : Int) : Calls Try.prog 7 #[.agg #[.int .i64 q1, .int .i64 q2, .int .i64 q3, .int .i64 q4, .int .i64 q5], .slice a css.length cap, .agg #[.int .i64 t1, .int .i64 t2]] w fun e w' => e = .returned (.bool true) ∧ Below w.heap.size w w' := by
  obtain ⟨ls, rfl⟩ := offers_of_rows hfl
  rw [List.length_map] at hl ⊢
  exact lawDownhill ⟨⟨q1, q2⟩, ⟨q3, q4⟩, q5⟩ ⟨t1, t2⟩ a cap ls w (offers_at hr) (by omega)
theorem pRestart  : Calls Try.prog 10 #[.agg #[.int .i64 q1, .int .i64 q2, .int .i64 q3, .int .i64 q4, .int .i64 q5], .slice a css.length cap] w fun e w' => e = .returned (.bool true) ∧ Below w.heap.size w w' := by
  obtain ⟨ls, rfl⟩ := offers_of_rows hfl
  rw [List.length_map] at hl ⊢
  exact lawRestart ⟨⟨q1, q2⟩, ⟨q3, q4⟩, q5⟩ a cap ls w (offers_at hr) (by omega)
end
theorem pOrder (a1 a2 b1 b2 c1 c2 r1 r2 r3 r4 r5 s1 s2 s3 s4 s5 : Int) (w : World) : Calls Try.prog 4 #[.agg #[.int .i64 a1, .int .i64 a2], .agg #[.int .i64 b1, .int .i64 b2], .agg #[.int .i64 c1, .int .i64 c2], .agg #[.int .i64 r1, .int .i64 r2, .int .i64 r3, .int .i64 r4, .int .i64 r5], .agg #[.int .i64 s1, .int .i64 s2, .int .i64 s3, .int .i64 s4, .int .i64 s5]] w fun e w' => e = .returned (.bool true) ∧ Below w.heap.size w w' :=
  lawOrder ⟨a1, a2⟩ ⟨b1, b2⟩ ⟨c1, c2⟩ ⟨⟨r1, r2⟩, ⟨r3, r4⟩, r5⟩ ⟨⟨s1, s2⟩, ⟨s3, s4⟩, s5⟩ w
end Go.Proofs.Ytbonchnhngaicaa
