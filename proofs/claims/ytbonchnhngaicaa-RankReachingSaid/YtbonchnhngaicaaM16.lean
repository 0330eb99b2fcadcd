/- Proved: the law RankLoops for moves as the given statements lay them in memory. Conditions: the list lies there. -/
import Derived.Test.YtbonchnhngaicaaM15
import Derived.Test.YtbonchnhngaicaaX18
namespace Go.Proofs.Ytbonchnhngaicaa
open Go.RowKit
set_option linter.unusedVariables false

abbrev OK5 : List CK := [some .u8, some .u8, some .u8, some .u8, some .u16]
theorem move_of {cs : List Value} (h : Flat OK5 cs) : ∃ x : Mv, cs = x.cs ∧ x.ok := by
  obtain ⟨hl, hk⟩ := h
  obtain ⟨u, v, z, y, t, rfl⟩ := list5 (l := cs) hl
  obtain ⟨_, e, p, rfl, w0⟩ := hk 0 _ rfl
  simp at e; subst e
  obtain ⟨_, e, s, rfl, w1⟩ := hk 1 _ rfl
  simp at e; subst e
  obtain ⟨_, e, g, rfl, w2⟩ := hk 2 _ rfl
  simp at e; subst e
  obtain ⟨_, e, q, rfl, w3⟩ := hk 3 _ rfl
  simp at e; subst e
  obtain ⟨_, e, r, rfl, w4⟩ := hk 4 _ rfl
  simp at e; subst e
  exact ⟨⟨p, s, g, q, r⟩, rfl, ⟨(u8_bd w0).1, (u8_bd w0).2, (u8_bd w1).1, (u8_bd w1).2, (u8_bd w2).1, (u8_bd w2).2, (u8_bd w3).1, (u8_bd w3).2, (u16_bd w4).1, (u16_bd w4).2⟩⟩
theorem moves_of_rows : ∀ {css : List (List Value)}, (∀ cs ∈ css, Flat OK5 cs) → ∃ ls : List Mv, css = ls.map Mv.cs ∧ ∀ x ∈ ls, x.ok
  | [], _ => ⟨[], rfl, fun _ h => by cases h⟩
  | cs :: css, h => by
    obtain ⟨x, rfl, hx⟩ := move_of (h cs List.mem_cons_self)
    obtain ⟨ls, rfl, hls⟩ := moves_of_rows (css := css) fun c hc => h c (List.mem_cons_of_mem _ hc)
    exact ⟨x :: ls, rfl, fun y hy => by
      rcases List.mem_cons.1 hy with rfl | hy
      · exact hx
      · exact hls y hy⟩
theorem moves_at {w : World} {a : Option Addr} {ls : List Mv} (h : RowAt w a 5 (ls.map Mv.cs)) : MvAt w a ls := by
  rcases h with h | ⟨b, off, ha, h⟩
  · exact .inl (List.map_eq_nil_iff.1 h)
  · refine .inr ⟨b, off, ha, fun i hi j u hj => ?_⟩
    have e : ls.getD i default = ls[i] := by rw [List.getD_eq_getElem?_getD, List.getElem?_eq_getElem hi]; rfl
    have hi' : (ls.map Mv.cs)[i]? = some (ls[i]).cs := by rw [List.getElem?_map, List.getElem?_eq_getElem hi]; rfl
    rw [e] at hj
    exact h i _ hi' j _ hj
theorem pLoops (nd : Int) (hnd : (Lit.int .u8 nd).wf = true) (a : Option Addr) (cap : Nat) (css : List (List Value)) (w : World) (hr : RowAt w a 5 css) (hfl : ∀ cs ∈ css, Flat OK5 cs) :
    Calls Try.prog 8 #[.int .u8 nd, .slice a css.length cap] w fun e w' => e = .returned (.bool true) ∧ Below w.heap.size w w' := by
  obtain ⟨ls, rfl, hls⟩ := moves_of_rows hfl
  rw [List.length_map]
  exact lawLoops nd (u8_bd hnd).1 (u8_bd hnd).2 a cap ls w (moves_at hr) hls
end Go.Proofs.Ytbonchnhngaicaa
