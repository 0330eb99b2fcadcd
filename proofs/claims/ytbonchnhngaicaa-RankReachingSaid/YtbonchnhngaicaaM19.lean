/- Proved: the law RankReaching for moves and links as the given statements lay them in memory. Conditions: the lists lie there. -/
import Derived.Test.YtbonchnhngaicaaM18
import Derived.Test.YtbonchnhngaicaaM16
namespace Go.Proofs.Ytbonchnhngaicaa
open Go.RowKit
set_option linter.unusedVariables false

abbrev OK2 : List CK := [some .u8, some .u8]
theorem link_of {cs : List Value} (h : Flat OK2 cs) : ∃ x : Lnk, cs = x.cs ∧ x.ok := by
  obtain ⟨hl, hk⟩ := h
  obtain ⟨u, v, rfl⟩ := list2 (l := cs) hl
  obtain ⟨_, e, p, rfl, w0⟩ := hk 0 _ rfl
  simp at e; subst e
  obtain ⟨_, e, s, rfl, w1⟩ := hk 1 _ rfl
  simp at e; subst e
  exact ⟨⟨p, s⟩, rfl, ⟨(u8_bd w0).1, (u8_bd w0).2, (u8_bd w1).1, (u8_bd w1).2⟩⟩
theorem links_of_rows : ∀ {css : List (List Value)}, (∀ cs ∈ css, Flat OK2 cs) → ∃ ls : List Lnk, css = ls.map Lnk.cs ∧ ∀ x ∈ ls, x.ok
  | [], _ => ⟨[], rfl, fun _ h => by cases h⟩
  | cs :: css, h => by
    obtain ⟨x, rfl, hx⟩ := link_of (h cs List.mem_cons_self)
    obtain ⟨ls, rfl, hls⟩ := links_of_rows (css := css) fun c hc => h c (List.mem_cons_of_mem _ hc)
    exact ⟨x :: ls, rfl, fun y hy => by
      rcases List.mem_cons.1 hy with rfl | hy
      · exact hx
      · exact hls y hy⟩
theorem links_at {w : World} {a : Option Addr} {ls : List Lnk} (h : RowAt w a 2 (ls.map Lnk.cs)) : LnAt w a ls := by
  rcases h with h | ⟨b, off, ha, h⟩
  · exact .inl (List.map_eq_nil_iff.1 h)
  · refine .inr ⟨b, off, ha, fun i hi j u hj => ?_⟩
    have e : ls.getD i default = ls[i] := by rw [List.getD_eq_getElem?_getD, List.getElem?_eq_getElem hi]; rfl
    have hi' : (ls.map Lnk.cs)[i]? = some (ls[i]).cs := by rw [List.getElem?_map, List.getElem?_eq_getElem hi]; rfl
    rw [e] at hj
    exact h i _ hi' j _ hj
theorem lawReaching (nd : Int) (h0 : 0 ≤ nd) (h1 : nd ≤ 255) (a : Option Addr) (cap : Nat) (l : List Mv) (a2 : Option Addr) (cap2 : Nat) (ll : List Lnk) (w : World) (hl : MvAt w a l) (hll : LnAt w a2 ll) (hok : ∀ x ∈ l, x.ok) (hok2 : ∀ x ∈ ll, x.ok) :
    Calls Try.prog 9 #[.int .u8 nd, .slice a l.length cap, .slice a2 ll.length cap2] w (Yes true w) := by
  cases h100 : decide ((100 : Int) < (l.length : Int))
  · cases h30 : decide ((30 : Int) < (ll.length : Int))
    · exact reach_2 nd h0 h1 _ a cap l _ a2 cap2 ll w (Lib.hid rfl) hl (Lib.hid rfl) hll (Lib.hid hok) (Lib.hid hok2) h100 h30
    · exact reach_1 nd h0 h1 _ a cap l _ a2 cap2 ll w (Lib.hid rfl) hl (Lib.hid rfl) hll h100 h30
  · exact reach_0 nd h0 h1 _ a cap l _ a2 cap2 ll w (Lib.hid rfl) hl (Lib.hid rfl) hll h100
theorem pReaching (nd : Int) (hnd : (Lit.int .u8 nd).wf = true) (a : Option Addr) (cap : Nat) (css : List (List Value)) (a2 : Option Addr) (cap2 : Nat) (css2 : List (List Value)) (w : World) (hr : RowAt w a 5 css) (hfl : ∀ cs ∈ css, Flat OK5 cs) (hr2 : RowAt w a2 2 css2) (hfl2 : ∀ cs ∈ css2, Flat OK2 cs) :
    Calls Try.prog 9 #[.int .u8 nd, .slice a css.length cap, .slice a2 css2.length cap2] w fun e w' => e = .returned (.bool true) ∧ Below w.heap.size w w' := by
  obtain ⟨ls, rfl, hls⟩ := moves_of_rows hfl
  obtain ⟨ks, rfl, hks⟩ := links_of_rows hfl2
  rw [List.length_map, List.length_map]
  exact lawReaching nd (u8_bd hnd).1 (u8_bd hnd).2 a cap ls a2 cap2 ks w (moves_at hr) (links_at hr2) hls hks
end Go.Proofs.Ytbonchnhngaicaa
