/- Proved: the walk of the law about impostors in the words of the given rows. Conditions: the arguments lie in memory; the table of steps lies where it lay. -/
import Derived.Test.YtgmabjlehjpboaaDoorT30
namespace Go.Proofs.YtgmabjlehjpboaaDoor
open Go.RowKit Go.Sort Go.BigFrame Go.Proofs.YtgmabjlehjpboaaDoor.K
set_option linter.unusedVariables false
set_option linter.unusedSimpArgs false
attribute [local go_sem] cell_alloc_old

open Go.Maps Go.Shelf
theorem list8 {α : Type} {l : List α} (h : l.length = 8) : ∃ a b c d e f g i, l = [a, b, c, d, e, f, g, i] := by
  match l, h with | [a, b, c, d, e, f, g, i], _ => exact ⟨a, b, c, d, e, f, g, i, rfl⟩
abbrev wdK : List CK := [some .i64, some .i64, some .i64, some .i64, some .i64, some .i64, some .i64, some .i64]
theorem wd_of {cs : List Value} (h : Flat wdK cs) : ∃ x : Wd, cs = x.cs := by
  obtain ⟨hl, hk⟩ := h
  obtain ⟨a, b, c, d, e, f, g, i, rfl⟩ := list8 hl
  have key : ∀ (j : Nat) (v : Value), [a, b, c, d, e, f, g, i][j]? = some v → wdK[j]? = some (some .i64) → ∃ n : Int, v = .int .i64 n := fun j v hv hkj => by
    obtain ⟨v', h1, n, h2, _⟩ := hk j (some .i64) hkj
    rw [hv] at h1
    exact ⟨n, by rw [Option.some.inj h1]; exact h2⟩
  obtain ⟨n0, rfl⟩ := key 0 a rfl rfl
  obtain ⟨n1, rfl⟩ := key 1 b rfl rfl
  obtain ⟨n2, rfl⟩ := key 2 c rfl rfl
  obtain ⟨n3, rfl⟩ := key 3 d rfl rfl
  obtain ⟨n4, rfl⟩ := key 4 e rfl rfl
  obtain ⟨n5, rfl⟩ := key 5 f rfl rfl
  obtain ⟨n6, rfl⟩ := key 6 g rfl rfl
  obtain ⟨n7, rfl⟩ := key 7 i rfl rfl
  exact ⟨⟨n0, n1, n2, n3, n4, n5, n6, n7⟩, rfl⟩
theorem ws_of : ∀ {css : List (List Value)}, (∀ cs ∈ css, Flat wdK cs) → ∃ W : List Wd, css = W.map Wd.cs
  | [], _ => ⟨[], rfl⟩
  | cs :: css, h => by
    obtain ⟨W, hW⟩ := ws_of (css := css) fun c hc => h c (List.mem_cons_of_mem _ hc)
    obtain ⟨x, hx⟩ := wd_of (h cs List.mem_cons_self)
    exact ⟨x :: W, by rw [hW, hx]; rfl⟩
theorem wsAt_of {w : World} {a : Option Addr} {W : List Wd} (h : RowAt w a 8 (W.map Wd.cs)) : WsAt w a W := by
  rcases h with h | ⟨b, off, ha, h⟩
  · exact .inl (List.map_eq_nil_iff.1 h)
  · refine .inr ⟨b, off, ha, fun i hi j u hj => h i _ ?_ j u hj⟩
    rw [List.getElem?_map, List.getD_eq_getElem?_getD, List.getElem?_eq_getElem hi]; rfl
theorem imp_any (me ra rb : Int) (W : List Wd) (m cw : Nat) (aw : Option Addr) (zs : List Int) (ns cs : Nat) (sa : Option Addr) (w : World) (hTab : Tab w) (hm : Hid (m = W.length)) (hw : WsAt w aw W) (hs : Hid (ns = zs.length)) (hz : IntsAt .u8 w sa zs) (hwf : ∀ z ∈ zs, (Lit.int .u8 z).wf = true) (hns : ns ≤ maxLen) (hmm : m ≤ maxLen) :
    Calls Tryd.prog 4 #[.int .i64 me, .slice aw m cw, .slice sa ns cs, .agg #[.int .i64 ra, .int .i64 rb]] w (Ans (.bool true) w) := by
  by_cases hg : 60 < m
  · exact imp_a me ra rb W m cw aw zs ns cs sa w hTab hm hw hs hz hwf hns hmm hg
  · by_cases hn : ns < m
    · exact imp_b me ra rb W m cw aw zs ns cs sa w hTab hm hw hs hz hwf hns hmm hg hn
    · exact imp_c me ra rb W m cw aw zs ns cs sa w hTab hm hw hs hz hwf hns hmm hg hn
theorem pImp (me : Int) (aw : Option Addr) (cw : Nat) (css : List (List Value)) (sa : Option Addr) (cs : Nat) (zs : List Int) (ra rb : Int) (w : World)
    (w0 : (Lit.int .i64 me).wf = true) (hr : RowAt w aw 8 css) (hx : css.length ≤ maxLen) (hfl : ∀ c ∈ css, Flat wdK c) (hi : IntsAt .u8 w sa zs) (hx2 : zs.length ≤ maxLen) (hw2 : ∀ z ∈ zs, (Lit.int .u8 z).wf = true) (w1 : (Lit.int .i64 ra).wf = true) (w2 : (Lit.int .i64 rb).wf = true) (hT : Tab w) :
    Calls Tryd.prog 4 #[.int .i64 me, .slice aw css.length cw, .slice sa zs.length cs, .agg #[.int .i64 ra, .int .i64 rb]] w (Ans (.bool true) w) := by
  obtain ⟨W, rfl⟩ := ws_of hfl
  exact imp_any me ra rb W _ cw aw zs _ cs sa w hT (Lib.hid (by simp)) (wsAt_of hr) (Lib.hid rfl) hi hw2 hx2 hx
end Go.Proofs.YtgmabjlehjpboaaDoor
