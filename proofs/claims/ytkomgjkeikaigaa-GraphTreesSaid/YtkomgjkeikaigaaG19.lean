/- Proved: how a table of truth values that came in lies in memory. Conditions: none. -/
import Derived.Test.YtkomgjkeikaigaaG17
namespace Go.Proofs.Ytkomgjkeikaigaa
open Go.RowKit
set_option linter.unusedVariables false
theorem bools_of_rows : ∀ {css : List (List Value)}, (∀ cs ∈ css, Flat [none] cs) → ∃ bs : List Bool, css = bs.map (fun b => [Value.bool b])
  | [], _ => ⟨[], rfl⟩
  | cs :: css, h => by
    obtain ⟨bs, h1⟩ := bools_of_rows (css := css) fun c hc => h c (List.mem_cons_of_mem _ hc)
    obtain ⟨hl, hk⟩ := h cs List.mem_cons_self
    obtain ⟨v, hv, b, hb'⟩ := hk 0 none rfl
    match cs, hl with
    | [c], _ =>
      simp at hv
      subst hv hb'
      exact ⟨b :: bs, by simp [h1]⟩
theorem boolsAt_of {w : World} {a : Option Addr} {bs : List Bool} (h : RowAt w a 1 (bs.map (fun b => [Value.bool b]))) : BoolsAt w a bs := by
  rcases h with h | ⟨b, off, ha, h⟩
  · exact .inl (List.map_eq_nil_iff.1 h)
  · refine .inr ⟨b, off, ha, fun j hj => ?_⟩
    have := h j [.bool (bs.getD j false)] (by rw [List.getElem?_map, List.getElem?_eq_getElem hj, List.getD_eq_getElem?_getD, List.getElem?_eq_getElem hj]; rfl) 0 _ rfl
    simpa using this
section
variable {H : Type} {enc : TypeId × Value → H} {P : Program} {w : World} {base : Nat} {spare : Nat → Bool} {held : Bool}
theorem bools_of_cells {n fuel : Nat} {t e : TypeId} {cs : List Value} {x : DataW H × List MemPlace} (ht : P.underlying t = some (.slice e)) (hk : flatK P n e = some [none]) (hc : P.cellsOf e = 1)
    (h : DataW.trod enc P w base spare held fuel t cs = some x) : ∃ (a : Option Addr) (cap : Nat) (bs : List Bool), cs = [.slice a bs.length cap] ∧ BoolsAt w a bs ∧ bs.length ≤ maxLen := by
  have key : ∀ a len cap, cs = [.slice a len cap] → ∃ (a : Option Addr) (cap : Nat) (bs : List Bool), cs = [.slice a bs.length cap] ∧ BoolsAt w a bs ∧ bs.length ≤ maxLen := fun a len cap hcs => by
    subst hcs
    obtain ⟨css, h1, h2, h3, h4, h5⟩ := row_of_trod (n := n) (ks := [none]) (a := a) (len := len) (cap := cap) (d := x.1) (p := x.2) ht hk hc (by decide) ⟨fuel, h⟩
    obtain ⟨bs, rfl⟩ := bools_of_rows h4
    rw [List.length_map] at h1
    subst h1
    exact ⟨a, cap, bs, rfl, boolsAt_of h5, by omega⟩
  rcases DataW.trod_slice ht h with ⟨h0, _⟩ | ⟨ad, l, c, elems, rest, m, _, h0, _⟩
  · exact key none 0 0 h0
  · exact key (some ad) l c h0
theorem tab_of_trod {n : Nat} {t e e2 : TypeId} {a : Option Addr} {len cap : Nat} {d : DataW H} {p : List MemPlace} (ht : P.underlying t = some (.slice e)) (he : P.underlying e = some (.slice e2)) (hk : flatK P n e2 = some [none]) (hc : P.cellsOf e = 1) (hc2 : P.cellsOf e2 = 1)
    (h : DataW.Trod enc P w base spare held t (.slice a len cap) d p) : ∃ tab : Tab, tab.length = len ∧ len ≤ cap ∧ cap ≤ maxLen ∧ TabAt w a tab := by
  obtain ⟨fuel, hf⟩ := h
  rcases DataW.trod_slice ht hf with ⟨h0, _⟩ | ⟨ad, l, c, elems, rest, m, _, h0, _, _, hl, hm, hlen, hel, _, _⟩
  · simp [Value.cells] at h0
    obtain ⟨rfl, rfl, rfl⟩ := h0
    exact ⟨[], rfl, Nat.le_refl _, by simp [maxLen], .inl rfl⟩
  · simp [Value.cells] at h0
    obtain ⟨rfl, rfl, rfl⟩ := h0
    have each : ∀ i, i < len → ∃ bs : List Bool, ∃ ra rc, w.cells? base (ad.add (i * 1)) 1 = some [.slice ra bs.length rc] ∧ BoolsAt w ra bs ∧ bs.length ≤ maxLen := fun i hi => by
      have h1 := hel i hi
      rw [List.getElem?_eq_getElem (by omega), Option.bind_eq_some_iff] at h1
      obtain ⟨cs, hcs, hx⟩ := h1
      rw [hc] at hcs
      obtain ⟨ra, rc, bs, rfl, h2, h3⟩ := bools_of_cells he hk hc2 hx
      exact ⟨bs, ra, rc, hcs, h2, h3⟩
    let f : Nat → List Bool := fun i => if h : i < len then (each i h).choose else []
    have hf' : ∀ i (hi : i < len), f i = (each i hi).choose := fun i hi => by simp only [f, hi, dite_true]
    refine ⟨(List.range len).map f, by simp, hl, hm, ?_⟩
    by_cases h0 : len = 0
    · left; subst h0; rfl
    · right
      obtain ⟨b, off, spot⟩ := ad
      have hspot : spot = none := by
        obtain ⟨ra, rc, h1, _⟩ := (each 0 (by omega)).choose_spec
        have h2 := cell_of_cells (j := 0) h1 rfl
        simpa [Addr.add] using World.cell?_spot h2
      subst hspot
      refine ⟨b, off, rfl, fun i hi => ?_⟩
      have hi' : i < len := by simpa using hi
      have hg : ((List.range len).map f).getD i [] = (each i hi').choose := by
        rw [List.getD_eq_getElem?_getD, List.getElem?_map, List.getElem?_range hi', ← hf' i hi']; rfl
      rw [hg]
      obtain ⟨ra, rc, h1, h2, h3⟩ := (each i hi').choose_spec
      refine ⟨ra, rc, ?_, h2, h3⟩
      have h4 := cell_of_cells (j := 0) h1 rfl
      have e5 : (⟨b, off, none⟩ : Addr).add (i * 1 + 0) = ⟨b, off + i, none⟩ := by rw [Nat.mul_one, Nat.add_zero, Go.WideShapes.add_plain]
      exact (congrArg w.cell? e5.symm).trans h4
end
/-! ### the laws, for what came in -/
theorem pLoops (a : Option Addr) (cap : Nat) (zs : List Int) (w : World) (h : IntsAt .i64 w a zs) (hm : zs.length ≤ maxLen) : Calls Try.prog 4 #[.slice a zs.length cap] w fun e w' => e = .returned (.bool true) ∧ Below w.heap.size w w' := lawLoops zs a cap w h hm
theorem pNoLoops (a : Option Addr) (cap : Nat) (zs : List Int) (a2 : Option Addr) (cap2 : Nat) (zs2 : List Int) (w : World) (h : IntsAt .i64 w a zs) (hm : zs.length ≤ maxLen) (h2 : IntsAt .i64 w a2 zs2) (hm2 : zs2.length ≤ maxLen) : Calls Try.prog 5 #[.slice a zs.length cap, .slice a2 zs2.length cap2] w fun e w' => e = .returned (.bool true) ∧ Below w.heap.size w w' := lawNoLoops zs zs2 a a2 cap cap2 w h h2 hm hm2
theorem pReaching (a : Option Addr) (cap : Nat) (zs : List Int) (r : Int) (w : World) (h : IntsAt .i64 w a zs) (hm : zs.length ≤ maxLen) : Calls Try.prog 8 #[.slice a zs.length cap, .int .i64 r] w fun e w' => e = .returned (.bool true) ∧ Below w.heap.size w w' := lawReaching zs r a cap w h hm
theorem pMatches (a : Option Addr) (cap : Nat) (tab : Tab) (a2 : Option Addr) (cap2 : Nat) (zs : List Int) (r : Int) (w : World) (h : TabAt w a tab) (hm : tab.length ≤ maxLen) (h2 : IntsAt .i64 w a2 zs) (hm2 : zs.length ≤ maxLen) : Calls Try.prog 3 #[.slice a tab.length cap, .slice a2 zs.length cap2, .int .i64 r] w fun e w' => e = .returned (.bool true) ∧ Below w.heap.size w w' := lawMatches tab a a2 cap cap2 zs r w h h2 hm hm2
theorem pDepths (a : Option Addr) (cap : Nat) (tab : Tab) (r : Int) (w : World) (h : TabAt w a tab) (hm : tab.length ≤ maxLen) : Calls Try.prog 6 #[.slice a tab.length cap, .int .i64 r] w fun e w' => e = .returned (.bool true) ∧ Below w.heap.size w w' := lawDepths tab a cap r w h hm
theorem pIslands (a : Option Addr) (cap : Nat) (tab : Tab) (w : World) (h : TabAt w a tab) (hm : tab.length ≤ maxLen) : Calls Try.prog 7 #[.slice a tab.length cap] w fun e w' => e = .returned (.bool true) ∧ Below w.heap.size w w' := lawIslands tab a cap w h hm
end Go.Proofs.Ytkomgjkeikaigaa
