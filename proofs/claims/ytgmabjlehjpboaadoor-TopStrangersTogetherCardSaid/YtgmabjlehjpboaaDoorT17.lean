/- Proved: what a sponsor's table lists. Conditions: those that each theorem names. -/
import Derived.Test.YtgmabjlehjpboaaDoorT16
namespace Go.Proofs.YtgmabjlehjpboaaDoor
open Go.RowKit Go.Sort Go.BigFrame Go.Proofs.YtgmabjlehjpboaaDoor.K
set_option linter.unusedVariables false
set_option linter.unusedSimpArgs false
attribute [local go_sem] cell_alloc_old

open Go.Maps Go.Shelf
/-- A list of half-open joins is returned. -/
def HalvesPost (L : List Hf) (w : World) (e : Ending) (w' : World) : Prop := ∃ a m c, e = .returned (.slice a m c) ∧ Hid (m = L.length) ∧ HsAt w' a L ∧ Below w.heap.size w w' ∧ Fresh w.heap.size a
theorem find_at {l : List Hf} (hs : l.Pairwise fun x y => x.s < y.s) {k : Nat} (hk : k < l.length) : findL l (l.getD k default).s = some (l.getD k default) := by
  unfold findL
  rw [List.find?_eq_some_iff_getElem]
  refine ⟨by simp, k, hk, by simp [List.getD_eq_getElem?_getD, hk], fun j hj => ?_⟩
  have := List.pairwise_iff_getElem.1 hs j k (by omega) hk hj
  simp [List.getD_eq_getElem?_getD, hk]; omega
theorem take_snoc {α : Type} [Inhabited α] {l : List α} {k : Nat} (hk : k < l.length) : l.take (k + 1) = l.take k ++ [l.getD k default] := by
  rw [List.take_add_one, List.getElem?_eq_getElem hk, List.getD_eq_getElem?_getD, List.getElem?_eq_getElem hk]; rfl
set_option maxRecDepth 100000 in
set_option maxHeartbeats 4000000 in
theorem list_at (b n : Nat) (l : List Hf) (w : World) (h : TabH w b n l) (hs : l.Pairwise fun x y => x.s < y.s) (hl : l.length ≤ 60) (hi : ∀ h ∈ l, I64 h.s) : Calls Tryd.prog 34 #[.map (some b)] w (HalvesPost l w) := by
  obtain ⟨i0, hi0, hz0, hz1, hz2⟩ := info_parts info70
  have HS := Lib.hid hs; clear hs
  have HI := Lib.hid hi; clear hi
  obtain ⟨q, hq⟩ : ∃ q, q = l.length := ⟨_, rfl⟩
  rw [← hq] at hl
  have HQ := Lib.hid hq; clear hq
  go_enter Tryd.func34, Tryd.ntmps34
  go_wp2_with fail
  refine (keys_at b w).mono ?_
  rintro e w' ⟨rfl, rfl⟩
  go_wp2_with fail
  refine (sorted_at b n l w h HS.out (by rw [← HQ.out]; exact hl)).mono ?_
  rintro e w1 ⟨v, rfl, hown, b1⟩
  obtain ⟨ka, kc, rfl, hints, _, _⟩ := hown.shape
  rw [List.length_map, ← HQ.out]
  have BB : Below w.heap.size w w1 := by
    refine (ball (Below.refl _ w) (.cells #[.map (some b)] 76)).trans (b1.mono (by simp))
  have hw1 : w.heap.size ≤ w1.heap.size := BB.size
  have hT : TabH w1 b n l := h.keep BB
  have HINT := Lib.hid hints
  clear hown hints b1
  go_wp2_with fail
  go_loopw [3, 10] (fun v i wr => ∃ k : Nat, k ≤ q ∧ i = .int .i64 k ∧ OwnG Hf.cs 70 6 wr w1.heap.size v (l.take k) ∧ Below w1.heap.size w1 wr) (fun _ i _ => q - (intOf i).toNat)
  case atStart => exact ⟨0, Nat.zero_le _, rfl, OwnG.nil _ _ _ _ _, Below.refl _ _⟩
  case round =>
    obtain ⟨k, hk, rfl, hown, B1⟩ := hrel
    by_cases hlt : k < q
    · have hlt' : (k : Int) < (q : Int) := by omega
      have hk0 : (0 : Int) ≤ (k : Int) := by omega
      have hwk : IntKind.i64.wrap ((k : Int) + 1) = (k : Int) + 1 := IntWalk.i64_in _ (by omega)
      have hkl : k < l.length := by rw [← HQ.out]; exact hlt
      have hsn := take_snoc hkl
      have hfi := find_at HS.out hkl
      have hsi : I64 (l.getD k default).s := HI.out _ (getD_mem hkl)
      have hlen : (l.take k).length ≤ k := by rw [List.length_take]; exact Nat.min_le_left _ _
      have c0 : ∃ b' off, ka = some ⟨b', off, none⟩ ∧ wr.cell? ⟨b', off + k, none⟩ = some (.int .i64 (l.getD k default).s) := by
        have hin := HINT.out.keep B1
        rcases hin with h0 | ⟨b', off, e, hc⟩
        · exact absurd (List.map_eq_nil_iff.1 h0) (fun e => by rw [e] at hkl; simp at hkl)
        · refine ⟨b', off, e, ?_⟩
          rw [hc k (by rw [List.length_map]; exact hkl)]
          simp [List.getD_eq_getElem?_getD, hkl]
      obtain ⟨b', off, e1, c0⟩ := c0
      have hlk := (hT.keep B1).look1 hsi
      rw [hfi] at hlk
      simp only [Option.getD_some] at hlk
      obtain ⟨x, hx⟩ : ∃ x, l.getD k default = x := ⟨_, rfl⟩
      rw [hx] at hsn hlk c0
      clear hx hfi hsi hkl
      subst e1
      obtain ⟨O, hO⟩ : ∃ O, l.take k = O := ⟨_, rfl⟩
      rw [hO] at hown hsn hlen
      clear hO
      have HL := Lib.hid hlen; clear hlen
      have HN := Lib.hid hsn; clear hsn
      go_wp2_with (first
        | (at_builtin; refine wpList_append_own _ rfl _ _ 24 rfl w1.heap.size 70 i0 _ 6 48 Tryd.underlying24 hi0 hz0 hz1 hz2 rfl (by decide) _ _ _ rfl (World.ownsRow.alloc hown _) ⟨wr.heap.size, 0, none⟩ 1 1 x.cs rfl rfl (flat_new _ _ _) (hf_one _) (by have := HL.out; unfold maxLen; omega) (by have := HL.out; omega) (by have := B1.size; simp; omega) ?_; intro v' w4 hown' hgrow _))
      have hB4 := OwnG.grown B1 hown (Nat.le_refl _) hgrow
      have hown2 := OwnG.push hown'
      rw [← HN.out] at hown2
      clear hown' hgrow
      go_wp2_with fail
      go_roundw
      case rel => exact ⟨k + 1, by omega, by go_num, hown2, hB4⟩
      case measure => simp [intOf]; omega
    · have hkn : k = q := by omega
      subst hkn
      have hlt' : ¬ (k : Int) < (k : Int) := by omega
      have hall : l.take k = l := by rw [HQ.out]; exact List.take_length
      rw [hall] at hown
      clear hall
      go_wp2_with fail
      go_ret
      obtain ⟨a', c', rfl, hat⟩ := hown.hs
      exact ⟨_, _, _, rfl, Lib.hid rfl, hat, bstep BB B1, hown.fresh.le hw1⟩
end Go.Proofs.YtgmabjlehjpboaaDoor
