/- Proved: what the enumeration of halves of states does with a round that says when it has enough, and what the first half is. Conditions: the table of steps holds its numbers; a state is not negative. -/
import Derived.Test.YtgmabjlehjpboaaDoorR1
import Derived.Test.YtgmabjlehjpboaaDoorRng
namespace Go.Proofs.YtgmabjlehjpboaaDoor
open Go.RowKit Go.Sort Go.BigFrame Go.Proofs.YtgmabjlehjpboaaDoor.K
set_option linter.unusedVariables false
set_option linter.unusedSimpArgs false
attribute [local go_sem] cell_alloc_old Oper.semAt_some

def stV (s : Int) : Nat → Int
  | 0 => s
  | k + 1 => nextV (stV s k)
theorem stV_bd {s : Int} (h : 0 ≤ s) : ∀ k, 0 ≤ stV s k
  | 0 => h
  | k + 1 => (nextV_bd _).1

theorem halves_any (s : Int) (w : World) :
    Calls Tryd.prog 65 #[.int .u64 s] w fun e w' => e = .returned (.func (.func 69) #[] #[.pointer (some ⟨w.heap.size, 0, none⟩)]) ∧ w.alloc (.cells #[.int .u64 s] 102) = w' := by
  go_enter Tryd.func65, Tryd.ntmps65
  go_wp2
  go_ret
  exact ⟨rfl, rfl⟩

/-- What the round must leave as it was. -/
def Kept (b : Nat) (x : Int) (W : World) : Prop := W.cell? ⟨b, 0, none⟩ = some (.int .u64 x) ∧ W.frozen? ⟨b, 0, none⟩ = false ∧ Tab W ∧ 0 < b

theorem Kept.below {b : Nat} {x : Int} {W W' : World} (h : Kept b x W) (hb : Below W.heap.size W W') : Kept b x W' :=
  ⟨keep1 hb h.1, keepF hb h.1 h.2.1, h.2.2.1.keep hb, h.2.2.2⟩
theorem Kept.set {b : Nat} {x y : Int} {W : World} (h : Kept b x W) : Kept b y (W.setCell ⟨b, 0, none⟩ (.int .u64 y)) := by
  obtain ⟨h1, h2, ⟨t0, t1, t2, t3, t4, t5⟩, h4⟩ := h
  have hb : ¬ b = 0 := by omega
  have hb' : ¬ 0 = b := by omega
  refine ⟨?_, ?_, ⟨?_, ?_, ?_, ?_, ?_, ?_⟩, h4⟩ <;> go_simp

set_option maxHeartbeats 2000000 in
theorem halves1 (m : Nat) (l b : Nat) (s : Int) (N : Nat) (J : Nat → World → Prop) (Jx : World → Prop) (h0 : 0 ≤ s)
    (hJ : ∀ k W W', J k W → Below W.heap.size W W' → J k W') (hS : ∀ k W v, J k W → J k (W.setCell ⟨b, 0, none⟩ v))
    (hY : ∀ k W, J k W → Kept b (stV s (k + 1)) W → k < N → YieldAt Fence.wide m Tryd.prog l #[.int .i64 (halfV (stV s (k + 1)))] W fun e W' =>
      (e = .returned (.bool true) ∧ J (k + 1) W' ∧ Kept b (stV s (k + 1)) W' ∧ k + 1 < N) ∨ (e = .returned (.bool false) ∧ Jx W'))
    (W : World) (hN : 0 < N) (hW : J 0 W) (hK : Kept b s W) :
    CallsIn Fence.wide (m + 1) Tryd.prog 69 #[.func (.yield l) #[] #[], .pointer (some ⟨b, 0, none⟩)] W fun e W' => (∃ v, e = .returned v) ∧ Jx W' := by
  refine callsIn_of_wp Tryd.func69 rfl trivial ?_ rfl
  simp only [Tryd.ntmps69, List.size_toArray, List.length_cons, List.length_nil, Nat.reduceAdd, Nat.reduceSub, Array.replicate_succ, Array.replicate_zero, List.push_toArray, List.append_toArray, List.nil_append, List.cons_append]
  obtain ⟨c1, c2, c3, c4⟩ := hK
  gi_wp2_with fail
  refine ⟨trivial, ?_⟩
  refine (callsIn_wide.2 (next_any s _ h0 c3)).mono ?_
  rintro e W1 ⟨rfl, hb1⟩
  have hK1 : Kept b s W1 := Kept.below ⟨c1, c2, c3, c4⟩ hb1
  have hK2 : Kept b (stV s 1) (W1.setCell ⟨b, 0, none⟩ (.int .u64 (stV s 1))) := hK1.set
  have hJ2 : J 0 (W1.setCell ⟨b, 0, none⟩ (.int .u64 (stV s 1))) := hS 0 _ _ (hJ 0 _ _ hW hb1)
  obtain ⟨d1, d2, d3, d4⟩ := hK1
  clear c1 c2 c3 hW hb1
  gi_wp2_with fail
  refine wpIn_loop_rounds N ?_
  have hst1 : stV s 1 = nextV s := rfl
  rw [hst1] at hK2 hJ2
  obtain ⟨V, hV⟩ : ∃ V, V = W1.setCell ⟨b, 0, none⟩ (.int .u64 (nextV s)) := ⟨_, rfl⟩
  rw [← hV] at hK2 hJ2 ⊢
  clear hV d1 d2 d3 hst1
  refine (?key : ∀ (r k : Nat) (W : World) (x3 x4 x5 x6 x7 x8 x9 x10 x11 : Value), k + r = N → 0 < r → J k W → Kept b (stV s (k + 1)) W →
    Code.roundsIn _ _ _ _ _ r { tmps := #[.func (.yield l) #[] #[], .pointer (some ⟨b, 0, none⟩), undef, x3, x4, x5, x6, x7, x8, x9, x10, x11], defers := [] } W) N 0 V _ _ _ _ _ _ _ _ _ (Nat.zero_add _) hN hJ2 hK2
  intro r
  induction r with
  | zero => intro k W _ _ _ _ _ _ _ _ _ _ hr; omega
  | succ r ih =>
    intro k W x3 x4 x5 x6 x7 x8 x9 x10 x11 hkr _ hJk hKk
    have hy := hY k W hJk hKk (by omega)
    have hs0 := stV_bd h0 (k + 1)
    have hs1 : stV s (k + 1) ≤ 18446744073709551615 := (nextV_bd _).2
    have hs2 : stV s (k + 1 + 1) = nextV (stV s (k + 1)) := rfl
    have HS2 := Lib.hid hs2; clear hs2
    obtain ⟨x, hx⟩ : ∃ x, x = stV s (k + 1) := ⟨_, rfl⟩
    rw [← hx] at hy hs0 hs1 hKk HS2
    have HX := Lib.hid hx; clear hx
    have e : wrap64 (x / 4294967296) = halfV x := by rw [IntWalk.wrap64_in _ (by omega)]; rfl
    obtain ⟨v, hv⟩ : ∃ v, v = halfV x := ⟨_, rfl⟩
    rw [← hv] at hy e
    obtain ⟨c1, c2, c3, c4⟩ := hKk
    obtain ⟨fn, tmps, assign, body, hyr, hR⟩ := hy
    rw [roundsIn_succ]
    clear hs1
    have HIH := Lib.hid ih; have HHS := Lib.hid hS; have HHJ := Lib.hid hJ; have HHY := Lib.hid hY; have HV := Lib.hid hv
    clear ih hS hJ hY hv
    gi_wp2_with fail
    refine hR.mono ?_
    rintro e W' (⟨rfl, hJ', hK', hlt⟩ | ⟨rfl, hx⟩)
    · obtain ⟨q1, q2, q3, q4⟩ := hK'
      gi_wp2_with fail
      refine ⟨trivial, ?_⟩
      refine (callsIn_wide.2 (next_any x _ hs0 q3)).mono ?_
      rintro e W2 ⟨rfl, hb2⟩
      have hK3 : Kept b x W2 := Kept.below ⟨q1, q2, q3, q4⟩ hb2
      have hK4 : Kept b (stV s (k + 1 + 1)) (W2.setCell ⟨b, 0, none⟩ (.int .u64 (stV s (k + 1 + 1)))) := hK3.set
      have hJ4 : J (k + 1) (W2.setCell ⟨b, 0, none⟩ (.int .u64 (stV s (k + 1 + 1)))) := HHS.out _ _ _ (HHJ.out _ _ _ hJ' hb2)
      rw [HS2.out] at hK4 hJ4
      obtain ⟨d1, d2, d3, d4⟩ := hK3
      clear c1 c2 c3 q1 q2 q3
      gi_wp2_with fail
      exact HIH.out (k + 1) _ _ _ _ _ _ _ _ _ _ (by omega) (by omega) hJ4 (by rw [HS2.out]; exact hK4)
    · gi_wp2
      go_end0
      exact ⟨⟨_, rfl⟩, hx⟩

set_option maxHeartbeats 2000000 in
theorem first_any (s : Int) (w : World) (h0 : 0 ≤ s) (hT : Tab w) :
    Calls Tryd.prog 60 #[.int .u64 s] w fun e w' => e = .returned (.int .i64 (halfV (nextV s))) ∧ Below w.heap.size w w' := by
  have hw0 : 0 < w.heap.size := World.block_lt_of_cell? _ _ hT.1
  refine (callsIn_wide (n := 3)).1 ?_
  refine callsIn_of_wp_marks Tryd.func60 rfl trivial ?_ rfl
  simp only [Tryd.ntmps60, List.size_toArray, List.length_cons, List.length_nil, Nat.reduceAdd, Nat.reduceSub, Array.replicate_succ, Array.replicate_zero, List.push_toArray, List.append_toArray, List.nil_append, List.cons_append]
  gi_wp2_with fail
  refine ⟨trivial, ?_⟩
  refine (callsIn_wide.2 (halves_any s _)).mono ?_
  rintro e w1 ⟨rfl, rfl⟩
  gi_wp2_with fail
  have c0 : ((w.alloc (.cells #[.int .i64 0] 3)).alloc (.cells #[.int .u64 s] 102)).cell? ⟨w.heap.size, 0, none⟩ = some (.int .i64 0) := old1 (by simp) _
  have f0 : ((w.alloc (.cells #[.int .i64 0] 3)).alloc (.cells #[.int .u64 s] 102)).frozen? ⟨w.heap.size, 0, none⟩ = false := by go_simp
  have c1 : ((w.alloc (.cells #[.int .i64 0] 3)).alloc (.cells #[.int .u64 s] 102)).cell? ⟨w.heap.size + 1, 0, none⟩ = some (.int .u64 s) := by simp
  have f1 : ((w.alloc (.cells #[.int .i64 0] 3)).alloc (.cells #[.int .u64 s] 102)).frozen? ⟨w.heap.size + 1, 0, none⟩ = false := by go_simp
  have B0 : Below w.heap.size w ((w.alloc (.cells #[.int .i64 0] 3)).alloc (.cells #[.int .u64 s] 102)) := ball (ball (Below.refl _ _) _) _
  have z0 : ((w.alloc (.cells #[.int .i64 0] 3)).alloc (.cells #[.int .u64 s] 102)).heap.size = w.heap.size + 2 := by simp
  obtain ⟨V, hV⟩ : ∃ V, V = (w.alloc (.cells #[.int .i64 0] 3)).alloc (.cells #[.int .u64 s] 102) := ⟨_, rfl⟩
  rw [← hV] at c0 f0 c1 f1 B0 z0 ⊢
  clear hV
  refine range_plain (gf := 69) (lb := #[.pointer (some ⟨w.heap.size + 1, 0, none⟩)]) rfl (enters_of Tryd.func69 (by kernel_rfl) rfl) ?_
  intro fn V1 rec hrec hD hL hB1 hz1
  obtain ⟨L, hLe⟩ : ∃ L, L = V.heap.size + 1 := ⟨_, rfl⟩
  obtain ⟨D, hDe⟩ : ∃ D, D = V.heap.size := ⟨_, rfl⟩
  rw [← hLe] at hL ⊢
  have B1 := bstep B0 hB1
  have c0 := keep1 hB1 c0
  have c1 := keep1 hB1 c1
  have f0 : V1.frozen? ⟨w.heap.size, 0, none⟩ = false := (hB1.frozen (p := ⟨w.heap.size, 0, none⟩) (by rw [z0]; simp only; omega)).trans f0
  have f1 : V1.frozen? ⟨w.heap.size + 1, 0, none⟩ = false := (hB1.frozen (p := ⟨w.heap.size + 1, 0, none⟩) (by rw [z0]; simp only; omega)).trans f1
  have hT1 := hT.keep B1
  rw [← hDe] at hD hrec ⊢
  have hDL : L = D + 1 := by omega
  have hDw : D = w.heap.size + 2 := by omega
  clear hLe hDe z0 hB1 B0
  refine CallsIn.mono (halves1 1 L (w.heap.size + 1) s 1
    (fun k W => k = 0 ∧ Below w.heap.size w W ∧ W.heap[D]? = some (.deferred (some [])) ∧ W.heap[L]? = some (.loop (rec .ready none)) ∧ W.cell? ⟨w.heap.size, 0, none⟩ = some (.int .i64 0) ∧ W.frozen? ⟨w.heap.size, 0, none⟩ = false)
    (fun W => Below w.heap.size w W ∧ W.heap[D]? = some (.deferred (some [])) ∧ W.heap[L]? = some (.loop (rec .done (some .ret))) ∧ W.cell? ⟨w.heap.size, 0, none⟩ = some (.int .i64 (halfV (nextV s))))
    h0 ?_ ?_ ?_ V1 (by omega) ⟨rfl, B1, hD, hL, c0, f0⟩ ⟨c1, f1, hT1, by omega⟩) ?_
  · rintro k W W' ⟨rfl, hb, hd, hl, hc, hf⟩ hbb
    exact ⟨rfl, bstep hb hbb, (hbb.block _ (Array.getElem?_eq_some_iff.1 hd).1).trans hd, (hbb.block _ (Array.getElem?_eq_some_iff.1 hl).1).trans hl, keep1 hbb hc, keepF hbb hc hf⟩
  · rintro k W v ⟨rfl, hb, hd, hl, hc, hf⟩
    refine ⟨rfl, hb.setCell (p := ⟨w.heap.size + 1, 0, none⟩) (Nat.le_succ _) _, (Below.heap_setCell W ⟨w.heap.size + 1, 0, none⟩ v D (show D ≠ w.heap.size + 1 by omega)).trans hd, (Below.heap_setCell W ⟨w.heap.size + 1, 0, none⟩ v L (show L ≠ w.heap.size + 1 by omega)).trans hl, ?_, ?_⟩
    · exact (World.cell?_setCell_other W ⟨w.heap.size + 1, 0, none⟩ ⟨w.heap.size, 0, none⟩ v (fun h => by simp at h)).trans hc
    · rw [World.frozen?_setCell]; exact hf
  · rintro k W ⟨rfl, hb, hd, hl, hc, hf⟩ hK _
    refine round_plain hrec hl rfl ?_
    intro W2 hW2
    have hL2 : W2.heap[L]? = some (.loop (rec .busy none)) := by rw [hW2]; exact World.putObj_heap_same (Array.getElem?_eq_some_iff.1 hl).1
    have hD2 : W2.heap[D]? = some (.deferred (some [])) := by rw [hW2]; exact (World.putObj_heap_other (by omega)).trans hd
    have hB2 : Below w.heap.size w W2 := by rw [hW2]; exact putObj_below hb (by omega)
    have hc2 : W2.cell? ⟨w.heap.size, 0, none⟩ = some (.int .i64 0) := by rw [hW2]; exact (putObj_cell (by first | omega | (simp only; omega))).trans hc
    have hf2 : W2.frozen? ⟨w.heap.size, 0, none⟩ = false := by rw [hW2]; exact (putObj_frozen (by first | omega | (simp only; omega))).trans hf
    clear hW2
    simp only [List.zip_toArray, List.zip_cons_cons, List.zip_nil_right, List.foldl_toArray, List.foldl_cons, List.foldl_nil, List.setIfInBounds_toArray, List.set_cons_zero, List.set_cons_succ]
    have hb3 : Below w.heap.size w (W2.setCell ⟨w.heap.size, 0, none⟩ (.int .i64 (halfV (stV s 1)))) := hB2.setCell (by first | omega | (simp only; omega)) _
    have hL3 : (W2.setCell ⟨w.heap.size, 0, none⟩ (.int .i64 (halfV (stV s 1)))).heap[L]? = some (.loop (rec .busy none)) := (Below.heap_setCell W2 _ _ L (by first | omega | (simp only; omega))).trans hL2
    have hD3 : (W2.setCell ⟨w.heap.size, 0, none⟩ (.int .i64 (halfV (stV s 1)))).heap[D]? = some (.deferred (some [])) := (Below.heap_setCell W2 _ _ D (by first | omega | (simp only; omega))).trans hD2
    have hc3 : (W2.setCell ⟨w.heap.size, 0, none⟩ (.int .i64 (halfV (stV s 1)))).cell? ⟨w.heap.size, 0, none⟩ = some (.int .i64 (halfV (nextV s))) := World.cell?_setCell_same' _ _ _ (by rw [hc2]; rfl)
    have HDL := Lib.hid hDL; have HDw := Lib.hid hDw
    clear hDL hDw
    gi_wp2_with fail
    refine ⟨_, _, end_rec hrec (some .ret) hL3, rfl, putObj_below hb3 (by have := HDL.out; have := HDw.out; omega), ?_, ?_, ?_⟩
    · exact (World.putObj_heap_other (by have := HDL.out; omega)).trans hD3
    · exact World.putObj_heap_same (Array.getElem?_eq_some_iff.1 hL3).1
    · exact (putObj_cell (by have := HDL.out; have := HDw.out; first | omega | (simp only; omega))).trans hc3
  · rintro e W' ⟨⟨v, rfl⟩, hb, hd, hl, hc⟩
    refine ⟨some .ret, _, endLoop_rec hrec hl (by simp), ?_⟩
    have hd2 : (W'.putObj L (.loop (rec .exhausted (some .ret)))).heap[D]? = some (.deferred (some [])) := (World.putObj_heap_other (by omega)).trans hd
    have hb2 : Below w.heap.size w (W'.putObj L (.loop (rec .exhausted (some .ret)))) := putObj_below hb (by omega)
    have hc2 : (W'.putObj L (.loop (rec .exhausted (some .ret)))).cell? ⟨w.heap.size, 0, none⟩ = some (.int .i64 (halfV (nextV s))) := (putObj_cell (by first | omega | (simp only; omega))).trans hc
    have hc3 : ((W'.putObj L (.loop (rec .exhausted (some .ret)))).putObj D (.deferred none)).cell? ⟨w.heap.size, 0, none⟩ = some (.int .i64 (halfV (nextV s))) := (putObj_cell (by first | omega | (simp only; omega))).trans hc2
    have hb3 := putObj_below (o := .deferred none) hb2 (show w.heap.size ≤ D by omega)
    have HDL := Lib.hid hDL; have HDw := Lib.hid hDw
    clear hDL hDw
    gi_wp2
    refine ⟨by simp, .inl ⟨_, _, rfl, run_takeDeferred hd2, ?_⟩⟩
    refine ⟨.int .i64 (halfV (nextV s)), ?_, rfl, hb3⟩
    simp [results, Tryd.results60, go_sem, hc3]
end Go.Proofs.YtgmabjlehjpboaaDoor
