/- Proved: what rank.areOffers returns. Conditions: the list lies in memory. -/
import Derived.Test.YtbonchnhngaicaaX5
namespace Go.Proofs.Ytbonchnhngaicaa
open Go.RowKit Go.Sort Go.BigFrame
set_option linter.unusedVariables false
set_option linter.unusedSimpArgs false
attribute [local go_sem] cell_alloc_old

/-- The marks of the peers of the first offers. -/
def SeenAt (w : World) (b : Nat) (l : List Ofr) (k : Nat) : Prop := ∀ q : Nat, q < 60 → w.cell? ⟨b, q, none⟩ = some (.bool (!freeTo l q k))
theorem SeenAt.keep {w w' : World} {b : Nat} {l : List Ofr} {k : Nat} (h : SeenAt w b l k) (hb : Below w.heap.size w w') : SeenAt w' b l k := fun q hq => keep1 hb (h q hq)
theorem SeenAt.next {w : World} {b : Nat} {l : List Ofr} {k q : Nat} (h : SeenAt w b l k) (hp : (l.getD k default).p = (q : Int)) (hq : q < 60) : SeenAt (w.setCell ⟨b, q, none⟩ (.bool true)) b l (k + 1) := fun i hi => by
  by_cases e : i = q
  · subst e
    rw [World.cell?_setCell_same' _ _ _ (by rw [h i hi]; rfl), freeTo, hp]
    simp
  · rw [World.cell?_setCell_other _ _ _ _ (fun he => e (congrArg Addr.off he).symm), h i hi, freeTo, hp]
    have : decide ((q : Int) ≠ (i : Int)) = true := by simp; omega
    rw [this, Bool.and_true]

set_option maxRecDepth 100000 in
set_option maxHeartbeats 4000000 in
theorem areoffers_any (a : Option Addr) (cap : Nat) (l : List Ofr) (w : World) (hl : OfAt w a l) (hm : l.length ≤ maxLen) : Calls Try.prog 34 #[.slice a l.length cap] w (Yes (offsB l) w) := by
  unfold maxLen at hm
  obtain ⟨n, hn⟩ : ∃ n, n = l.length := ⟨_, rfl⟩
  unfold offsB
  rw [← hn] at hm ⊢
  have HN := Lib.hid hn; clear hn
  have BB : Below w.heap.size w (w.alloc (.cells #[.bool false, .bool false, .bool false, .bool false, .bool false, .bool false, .bool false, .bool false, .bool false, .bool false, .bool false, .bool false, .bool false, .bool false, .bool false, .bool false, .bool false, .bool false, .bool false, .bool false, .bool false, .bool false, .bool false, .bool false, .bool false, .bool false, .bool false, .bool false, .bool false, .bool false, .bool false, .bool false, .bool false, .bool false, .bool false, .bool false, .bool false, .bool false, .bool false, .bool false, .bool false, .bool false, .bool false, .bool false, .bool false, .bool false, .bool false, .bool false, .bool false, .bool false, .bool false, .bool false, .bool false, .bool false, .bool false, .bool false, .bool false, .bool false, .bool false, .bool false] 73)) := ball (Below.refl _ _) _
  have e60 : (#[.bool false, .bool false, .bool false, .bool false, .bool false, .bool false, .bool false, .bool false, .bool false, .bool false, .bool false, .bool false, .bool false, .bool false, .bool false, .bool false, .bool false, .bool false, .bool false, .bool false, .bool false, .bool false, .bool false, .bool false, .bool false, .bool false, .bool false, .bool false, .bool false, .bool false, .bool false, .bool false, .bool false, .bool false, .bool false, .bool false, .bool false, .bool false, .bool false, .bool false, .bool false, .bool false, .bool false, .bool false, .bool false, .bool false, .bool false, .bool false, .bool false, .bool false, .bool false, .bool false, .bool false, .bool false, .bool false, .bool false, .bool false, .bool false, .bool false, .bool false] : Array Value) = Array.replicate 60 (.bool false) := rfl
  have SA : SeenAt (w.alloc (.cells #[.bool false, .bool false, .bool false, .bool false, .bool false, .bool false, .bool false, .bool false, .bool false, .bool false, .bool false, .bool false, .bool false, .bool false, .bool false, .bool false, .bool false, .bool false, .bool false, .bool false, .bool false, .bool false, .bool false, .bool false, .bool false, .bool false, .bool false, .bool false, .bool false, .bool false, .bool false, .bool false, .bool false, .bool false, .bool false, .bool false, .bool false, .bool false, .bool false, .bool false, .bool false, .bool false, .bool false, .bool false, .bool false, .bool false, .bool false, .bool false, .bool false, .bool false, .bool false, .bool false, .bool false, .bool false, .bool false, .bool false, .bool false, .bool false, .bool false, .bool false] 73)) w.heap.size l 0 := fun q hq => new0 rfl (by rw [e60]; simp [hq, freeTo])
  have FA := Fz.new w #[.bool false, .bool false, .bool false, .bool false, .bool false, .bool false, .bool false, .bool false, .bool false, .bool false, .bool false, .bool false, .bool false, .bool false, .bool false, .bool false, .bool false, .bool false, .bool false, .bool false, .bool false, .bool false, .bool false, .bool false, .bool false, .bool false, .bool false, .bool false, .bool false, .bool false, .bool false, .bool false, .bool false, .bool false, .bool false, .bool false, .bool false, .bool false, .bool false, .bool false, .bool false, .bool false, .bool false, .bool false, .bool false, .bool false, .bool false, .bool false, .bool false, .bool false, .bool false, .bool false, .bool false, .bool false, .bool false, .bool false, .bool false, .bool false, .bool false, .bool false] 73
  clear e60
  go_enter Try.func34, Try.ntmps34
  go_wp2_with fail
  obtain ⟨V, hV⟩ : ∃ V, w.alloc (.cells #[.bool false, .bool false, .bool false, .bool false, .bool false, .bool false, .bool false, .bool false, .bool false, .bool false, .bool false, .bool false, .bool false, .bool false, .bool false, .bool false, .bool false, .bool false, .bool false, .bool false, .bool false, .bool false, .bool false, .bool false, .bool false, .bool false, .bool false, .bool false, .bool false, .bool false, .bool false, .bool false, .bool false, .bool false, .bool false, .bool false, .bool false, .bool false, .bool false, .bool false, .bool false, .bool false, .bool false, .bool false, .bool false, .bool false, .bool false, .bool false, .bool false, .bool false, .bool false, .bool false, .bool false, .bool false, .bool false, .bool false, .bool false, .bool false, .bool false, .bool false] 73) = V := ⟨_, rfl⟩
  rw [hV] at BB SA FA ⊢
  clear hV
  go_loopw [8] (fun i wr => ∃ k : Nat, k ≤ n ∧ i = .int .i64 k ∧ offsTo l k = true ∧ Below w.heap.size w wr ∧ SeenAt wr w.heap.size l k ∧ Fz wr w.heap.size) (fun i _ => n - (intOf i).toNat)
  case atStart => exact ⟨0, Nat.zero_le _, rfl, rfl, BB, SA, FA⟩
  case round =>
    clear BB SA FA
    obtain ⟨k, hk, rfl, hok, BB, SA, FA⟩ := hrel
    have HOK := Lib.hid hok; clear hok
    by_cases hlt : k < n
    · have hlt' : (k : Int) < (n : Int) := by omega
      have hk0 : (0 : Int) ≤ (k : Int) := by omega
      obtain ⟨b, off, rfl, hc⟩ := hl.at (i := k) (by rw [← HN.out]; exact hlt)
      obtain ⟨c0, c1, c2, c3⟩ := hc k (by rw [← HN.out]; exact hlt)
      replace c0 := keep1 BB c0; replace c1 := keep1 BB c1; replace c2 := keep1 BB c2; replace c3 := keep1 BB c3
      obtain ⟨x, hx⟩ : ∃ x, l.getD k default = x := ⟨_, rfl⟩
      rw [hx] at c0 c1 c2 c3
      have hsucc : offsTo l (k + 1) = (offB x && freeTo l x.p k) := by rw [offsTo, HOK.out, hx]; rfl
      have done : offsTo l (k + 1) = false → offsTo l n = false := fun h => offsTo_le h (by omega)
      have HX := Lib.hid hx; have HS := Lib.hid hsucc; have DONE := Lib.hid done
      clear hc hx hsucc done hl
      obtain ⟨p, ⟨s, r⟩, c⟩ := x
      simp only at c0 c1 c2 c3
      by_cases h1 : p < 0
      · go_wp2_with fail
        go_ret
        exact ⟨by rw [DONE.out (by rw [HS.out]; simp [offB]; omega)]; rfl, ball BB _⟩
      by_cases h2 : 60 ≤ p
      · go_wp2_with fail
        go_ret
        exact ⟨by rw [DONE.out (by rw [HS.out]; simp [offB]; omega)]; rfl, ball BB _⟩
      obtain ⟨q, rfl⟩ := Int.eq_ofNat_of_zero_le (show 0 ≤ p by omega)
      have hq60 : q < 60 := by omega
      have hq1 : (0 : Int) ≤ (q : Int) := by omega
      have hq2 : (q : Int) < 60 := by omega
      have s0 := SA q hq60
      have HSA := Lib.hid SA
      clear SA h1 h2
      have SX := old1 s0 (.cells #[.int .i64 q, .int .i64 s, .int .i64 r, .int .i64 c] 40)
      cases hfr : freeTo l q k
      · rw [hfr] at s0 SX
        have HF := Lib.hid hfr; clear hfr
        simp only [Bool.not_false] at s0 SX
        go_wp2_with fail
        go_ret
        exact ⟨by rw [DONE.out (by rw [HS.out, HF.out, Bool.and_false])]; rfl, ball BB _⟩
      · rw [hfr] at s0 SX
        have HF := Lib.hid hfr; clear hfr
        simp only [Bool.not_true] at s0 SX
        obtain ⟨y, hy⟩ : ∃ y, distB ⟨s, r⟩ = y := ⟨_, rfl⟩
        have HY := Lib.hid hy; clear hy
        have Tx := CAt.new wr [.int .i64 q, .int .i64 s, .int .i64 r, .int .i64 c] 40
        have F2 := FA.alloc (.cells #[.int .i64 q, .int .i64 s, .int .i64 r, .int .i64 c] 40)
        have S2 := HSA.out.keep (Below.alloc (Below.refl _ wr) (Nat.le_refl _) (.cells #[.int .i64 q, .int .i64 s, .int .i64 r, .int .i64 c] 40))
        have HS2 := Lib.hid S2; clear S2
        go_wp2_with fail
        replace BB := ball BB (.cells #[.int .i64 q, .int .i64 s, .int .i64 r, .int .i64 c] 40)
        have hne : w.heap.size < wr.heap.size := FA.2
        obtain ⟨V1, hV1⟩ : ∃ V1, wr.alloc (.cells #[.int .i64 q, .int .i64 s, .int .i64 r, .int .i64 c] 40) = V1 := ⟨_, rfl⟩
        obtain ⟨kx, hkx⟩ : ∃ kx, wr.heap.size = kx := ⟨_, rfl⟩
        rw [hV1] at Tx F2 HS2 BB SX ⊢
        rw [hkx] at Tx hne ⊢
        clear hV1 hkx c0 c1 c2 c3 s0 FA HSA
        refine (wvalid_at ⟨s, r⟩ y _ HY.out).mono ?_
        rintro e W ⟨rfl, bb⟩
        replace Tx := Tx.keep bb; replace F2 := F2.keep bb; replace SX := keep1 bb SX
        replace BB := bstep BB bb
        replace HS2 := Lib.hid (HS2.out.keep bb)
        clear bb
        have hne1 : ¬ kx = w.heap.size := by omega
        have hne2 : ¬ w.heap.size = kx := by omega
        have x0c := Tx 0 _ rfl; have x1c := Tx 1 _ rfl; have x2c := Tx 2 _ rfl; have x3c := Tx 3 _ rfl
        have f0 := F2.1 q
        cases y
        · go_wp2_with fail
          go_ret
          exact ⟨by rw [DONE.out (by rw [HS.out]; simp [offB, HY.out])]; rfl, BB⟩
        · by_cases h3 : c < 1
          · go_wp2_with fail
            go_ret
            exact ⟨by rw [DONE.out (by rw [HS.out]; simp [offB]; omega)]; rfl, BB⟩
          by_cases h4 : 4096 < c
          · go_wp2_with fail
            go_ret
            exact ⟨by rw [DONE.out (by rw [HS.out]; simp [offB]; omega)]; rfl, BB⟩
          go_wp2_with fail
          go_roundw
          case rel => exact ⟨k + 1, by omega, by go_num, by rw [HS.out]; simp [offB, HY.out, HF.out]; omega, BB.setCell (p := ⟨w.heap.size, q, none⟩) (Nat.le_refl _) _, HS2.out.next (by rw [HX.out]) hq60, F2.set _ _⟩
          case measure => simp [intOf]; omega
    · have hkn : n = k := by omega
      subst hkn
      go_wp2_with fail
      go_ret
      exact ⟨by rw [HOK.out]; rfl, BB⟩
theorem areoffers_at (n : Nat) (a : Option Addr) (cap : Nat) (l : List Ofr) (y : Bool) (w : World) (hn : n = l.length) (hl : OfAt w a l) (hm : l.length ≤ maxLen) (hy : offsB l = y) : Calls Try.prog 34 #[.slice a n cap] w (Yes y w) := by
  subst hn; rw [← hy]; exact areoffers_any a cap l w hl hm
end Go.Proofs.Ytbonchnhngaicaa
