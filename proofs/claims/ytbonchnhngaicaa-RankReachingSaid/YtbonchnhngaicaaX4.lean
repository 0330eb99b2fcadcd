/- Proved: what Start and the reference Offers return. Conditions: the list lies in memory. -/
import Derived.Test.YtbonchnhngaicaaX3
namespace Go.Proofs.Ytbonchnhngaicaa
open Go.RowKit Go.Sort Go.BigFrame
set_option linter.unusedVariables false
set_option linter.unusedSimpArgs false
attribute [local go_sem] cell_alloc_old

/-- The offers lie one behind the other at the address. -/
def OfAt (w : World) (a : Option Addr) (l : List Ofr) : Prop :=
  l = [] ∨ ∃ b off, a = some ⟨b, off, none⟩ ∧ ∀ i, i < l.length → w.cell? ⟨b, off + i * 4, none⟩ = some (.int .i64 (l.getD i default).p) ∧ w.cell? ⟨b, off + i * 4 + 1, none⟩ = some (.int .i64 (l.getD i default).t.s) ∧
    w.cell? ⟨b, off + i * 4 + 2, none⟩ = some (.int .i64 (l.getD i default).t.r) ∧ w.cell? ⟨b, off + i * 4 + 3, none⟩ = some (.int .i64 (l.getD i default).c)
theorem OfAt.keep {w w' : World} {a : Option Addr} {l : List Ofr} (h : OfAt w a l) (hb : Below w.heap.size w w') : OfAt w' a l := by
  rcases h with h | ⟨b, off, ha, h⟩
  · exact .inl h
  · exact .inr ⟨b, off, ha, fun i hi => ⟨keep1 hb (h i hi).1, keep1 hb (h i hi).2.1, keep1 hb (h i hi).2.2.1, keep1 hb (h i hi).2.2.2⟩⟩
theorem OfAt.at {w : World} {a : Option Addr} {l : List Ofr} (h : OfAt w a l) {i : Nat} (hi : i < l.length) :
    ∃ b off, a = some ⟨b, off, none⟩ ∧ ∀ i, i < l.length → w.cell? ⟨b, off + i * 4, none⟩ = some (.int .i64 (l.getD i default).p) ∧ w.cell? ⟨b, off + i * 4 + 1, none⟩ = some (.int .i64 (l.getD i default).t.s) ∧
      w.cell? ⟨b, off + i * 4 + 2, none⟩ = some (.int .i64 (l.getD i default).t.r) ∧ w.cell? ⟨b, off + i * 4 + 3, none⟩ = some (.int .i64 (l.getD i default).c) := by
  rcases h with rfl | h
  · simp at hi
  · exact h

set_option maxRecDepth 100000 in
set_option maxHeartbeats 1000000 in
theorem start_true (q : Int) (w : World) : Calls Try.prog 12 #[.bool true, .int .i64 q] w (Gives (startV true q).v w) := by
  by_cases h0 : 0 ≤ q
  · by_cases h1 : q ≤ 1000000000
    · rw [show startV true q = ⟨⟨q, 0⟩, ⟨q, 0⟩, -1⟩ by simp [startV, h0, h1]]
      go_enter Try.func12, Try.ntmps12
      go_wp2_with fail
      refine bodyPost_ret (v := (⟨⟨q, 0⟩, ⟨q, 0⟩, -1⟩ : Rt).v) (by simp [results, Try.results12, go_sem]) rfl ⟨rfl, ?_⟩
      repeat (first | exact Below.refl _ _ | refine Below.setCell ?_ (by first | exact Nat.le_refl _ | (simp; done) | (simp; omega)) _ | refine Below.alloc ?_ (by simp <;> omega) _)
    · rw [show startV true q = ⟨⟨0, 0⟩, ⟨0, 0⟩, 0⟩ by simp [startV, h1]]
      go_enter Try.func12, Try.ntmps12
      go_wp2_with fail
      refine bodyPost_ret (v := (⟨⟨0, 0⟩, ⟨0, 0⟩, 0⟩ : Rt).v) (by simp [results, Try.results12, go_sem]) rfl ⟨rfl, ?_⟩
      repeat (first | exact Below.refl _ _ | refine Below.setCell ?_ (by first | exact Nat.le_refl _ | (simp; done) | (simp; omega)) _ | refine Below.alloc ?_ (by simp <;> omega) _)
  · rw [show startV true q = ⟨⟨0, 0⟩, ⟨0, 0⟩, 0⟩ by simp [startV, h0]]
    go_enter Try.func12, Try.ntmps12
    go_wp2_with fail
    refine bodyPost_ret (v := (⟨⟨0, 0⟩, ⟨0, 0⟩, 0⟩ : Rt).v) (by simp [results, Try.results12, go_sem]) rfl ⟨rfl, ?_⟩
    repeat (first | exact Below.refl _ _ | refine Below.setCell ?_ (by first | exact Nat.le_refl _ | (simp; done) | (simp; omega)) _ | refine Below.alloc ?_ (by simp <;> omega) _)
set_option maxRecDepth 100000 in
set_option maxHeartbeats 1000000 in
theorem start_false (q : Int) (w : World) : Calls Try.prog 12 #[.bool false, .int .i64 q] w (Gives (startV false q).v w) := by
  by_cases h0 : 0 ≤ q
  · by_cases h1 : q ≤ 1000000000
    · rw [show startV false q = ⟨⟨q, 1000000⟩, ⟨q, 0⟩, -1⟩ by simp [startV, h0, h1]]
      go_enter Try.func12, Try.ntmps12
      go_wp2_with fail
      refine bodyPost_ret (v := (⟨⟨q, 1000000⟩, ⟨q, 0⟩, -1⟩ : Rt).v) (by simp [results, Try.results12, go_sem]) rfl ⟨rfl, ?_⟩
      repeat (first | exact Below.refl _ _ | refine Below.setCell ?_ (by first | exact Nat.le_refl _ | (simp; done) | (simp; omega)) _ | refine Below.alloc ?_ (by simp <;> omega) _)
    · rw [show startV false q = ⟨⟨0, 0⟩, ⟨0, 0⟩, 0⟩ by simp [startV, h1]]
      go_enter Try.func12, Try.ntmps12
      go_wp2_with fail
      refine bodyPost_ret (v := (⟨⟨0, 0⟩, ⟨0, 0⟩, 0⟩ : Rt).v) (by simp [results, Try.results12, go_sem]) rfl ⟨rfl, ?_⟩
      repeat (first | exact Below.refl _ _ | refine Below.setCell ?_ (by first | exact Nat.le_refl _ | (simp; done) | (simp; omega)) _ | refine Below.alloc ?_ (by simp <;> omega) _)
  · rw [show startV false q = ⟨⟨0, 0⟩, ⟨0, 0⟩, 0⟩ by simp [startV, h0]]
    go_enter Try.func12, Try.ntmps12
    go_wp2_with fail
    refine bodyPost_ret (v := (⟨⟨0, 0⟩, ⟨0, 0⟩, 0⟩ : Rt).v) (by simp [results, Try.results12, go_sem]) rfl ⟨rfl, ?_⟩
    repeat (first | exact Below.refl _ _ | refine Below.setCell ?_ (by first | exact Nat.le_refl _ | (simp; done) | (simp; omega)) _ | refine Below.alloc ?_ (by simp <;> omega) _)
theorem start_at (root : Bool) (q : Int) (r : Rt) (w : World) (hr : startV root q = r) : Calls Try.prog 12 #[.bool root, .int .i64 q] w (Gives r.v w) := by
  rw [← hr]; cases root; exact start_false q w; exact start_true q w
set_option maxRecDepth 100000 in
set_option maxHeartbeats 1000000 in
theorem rstart_true (q : Int) (w : World) : Calls Try.prog 13 #[.bool true, .int .i64 q] w (Gives (startV true q).v w) := by
  by_cases h0 : 0 ≤ q
  · by_cases h1 : q ≤ 1000000000
    · rw [show startV true q = ⟨⟨q, 0⟩, ⟨q, 0⟩, -1⟩ by simp [startV, h0, h1]]
      go_enter Try.func13, Try.ntmps13
      go_wp2_with fail
      refine bodyPost_ret (v := (⟨⟨q, 0⟩, ⟨q, 0⟩, -1⟩ : Rt).v) (by simp [results, Try.results13, go_sem]) rfl ⟨rfl, ?_⟩
      repeat (first | exact Below.refl _ _ | refine Below.setCell ?_ (by first | exact Nat.le_refl _ | (simp; done) | (simp; omega)) _ | refine Below.alloc ?_ (by simp <;> omega) _)
    · rw [show startV true q = ⟨⟨0, 0⟩, ⟨0, 0⟩, 0⟩ by simp [startV, h1]]
      go_enter Try.func13, Try.ntmps13
      go_wp2_with fail
      refine bodyPost_ret (v := (⟨⟨0, 0⟩, ⟨0, 0⟩, 0⟩ : Rt).v) (by simp [results, Try.results13, go_sem]) rfl ⟨rfl, ?_⟩
      repeat (first | exact Below.refl _ _ | refine Below.setCell ?_ (by first | exact Nat.le_refl _ | (simp; done) | (simp; omega)) _ | refine Below.alloc ?_ (by simp <;> omega) _)
  · rw [show startV true q = ⟨⟨0, 0⟩, ⟨0, 0⟩, 0⟩ by simp [startV, h0]]
    go_enter Try.func13, Try.ntmps13
    go_wp2_with fail
    refine bodyPost_ret (v := (⟨⟨0, 0⟩, ⟨0, 0⟩, 0⟩ : Rt).v) (by simp [results, Try.results13, go_sem]) rfl ⟨rfl, ?_⟩
    repeat (first | exact Below.refl _ _ | refine Below.setCell ?_ (by first | exact Nat.le_refl _ | (simp; done) | (simp; omega)) _ | refine Below.alloc ?_ (by simp <;> omega) _)
set_option maxRecDepth 100000 in
set_option maxHeartbeats 1000000 in
theorem rstart_false (q : Int) (w : World) : Calls Try.prog 13 #[.bool false, .int .i64 q] w (Gives (startV false q).v w) := by
  by_cases h0 : 0 ≤ q
  · by_cases h1 : q ≤ 1000000000
    · rw [show startV false q = ⟨⟨q, 1000000⟩, ⟨q, 0⟩, -1⟩ by simp [startV, h0, h1]]
      go_enter Try.func13, Try.ntmps13
      go_wp2_with fail
      refine bodyPost_ret (v := (⟨⟨q, 1000000⟩, ⟨q, 0⟩, -1⟩ : Rt).v) (by simp [results, Try.results13, go_sem]) rfl ⟨rfl, ?_⟩
      repeat (first | exact Below.refl _ _ | refine Below.setCell ?_ (by first | exact Nat.le_refl _ | (simp; done) | (simp; omega)) _ | refine Below.alloc ?_ (by simp <;> omega) _)
    · rw [show startV false q = ⟨⟨0, 0⟩, ⟨0, 0⟩, 0⟩ by simp [startV, h1]]
      go_enter Try.func13, Try.ntmps13
      go_wp2_with fail
      refine bodyPost_ret (v := (⟨⟨0, 0⟩, ⟨0, 0⟩, 0⟩ : Rt).v) (by simp [results, Try.results13, go_sem]) rfl ⟨rfl, ?_⟩
      repeat (first | exact Below.refl _ _ | refine Below.setCell ?_ (by first | exact Nat.le_refl _ | (simp; done) | (simp; omega)) _ | refine Below.alloc ?_ (by simp <;> omega) _)
  · rw [show startV false q = ⟨⟨0, 0⟩, ⟨0, 0⟩, 0⟩ by simp [startV, h0]]
    go_enter Try.func13, Try.ntmps13
    go_wp2_with fail
    refine bodyPost_ret (v := (⟨⟨0, 0⟩, ⟨0, 0⟩, 0⟩ : Rt).v) (by simp [results, Try.results13, go_sem]) rfl ⟨rfl, ?_⟩
    repeat (first | exact Below.refl _ _ | refine Below.setCell ?_ (by first | exact Nat.le_refl _ | (simp; done) | (simp; omega)) _ | refine Below.alloc ?_ (by simp <;> omega) _)
theorem rstart_at (root : Bool) (q : Int) (r : Rt) (w : World) (hr : startV root q = r) : Calls Try.prog 13 #[.bool root, .int .i64 q] w (Gives r.v w) := by
  rw [← hr]; cases root; exact rstart_false q w; exact rstart_true q w
set_option maxRecDepth 100000 in
set_option maxHeartbeats 2000000 in
theorem roffers_any (a : Option Addr) (cap : Nat) (l : List Ofr) (w : World) (hl : OfAt w a l) (hm : l.length ≤ maxLen) : Calls Try.prog 23 #[.slice a l.length cap] w (Yes (offsB l) w) := by
  unfold maxLen at hm
  obtain ⟨n, hn⟩ : ∃ n, n = l.length := ⟨_, rfl⟩
  unfold offsB
  rw [← hn] at hm ⊢
  have HN := Lib.hid hn; clear hn
  go_enter Try.func23, Try.ntmps23
  go_wp2_with fail
  go_loopw [3] (fun i wr => ∃ k : Nat, k ≤ n ∧ i = .int .i64 k ∧ offsTo l k = true ∧ Below w.heap.size w wr) (fun i _ => n - (intOf i).toNat)
  case atStart => exact ⟨0, Nat.zero_le _, rfl, rfl, Below.refl _ _⟩
  case round =>
    obtain ⟨k, hk, rfl, hok, BB⟩ := hrel
    have HOK := Lib.hid hok; clear hok
    by_cases hlt : k < n
    · have hlt' : (k : Int) < (n : Int) := by omega
      have hk0 : (0 : Int) ≤ (k : Int) := by omega
      obtain ⟨b, off, rfl, hc⟩ := hl.at (i := k) (by rw [← HN.out]; exact hlt)
      have HC := Lib.hid hc
      obtain ⟨c0, c1, c2, c3⟩ := hc k (by rw [← HN.out]; exact hlt)
      replace c0 := keep1 BB c0; replace c1 := keep1 BB c1; replace c2 := keep1 BB c2; replace c3 := keep1 BB c3
      obtain ⟨x, hx⟩ : ∃ x, l.getD k default = x := ⟨_, rfl⟩
      rw [hx] at c0 c1 c2 c3
      have hsucc : offsTo l (k + 1) = (offB x && freeTo l x.p k) := by rw [offsTo, HOK.out, hx]; rfl
      have done : offsTo l (k + 1) = false → offsTo l n = false := fun h => offsTo_le h (by omega)
      have HX := Lib.hid hx; have HS := Lib.hid hsucc; have DONE := Lib.hid done
      clear hc hx hsucc done hl
      obtain ⟨y, hy⟩ : ∃ y, offB x = y := ⟨_, rfl⟩
      have HY := Lib.hid hy; clear hy
      go_wp2_with fail
      refine (roffer_at x y _ HY.out).mono ?_
      rintro e w1 ⟨rfl, b1⟩
      replace BB := bstep BB b1
      replace c0 := keep1 b1 c0
      clear c1 c2 c3 b1
      cases y
      · go_wp2_with fail
        go_ret
        exact ⟨by rw [DONE.out (by rw [HS.out, HY.out]; rfl)]; rfl, BB⟩
      · go_wp2_with fail
        go_loopw [4] (fun i wr => ∃ q : Nat, q ≤ k ∧ i = .int .i64 q ∧ freeTo l x.p q = true ∧ Below w.heap.size w wr) (fun i _ => k - (intOf i).toNat)
        case atStart => exact ⟨0, Nat.zero_le _, rfl, rfl, BB⟩
        case round =>
          clear BB c0
          obtain ⟨q, hq, rfl, hfr, BB⟩ := hrel
          have HFR := Lib.hid hfr; clear hfr
          by_cases hqk : q < k
          · have hqk' : (q : Int) < (k : Int) := by omega
            have hq0 : (0 : Int) ≤ (q : Int) := by omega
            have hqn : (q : Int) < (n : Int) := by omega
            have d0 := keep1 BB (HC.out k (by rw [← HN.out]; exact hlt)).1
            have e0 := keep1 BB (HC.out q (by rw [← HN.out]; omega)).1
            rw [HX.out] at d0
            obtain ⟨z, hz⟩ : ∃ z, l.getD q default = z := ⟨_, rfl⟩
            rw [hz] at e0
            have hfs : freeTo l x.p (q + 1) = decide (z.p ≠ x.p) := by rw [freeTo, HFR.out, hz]; simp
            have HFS := Lib.hid hfs
            clear hz hfs
            by_cases hp : z.p = x.p
            · have hpb : (z.p == x.p) = true := by simp [hp]
              have HP := Lib.hid hp; clear hp
              have kd0 := cell_regrown d0; have ke0 := cell_regrown e0
              go_wp2_with fail
              refine wp_region_quiet_below (by kernel_rfl) (by kernel_rfl) ?_
              repeat (go_big_quiet_step (fail))
              refine wpQuiet_nil ?_
              intro _ hw'
              obtain ⟨⟨dq, osq⟩, hw''⟩ := hw'
              subst hw''
              go_wp2_with fail
              go_ret
              suffices hs : offsTo l (k + 1) = false by
                exact ⟨by rw [DONE.out hs]; rfl, bstep BB (below_regrown _ dq osq)⟩
              rw [HS.out, HY.out, Bool.true_and]
              have h1 : freeTo l x.p (q + 1) = false := by rw [HFS.out]; simp [HP.out]
              cases h2 : freeTo l x.p k
              · rfl
              · rw [free_iff] at h2
                have := free_iff.2 fun j (hj : j < q + 1) => h2 j (by omega)
                rw [h1] at this; cases this
            · have hpb : (z.p == x.p) = false := by simp [hp]
              have HP := Lib.hid hp; clear hp
              have kd0 := cell_regrown d0; have ke0 := cell_regrown e0
              go_wp2_with fail
              refine wp_region_quiet_below (by kernel_rfl) (by kernel_rfl) ?_
              repeat (go_big_quiet_step (fail))
              refine wpQuiet_nil ?_
              intro _ hw'
              obtain ⟨⟨dq, osq⟩, hw''⟩ := hw'
              subst hw''
              go_wp2_with fail
              go_roundw
              case rel => exact ⟨q + 1, by omega, by go_num, by rw [HFS.out]; simp [HP.out], bstep BB (below_regrown _ dq osq)⟩
              case measure => simp [intOf]; omega
          · have hqe : q = k := by omega
            subst hqe
            go_wp2_with fail
            go_roundw
            case rel => exact ⟨q + 1, by omega, by go_num, by rw [HS.out, HY.out, HFR.out]; rfl, BB⟩
            case measure => simp [intOf]; omega
    · have hkn : n = k := by omega
      subst hkn
      go_wp2_with fail
      go_ret
      exact ⟨by rw [HOK.out]; rfl, BB⟩
theorem roffers_at (n : Nat) (a : Option Addr) (cap : Nat) (l : List Ofr) (y : Bool) (w : World) (hn : n = l.length) (hl : OfAt w a l) (hm : l.length ≤ maxLen) (hy : offsB l = y) : Calls Try.prog 23 #[.slice a n cap] w (Yes y w) := by
  subst hn; rw [← hy]; exact roffers_any a cap l w hl hm
end Go.Proofs.Ytbonchnhngaicaa
