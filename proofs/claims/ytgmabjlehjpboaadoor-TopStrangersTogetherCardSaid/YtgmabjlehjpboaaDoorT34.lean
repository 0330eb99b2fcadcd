/- Proved: what the reference says of a list of half-open joins that is valid. Conditions: the list is valid and lies in memory. -/
import Derived.Test.YtgmabjlehjpboaaDoorT29
namespace Go.Proofs.YtgmabjlehjpboaaDoor
open Go.RowKit Go.Sort Go.BigFrame Go.Proofs.YtgmabjlehjpboaaDoor.K
set_option linter.unusedVariables false
set_option linter.unusedSimpArgs false
attribute [local go_sem] cell_alloc_old

open Go.Maps Go.Shelf
set_option maxRecDepth 100000 in
set_option maxHeartbeats 4000000 in
theorem rformed_n (s n c u : Int) (w : World) (ok : Hf.ok ⟨s, n, c, u, false, 0⟩) : Calls Tryd.prog 25 #[(⟨s, n, c, u, false, 0⟩ : Hf).v] w (Ans (.bool true) w) := by
  have h0 : 0 ≤ s ∧ s < 60 := by simpa [nodeB] using ok.s
  have h1 : 0 ≤ n ∧ n ≤ 1000000000 := by simpa [inB] using ok.n
  have h2 : 0 ≤ c ∧ c ≤ 1000000000 := by simpa [inB] using ok.c
  have h3 : 0 ≤ u ∧ u ≤ 1000000000 := by simpa [inB] using ok.u
  have a0 : ¬ s < 0 := by omega
  have a1 : ¬ 59 < s := by omega
  have a2 : ¬ n < 0 := by omega
  have a3 : ¬ 1000000000 < n := by omega
  have a4 : ¬ c < 0 := by omega
  have a5 : ¬ 1000000000 < c := by omega
  have a6 := h3.1
  have a7 := h3.2
  clear h0 h1 h2 h3 ok
  go_enter Tryd.func25, Tryd.ntmps25
  go_wp2_with fail
  have Tt := CAt.new (w) [.int .i64 s, .int .i64 n, .int .i64 c, .int .i64 u, .bool false, .int .i64 0] 70
  have BB : Below w.heap.size w ((w).alloc (.cells #[.int .i64 s, .int .i64 n, .int .i64 c, .int .i64 u, .bool false, .int .i64 0] 70)) := ball (Below.refl _ _) _
  obtain ⟨V1, hV1⟩ : ∃ V1, w.alloc (.cells #[.int .i64 s, .int .i64 n, .int .i64 c, .int .i64 u, .bool false, .int .i64 0] 70) = V1 := ⟨_, rfl⟩
  rw [hV1] at BB Tt ⊢
  clear hV1
  have t0 := Tt 0 _ rfl
  have t1 := Tt 1 _ rfl
  have t2 := Tt 2 _ rfl
  have t3 := Tt 3 _ rfl
  have t4 := Tt 4 _ rfl
  have t5 := Tt 5 _ rfl
  go_wp2_with fail
  go_ret
  exact ⟨rfl, BB⟩
set_option maxRecDepth 100000 in
set_option maxHeartbeats 4000000 in
theorem rformed_p (s n c u k : Int) (w : World) (ok : Hf.ok ⟨s, n, c, u, true, k⟩) (hk : ¬ k = 0) : Calls Tryd.prog 25 #[(⟨s, n, c, u, true, k⟩ : Hf).v] w (Ans (.bool true) w) := by
  have h0 : 0 ≤ s ∧ s < 60 := by simpa [nodeB] using ok.s
  have h1 : 0 ≤ n ∧ n ≤ 1000000000 := by simpa [inB] using ok.n
  have h2 : 0 ≤ c ∧ c ≤ 1000000000 := by simpa [inB] using ok.c
  have h3 : 0 ≤ u ∧ u ≤ 1000000000 := by simpa [inB] using ok.u
  have a0 : ¬ s < 0 := by omega
  have a1 : ¬ 59 < s := by omega
  have a2 : ¬ n < 0 := by omega
  have a3 : ¬ 1000000000 < n := by omega
  have a4 : ¬ c < 0 := by omega
  have a5 : ¬ 1000000000 < c := by omega
  have a6 := h3.1
  have a7 := h3.2
  have h4 : 0 ≤ k ∧ k ≤ 2000000 := by simpa [inB] using ok.k
  have a8 := h4.1
  have a9 := h4.2
  clear h4
  clear h0 h1 h2 h3 ok
  go_enter Tryd.func25, Tryd.ntmps25
  go_wp2_with fail
  have Tt := CAt.new (w) [.int .i64 s, .int .i64 n, .int .i64 c, .int .i64 u, .bool true, .int .i64 k] 70
  have BB : Below w.heap.size w ((w).alloc (.cells #[.int .i64 s, .int .i64 n, .int .i64 c, .int .i64 u, .bool true, .int .i64 k] 70)) := ball (Below.refl _ _) _
  obtain ⟨V1, hV1⟩ : ∃ V1, w.alloc (.cells #[.int .i64 s, .int .i64 n, .int .i64 c, .int .i64 u, .bool true, .int .i64 k] 70) = V1 := ⟨_, rfl⟩
  rw [hV1] at BB Tt ⊢
  clear hV1
  have t0 := Tt 0 _ rfl
  have t1 := Tt 1 _ rfl
  have t2 := Tt 2 _ rfl
  have t3 := Tt 3 _ rfl
  have t4 := Tt 4 _ rfl
  have t5 := Tt 5 _ rfl
  go_wp2_with fail
  go_ret
  exact ⟨rfl, BB⟩
set_option maxRecDepth 100000 in
set_option maxHeartbeats 4000000 in
theorem rformed_z (s n c u : Int) (w : World) (ok : Hf.ok ⟨s, n, c, u, true, 0⟩) : Calls Tryd.prog 25 #[(⟨s, n, c, u, true, 0⟩ : Hf).v] w (Ans (.bool true) w) := by
  have h0 : 0 ≤ s ∧ s < 60 := by simpa [nodeB] using ok.s
  have h1 : 0 ≤ n ∧ n ≤ 1000000000 := by simpa [inB] using ok.n
  have h2 : 0 ≤ c ∧ c ≤ 1000000000 := by simpa [inB] using ok.c
  have h3 : 0 ≤ u ∧ u ≤ 1000000000 := by simpa [inB] using ok.u
  have a0 : ¬ s < 0 := by omega
  have a1 : ¬ 59 < s := by omega
  have a2 : ¬ n < 0 := by omega
  have a3 : ¬ 1000000000 < n := by omega
  have a4 : ¬ c < 0 := by omega
  have a5 : ¬ 1000000000 < c := by omega
  have a6 := h3.1
  have a7 := h3.2
  clear h0 h1 h2 h3 ok
  go_enter Tryd.func25, Tryd.ntmps25
  go_wp2_with fail
  have Tt := CAt.new (w) [.int .i64 s, .int .i64 n, .int .i64 c, .int .i64 u, .bool true, .int .i64 0] 70
  have BB : Below w.heap.size w ((w).alloc (.cells #[.int .i64 s, .int .i64 n, .int .i64 c, .int .i64 u, .bool true, .int .i64 0] 70)) := ball (Below.refl _ _) _
  obtain ⟨V1, hV1⟩ : ∃ V1, w.alloc (.cells #[.int .i64 s, .int .i64 n, .int .i64 c, .int .i64 u, .bool true, .int .i64 0] 70) = V1 := ⟨_, rfl⟩
  rw [hV1] at BB Tt ⊢
  clear hV1
  have t0 := Tt 0 _ rfl
  have t1 := Tt 1 _ rfl
  have t2 := Tt 2 _ rfl
  have t3 := Tt 3 _ rfl
  have t4 := Tt 4 _ rfl
  have t5 := Tt 5 _ rfl
  go_wp2_with fail
  go_ret
  exact ⟨rfl, BB⟩
theorem rformed_at (h : Hf) (w : World) (ok : h.ok) : Calls Tryd.prog 25 #[h.v] w (Ans (.bool true) w) := by
  obtain ⟨s, n, c, u, pr, k⟩ := h
  cases pr
  · obtain rfl : k = 0 := ok.p rfl
    exact rformed_n s n c u w ok
  · by_cases hk : k = 0
    · subst hk; exact rformed_z s n c u w ok
    · exact rformed_p s n c u k w ok hk
set_option maxRecDepth 100000 in
set_option maxHeartbeats 4000000 in
theorem rvalid_at (l : List Hf) (n : Nat) (a : Option Addr) (cap : Nat) (w : World) (ok : OkL l) (hn : Hid (n = l.length)) (hl : HsAt w a l) : Calls Tryd.prog 13 #[.slice a n cap] w (Ans (.bool true) w) := by
  have OK := Lib.hid ok; clear ok
  have h4 : n ≤ 4 := by rw [hn.out]; exact OK.out.len
  go_enter Tryd.func13, Tryd.ntmps13
  go_wp2_with fail
  go_loopw [3] (fun i wr => ∃ k : Nat, k ≤ n ∧ i = .int .i64 k ∧ Below w.heap.size w wr) (fun i _ => n - (intOf i).toNat)
  case atStart => exact ⟨0, Nat.zero_le _, rfl, Below.refl _ _⟩
  case round =>
    obtain ⟨k, hk, rfl, BB⟩ := hrel
    by_cases hlt : k < n
    · have hlt' : (k : Int) < (n : Int) := by omega
      have hk0 : (0 : Int) ≤ (k : Int) := by omega
      have hwk : IntKind.i64.wrap ((k : Int) + 1) = (k : Int) + 1 := IntWalk.i64_in _ (by omega)
      obtain ⟨b, off, e1, c0, c1, c2, c3, c4, c5⟩ := hl.hf BB (i := k) (by rw [← hn.out]; exact hlt)
      obtain ⟨x, hx⟩ : ∃ x, l.getD k default = x := ⟨_, rfl⟩
      have hok : x.ok := by rw [← hx]; exact OK.out.get (by rw [← hn.out]; exact hlt)
      have HOK := Lib.hid hok; clear hok
      have hprev : Pv wr k b (off + (k - 1) * 6) x.s := fun h0 => by
        obtain ⟨b', off', e', d0, _⟩ := hl.hf BB (i := k - 1) (by rw [← hn.out]; omega)
        rw [e1] at e'
        simp only [Option.some.injEq, Addr.mk.injEq, and_true] at e'
        obtain ⟨rfl, rfl⟩ := e'
        exact ⟨_, d0, by rw [← hx]; exact OK.out.lt (by omega) (by rw [← hn.out]; exact hlt)⟩
      have hself : Pv wr 1 b (off + k * 6) (x.s + 1) := fun _ => ⟨x.s, by rw [← hx]; rw [hx]; rw [hx] at c0; exact c0, by omega⟩
      rw [hx] at c0 c1 c2 c3 c4 c5
      clear hx
      subst e1
      go_wp2_with fail
      clear c1 c2 c3 c4 c5
      have C0 : IntsAt .i64 wr (some ⟨b, off + k * 6, none⟩) [x.s] := .inr ⟨_, _, rfl, fun j hj => by simp at hj; subst hj; exact c0⟩
      clear c0 hself
      refine (rformed_at x wr HOK.out).mono ?_
      rintro e w1 ⟨rfl, b1⟩
      replace hprev := hprev.keep b1
      replace C0 := C0.keep b1
      replace BB := bstep BB b1
      clear b1
      have c0 : w1.cell? ⟨b, off + k * 6, none⟩ = some (.int .i64 x.s) := by
        rcases C0 with h | ⟨b', off', e', hc⟩
        · simp at h
        · simp only [Option.some.injEq, Addr.mk.injEq, and_true] at e'
          obtain ⟨rfl, rfl⟩ := e'
          exact hc 0 (by simp)
      clear C0
      go_upto_region 5 with (fail)
      rcases Nat.eq_zero_or_pos k with hz | hz
      · subst hz
        refine wp_region_quiet_below (by kernel_rfl) (by kernel_rfl) ?_
        repeat (go_big_quiet_step (fail))
        refine wpQuiet_nil ?_
        intro _ hw'
        obtain ⟨⟨dq, osq⟩, hw''⟩ := hw'
        subst hw''
        have bq := below_regrown w1 dq osq
        obtain ⟨V2, hV2⟩ : ∃ V2, grow (redrawn w1 dq) osq = V2 := ⟨_, rfl⟩
        rw [hV2] at bq ⊢
        clear hV2 dq osq
        replace hprev := hprev.keep bq
        replace BB := bstep BB bq
        clear bq
        go_wp2_with fail
        go_roundw
        case rel => exact ⟨1, by omega, by go_num, BB⟩
        case measure => simp [intOf]; omega
      · obtain ⟨y, hy', hyx⟩ := hprev hz
        have hz' : (0 : Int) < (k : Int) := by omega
        have hd : decide (x.s ≤ y) = false := by simp; omega
        have hkm : IntKind.i64.wrap ((k : Int) - 1) = ((k - 1 : Nat) : Int) := by rw [IntWalk.i64_in _ (by omega)]; omega
        have hk1 : ((k - 1 : Nat) : Int) < (n : Int) := by omega
        have hk2 : (0 : Int) ≤ ((k - 1 : Nat) : Int) := by omega
        have ky := cell_regrown hy'
        have kc := cell_regrown c0
        refine wp_region_quiet_below (by kernel_rfl) (by kernel_rfl) ?_
        repeat (go_big_quiet_step (fail))
        refine wpQuiet_nil ?_
        intro _ hw'
        obtain ⟨⟨dq, osq⟩, hw''⟩ := hw'
        subst hw''
        have bq := below_regrown w1 dq osq
        obtain ⟨V2, hV2⟩ : ∃ V2, grow (redrawn w1 dq) osq = V2 := ⟨_, rfl⟩
        rw [hV2] at bq ⊢
        clear hV2 dq osq
        replace hprev := hprev.keep bq
        replace BB := bstep BB bq
        clear bq
        go_wp2_with fail
        go_roundw
        case rel => exact ⟨k + 1, by omega, by go_num, BB⟩
        case measure => simp [intOf]; omega
    · have hkn : k = n := by omega
      subst hkn
      have hlt' : ¬ (k : Int) < (k : Int) := by omega
      have h4' : (k : Int) ≤ 4 := by omega
      go_wp2_with fail
      go_ret
      exact ⟨rfl, BB⟩
end Go.Proofs.YtgmabjlehjpboaaDoor
