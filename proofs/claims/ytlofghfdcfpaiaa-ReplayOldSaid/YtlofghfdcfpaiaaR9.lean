/- Proved: that the laws ReplayMoving and ReplayJumps return true for every input. Conditions: the bits of a window fit into a uint64. -/
import Derived.Test.YtlofghfdcfpaiaaR5
import Derived.Test.YtlofghfdcfpaiaaR6
import Derived.Test.YtlofghfdcfpaiaaR7
import Derived.Lib.MinMax
namespace Go.Proofs.Ytlofghfdcfpaiaa
open Go.RowKit Go.Sort Go.BigFrame
set_option linter.unusedVariables false
attribute [local go_sem] cell_alloc_old

theorem noteT_bd {T : Int} {B : Nat} {n : Int} (hv : validN T B = true) : 0 ≤ noteT T B n ∧ noteT T B n ≤ 1000000000 := by
  have v := valid_bd hv
  unfold noteT
  split
  · rename_i h
    have c := counter_bd (fresh_bd (note_ok.1 h)).2.1
    omega
  · omega

theorem fresh_B (T : Int) (B : Nat) (n : Int) (w : World) (hB : B < U) :
    Calls Try.prog 14 #[.agg #[.int .i64 T, .int .u64 B], .int .i64 n] w fun e w' => e = .returned (.bool (freshN T B n)) ∧ Below w.heap.size w w' :=
  (fresh_any T B n w hB).mono fun e w'' ⟨a, b⟩ => ⟨a, b ▸ ball (ball (Below.refl _ _) _) _⟩

set_option maxHeartbeats 1000000 in
theorem lawMoving (T : Int) (B : Nat) (n k : Int) (w : World) (hB : B < U) (hk0 : 0 ≤ k) (hk1 : k ≤ 65535) :
    Calls Try.prog 6 #[.agg #[.int .i64 T, .int .u64 B], .int .i64 n, .int .u16 k] w fun e w' => e = .returned (.bool true) ∧ Below w.heap.size w w' := by
  cases hv : validN T B
  ·
    go_enter Try.func6, Try.ntmps6
    go_wp2_with fail
    refine (head_any _).mono ?_
    rintro e w1 ⟨rfl, hb1⟩
    have t0 : w1.cell? ⟨w.heap.size, 0, none⟩ = some (.int .i64 T) := keep1 hb1 (by simp)
    have t1 : w1.cell? ⟨w.heap.size, 1, none⟩ = some (.int .u64 B) := keep1 hb1 (by simp)
    have BB := bstep (ball (Below.refl w.heap.size w) _) hb1
    go_wp2_with fail
    refine (rvalid_any _ _ _ hB).mono ?_
    rw [hv]
    rintro e w2 ⟨rfl, hb2⟩
    have t0 := keep1 hb2 (t0)
    have t1 := keep1 hb2 (t1)
    have BB := bstep BB hb2
    go_wp2_with (first | (go_at_call 18; refine (rcounter_any _ _).mono ?_; rintro e w' ⟨rfl, rfl⟩))
    go_ret
    exact ⟨rfl, BB⟩
  · have v := valid_bd hv
    by_cases h64 : T < 64
    ·
      go_enter Try.func6, Try.ntmps6
      go_wp2_with fail
      refine (head_any _).mono ?_
      rintro e w1 ⟨rfl, hb1⟩
      have t0 : w1.cell? ⟨w.heap.size, 0, none⟩ = some (.int .i64 T) := keep1 hb1 (by simp)
      have t1 : w1.cell? ⟨w.heap.size, 1, none⟩ = some (.int .u64 B) := keep1 hb1 (by simp)
      have BB := bstep (ball (Below.refl w.heap.size w) _) hb1
      go_wp2_with fail
      refine (rvalid_any _ _ _ hB).mono ?_
      rw [hv]
      rintro e w2 ⟨rfl, hb2⟩
      have t0 := keep1 hb2 (t0)
      have t1 := keep1 hb2 (t1)
      have BB := bstep BB hb2
      go_wp2_with (first | (go_at_call 18; refine (rcounter_any _ _).mono ?_; rintro e w' ⟨rfl, rfl⟩))
      go_ret
      exact ⟨rfl, BB⟩
    ·
      cases hc : counterN n
      ·
        go_enter Try.func6, Try.ntmps6
        go_wp2_with fail
        refine (head_any _).mono ?_
        rintro e w1 ⟨rfl, hb1⟩
        have t0 : w1.cell? ⟨w.heap.size, 0, none⟩ = some (.int .i64 T) := keep1 hb1 (by simp)
        have t1 : w1.cell? ⟨w.heap.size, 1, none⟩ = some (.int .u64 B) := keep1 hb1 (by simp)
        have BB := bstep (ball (Below.refl w.heap.size w) _) hb1
        go_wp2_with fail
        refine (rvalid_any _ _ _ hB).mono ?_
        rw [hv]
        rintro e w2 ⟨rfl, hb2⟩
        have t0 := keep1 hb2 (t0)
        have t1 := keep1 hb2 (t1)
        have BB := bstep BB hb2
        go_wp2_with (first | (go_at_call 18; refine (rcounter_any _ _).mono ?_; rintro e w' ⟨rfl, rfl⟩))
        go_ret
        exact ⟨rfl, BB⟩
      · have c := counter_bd hc
        by_cases h5 : T > 500000000
        ·
          go_enter Try.func6, Try.ntmps6
          go_wp2_with fail
          refine (head_any _).mono ?_
          rintro e w1 ⟨rfl, hb1⟩
          have t0 : w1.cell? ⟨w.heap.size, 0, none⟩ = some (.int .i64 T) := keep1 hb1 (by simp)
          have t1 : w1.cell? ⟨w.heap.size, 1, none⟩ = some (.int .u64 B) := keep1 hb1 (by simp)
          have BB := bstep (ball (Below.refl w.heap.size w) _) hb1
          go_wp2_with fail
          refine (rvalid_any _ _ _ hB).mono ?_
          rw [hv]
          rintro e w2 ⟨rfl, hb2⟩
          have t0 := keep1 hb2 (t0)
          have t1 := keep1 hb2 (t1)
          have BB := bstep BB hb2
          go_wp2_with (first | (go_at_call 18; refine (rcounter_any _ _).mono ?_; rintro e w' ⟨rfl, rfl⟩))
          go_ret
          exact ⟨rfl, BB⟩
        ·
          by_cases h6 : n > 500000000
          ·
            go_enter Try.func6, Try.ntmps6
            go_wp2_with fail
            refine (head_any _).mono ?_
            rintro e w1 ⟨rfl, hb1⟩
            have t0 : w1.cell? ⟨w.heap.size, 0, none⟩ = some (.int .i64 T) := keep1 hb1 (by simp)
            have t1 : w1.cell? ⟨w.heap.size, 1, none⟩ = some (.int .u64 B) := keep1 hb1 (by simp)
            have BB := bstep (ball (Below.refl w.heap.size w) _) hb1
            go_wp2_with fail
            refine (rvalid_any _ _ _ hB).mono ?_
            rw [hv]
            rintro e w2 ⟨rfl, hb2⟩
            have t0 := keep1 hb2 (t0)
            have t1 := keep1 hb2 (t1)
            have BB := bstep BB hb2
            go_wp2_with (first | (go_at_call 18; refine (rcounter_any _ _).mono ?_; rintro e w' ⟨rfl, rfl⟩))
            go_ret
            exact ⟨rfl, BB⟩
          ·
            obtain ⟨m1, m2, m3⟩ := note_moved hv (by omega) (by omega) hc (by omega) hk0 hk1
            obtain ⟨f1, _, _⟩ := fresh_moved hv (by omega) (by omega) hc (by omega) hk0 hk1
            have tb := noteT_bd (n := n) hv
            by_cases hE : noteE T B n = 0
            · replace m2 := m2 hE
              have M1 := Lib.hid m1; have M3 := Lib.hid m3; clear m1 m3
              have M2 := Lib.hid m2; clear m2
              go_enter Try.func6, Try.ntmps6
              go_wp2_with fail
              refine (head_any _).mono ?_
              rintro e w1 ⟨rfl, hb1⟩
              have t0 : w1.cell? ⟨w.heap.size, 0, none⟩ = some (.int .i64 T) := keep1 hb1 (by simp)
              have t1 : w1.cell? ⟨w.heap.size, 1, none⟩ = some (.int .u64 B) := keep1 hb1 (by simp)
              have BB := bstep (ball (Below.refl w.heap.size w) _) hb1
              go_wp2_with fail
              refine (rvalid_any _ _ _ hB).mono ?_
              rw [hv]
              rintro e w2 ⟨rfl, hb2⟩
              have t0 := keep1 hb2 (t0)
              have t1 := keep1 hb2 (t1)
              have BB := bstep BB hb2
              go_wp2_with (first | (go_at_call 18; refine (rcounter_any _ _).mono ?_; rintro e w' ⟨rfl, rfl⟩))
              refine (note_any _ _ _ _ hB).mono ?_
              rintro e w3 ⟨rfl, hb3⟩
              have t0 := keep1 hb3 (old1 t0 _)
              have t1 := keep1 hb3 (old1 t1 _)
              have m0 : w3.cell? ⟨w2.heap.size, 0, none⟩ = some (.int .i64 (T + k)) := keep1 hb3 (by simp)
              have m1 : w3.cell? ⟨w2.heap.size, 1, none⟩ = some (.int .u64 B) := keep1 hb3 (by simp)
              have BB := bstep (ball BB _) hb3
              go_wp2_with fail
              refine (note_at (T + k) B (n + k) (noteT T B n + k) (noteB T B n) (noteE T B n) _ hB _ rfl M2.out (by rw [M3.out]) M1.out).mono ?_
              rintro e w4 ⟨rfl, hb4⟩
              have t0 := keep1 hb4 (old1 t0 _)
              have t1 := keep1 hb4 (old1 t1 _)
              have m0 := keep1 hb4 (old1 m0 _)
              have m1 := keep1 hb4 (old1 m1 _)
              have a0 : w4.cell? ⟨w3.heap.size, 0, none⟩ = some (.int .i64 (noteT T B n)) := keep1 hb4 (by simp)
              have a1 : w4.cell? ⟨w3.heap.size, 1, none⟩ = some (.int .u64 (noteB T B n)) := keep1 hb4 (by simp)
              have BB := bstep (ball BB _) hb4
              go_wp2_with fail
              obtain ⟨W, hW⟩ : ∃ W, W = (w4.alloc (box (noteT T B n + k) (noteB T B n))) := ⟨_, rfl⟩
              replace t0 := (old1 t0 (box (noteT T B n + k) (noteB T B n)))
              rw [← hW] at t0
              replace t1 := (old1 t1 (box (noteT T B n + k) (noteB T B n)))
              rw [← hW] at t1
              replace m0 := (old1 m0 (box (noteT T B n + k) (noteB T B n)))
              rw [← hW] at m0
              replace m1 := (old1 m1 (box (noteT T B n + k) (noteB T B n)))
              rw [← hW] at m1
              replace a0 := (old1 a0 (box (noteT T B n + k) (noteB T B n)))
              rw [← hW] at a0
              replace a1 := (old1 a1 (box (noteT T B n + k) (noteB T B n)))
              rw [← hW] at a1
              have b0 : W.cell? ⟨w4.heap.size, 0, none⟩ = some (.int .i64 (noteT T B n + k)) := by rw [hW]; simp
              have b1 : W.cell? ⟨w4.heap.size, 1, none⟩ = some (.int .u64 (noteB T B n)) := by rw [hW]; simp
              have BB := (ball BB (box (noteT T B n + k) (noteB T B n)))
              rw [← hW] at BB ⊢
              clear hW
              have kt0 := cell_regrown t0
              have kt1 := cell_regrown t1
              have km0 := cell_regrown m0
              have km1 := cell_regrown m1
              have ka0 := cell_regrown a0
              have ka1 := cell_regrown a1
              have kb0 := cell_regrown b0
              have kb1 := cell_regrown b1
              refine wp_region_quiet_below (by kernel_rfl) (by kernel_rfl) ?_
              repeat (go_big_quiet_step (first
                | (go_at_call 14; exact rg_of fun w' h => fresh_B _ _ _ _ hB)))
              refine wpQuiet_nil ?_
              intro _ hw'
              obtain ⟨⟨dq, osq⟩, hw''⟩ := hw'
              subst hw''
              have B9 := bstep BB (below_regrown W dq osq)
              go_wp2
              go_ret
              exact ⟨rfl, B9⟩
            · clear m2
              have M1 := Lib.hid m1; have M3 := Lib.hid m3; clear m1 m3
              go_enter Try.func6, Try.ntmps6
              go_wp2_with fail
              refine (head_any _).mono ?_
              rintro e w1 ⟨rfl, hb1⟩
              have t0 : w1.cell? ⟨w.heap.size, 0, none⟩ = some (.int .i64 T) := keep1 hb1 (by simp)
              have t1 : w1.cell? ⟨w.heap.size, 1, none⟩ = some (.int .u64 B) := keep1 hb1 (by simp)
              have BB := bstep (ball (Below.refl w.heap.size w) _) hb1
              go_wp2_with fail
              refine (rvalid_any _ _ _ hB).mono ?_
              rw [hv]
              rintro e w2 ⟨rfl, hb2⟩
              have t0 := keep1 hb2 (t0)
              have t1 := keep1 hb2 (t1)
              have BB := bstep BB hb2
              go_wp2_with (first | (go_at_call 18; refine (rcounter_any _ _).mono ?_; rintro e w' ⟨rfl, rfl⟩))
              refine (note_any _ _ _ _ hB).mono ?_
              rintro e w3 ⟨rfl, hb3⟩
              have t0 := keep1 hb3 (old1 t0 _)
              have t1 := keep1 hb3 (old1 t1 _)
              have m0 : w3.cell? ⟨w2.heap.size, 0, none⟩ = some (.int .i64 (T + k)) := keep1 hb3 (by simp)
              have m1 : w3.cell? ⟨w2.heap.size, 1, none⟩ = some (.int .u64 B) := keep1 hb3 (by simp)
              have BB := bstep (ball BB _) hb3
              go_wp2_with fail
              refine (note_at (T + k) B (n + k) (noteT (T + k) B (n + k)) (noteB T B n) (noteE T B n) _ hB _ rfl rfl (by rw [M3.out]) M1.out).mono ?_
              rintro e w4 ⟨rfl, hb4⟩
              have t0 := keep1 hb4 (old1 t0 _)
              have t1 := keep1 hb4 (old1 t1 _)
              have m0 := keep1 hb4 (old1 m0 _)
              have m1 := keep1 hb4 (old1 m1 _)
              have a0 : w4.cell? ⟨w3.heap.size, 0, none⟩ = some (.int .i64 (noteT T B n)) := keep1 hb4 (by simp)
              have a1 : w4.cell? ⟨w3.heap.size, 1, none⟩ = some (.int .u64 (noteB T B n)) := keep1 hb4 (by simp)
              have BB := bstep (ball BB _) hb4
              go_wp2_with fail
              obtain ⟨W, hW⟩ : ∃ W, W = (w4.alloc (box (noteT (T + k) B (n + k)) (noteB T B n))) := ⟨_, rfl⟩
              replace t0 := (old1 t0 (box (noteT (T + k) B (n + k)) (noteB T B n)))
              rw [← hW] at t0
              replace t1 := (old1 t1 (box (noteT (T + k) B (n + k)) (noteB T B n)))
              rw [← hW] at t1
              replace m0 := (old1 m0 (box (noteT (T + k) B (n + k)) (noteB T B n)))
              rw [← hW] at m0
              replace m1 := (old1 m1 (box (noteT (T + k) B (n + k)) (noteB T B n)))
              rw [← hW] at m1
              replace a0 := (old1 a0 (box (noteT (T + k) B (n + k)) (noteB T B n)))
              rw [← hW] at a0
              replace a1 := (old1 a1 (box (noteT (T + k) B (n + k)) (noteB T B n)))
              rw [← hW] at a1
              have b0 : W.cell? ⟨w4.heap.size, 0, none⟩ = some (.int .i64 (noteT (T + k) B (n + k))) := by rw [hW]; simp
              have b1 : W.cell? ⟨w4.heap.size, 1, none⟩ = some (.int .u64 (noteB T B n)) := by rw [hW]; simp
              have BB := (ball BB (box (noteT (T + k) B (n + k)) (noteB T B n)))
              rw [← hW] at BB ⊢
              clear hW
              have kt0 := cell_regrown t0
              have kt1 := cell_regrown t1
              have km0 := cell_regrown m0
              have km1 := cell_regrown m1
              have ka0 := cell_regrown a0
              have ka1 := cell_regrown a1
              have kb0 := cell_regrown b0
              have kb1 := cell_regrown b1
              refine wp_region_quiet_below (by kernel_rfl) (by kernel_rfl) ?_
              repeat (go_big_quiet_step (first
                | (go_at_call 14; exact rg_of fun w' h => fresh_B _ _ _ _ hB)))
              refine wpQuiet_nil ?_
              intro _ hw'
              obtain ⟨⟨dq, osq⟩, hw''⟩ := hw'
              subst hw''
              have B9 := bstep BB (below_regrown W dq osq)
              go_wp2
              go_ret
              exact ⟨rfl, B9⟩

set_option maxHeartbeats 1000000 in
theorem lawJumps (T : Int) (B : Nat) (k : Int) (w : World) (hB : B < U) (hk0 : 0 ≤ k) (hk1 : k ≤ 65535) (hT : -9223372036854775808 ≤ T ∧ T ≤ 9223372036854775807) :
    Calls Try.prog 7 #[.agg #[.int .i64 T, .int .u64 B], .int .u16 k] w fun e w' => e = .returned (.bool true) ∧ Below w.heap.size w w' := by
  cases hv : validN T B
  ·
    go_enter Try.func7, Try.ntmps7
    go_wp2_with fail
    refine (head_any _).mono ?_
    rintro e w1 ⟨rfl, hb1⟩
    have t0 : w1.cell? ⟨w.heap.size, 0, none⟩ = some (.int .i64 T) := keep1 hb1 (by simp)
    have t1 : w1.cell? ⟨w.heap.size, 1, none⟩ = some (.int .u64 B) := keep1 hb1 (by simp)
    have BB := bstep (ball (Below.refl w.heap.size w) _) hb1
    go_wp2_with fail
    refine (rvalid_any _ _ _ hB).mono ?_
    rw [hv]
    rintro e w2 ⟨rfl, hb2⟩
    have t0 := keep1 hb2 (t0)
    have t1 := keep1 hb2 (t1)
    have BB := bstep BB hb2
    go_wp2_with fail
    go_ret
    exact ⟨rfl, BB⟩
  · have v := valid_bd hv
    by_cases h0 : k = 0
    ·
      go_enter Try.func7, Try.ntmps7
      go_wp2_with fail
      refine (head_any _).mono ?_
      rintro e w1 ⟨rfl, hb1⟩
      have t0 : w1.cell? ⟨w.heap.size, 0, none⟩ = some (.int .i64 T) := keep1 hb1 (by simp)
      have t1 : w1.cell? ⟨w.heap.size, 1, none⟩ = some (.int .u64 B) := keep1 hb1 (by simp)
      have BB := bstep (ball (Below.refl w.heap.size w) _) hb1
      go_wp2_with fail
      refine (rvalid_any _ _ _ hB).mono ?_
      rw [hv]
      rintro e w2 ⟨rfl, hb2⟩
      have t0 := keep1 hb2 (t0)
      have t1 := keep1 hb2 (t1)
      have BB := bstep BB hb2
      go_wp2_with fail
      go_ret
      exact ⟨rfl, BB⟩
    · by_cases h1 : T + k > 1000000000
      ·
        go_enter Try.func7, Try.ntmps7
        go_wp2_with fail
        refine (head_any _).mono ?_
        rintro e w1 ⟨rfl, hb1⟩
        have t0 : w1.cell? ⟨w.heap.size, 0, none⟩ = some (.int .i64 T) := keep1 hb1 (by simp)
        have t1 : w1.cell? ⟨w.heap.size, 1, none⟩ = some (.int .u64 B) := keep1 hb1 (by simp)
        have BB := bstep (ball (Below.refl w.heap.size w) _) hb1
        go_wp2_with fail
        refine (rvalid_any _ _ _ hB).mono ?_
        rw [hv]
        rintro e w2 ⟨rfl, hb2⟩
        have t0 := keep1 hb2 (t0)
        have t1 := keep1 hb2 (t1)
        have BB := bstep BB hb2
        go_wp2_with fail
        go_ret
        exact ⟨rfl, BB⟩
      · obtain ⟨n1, n2, n3⟩ := jump_note (B := B) (d := k) hv (by omega) (by omega)
        have f1 := jump_fresh (B := B) (d := k) hv (by omega) (by omega)
        have N1 := Lib.hid n1; have N2 := Lib.hid n2; have F1 := Lib.hid f1; clear n1 n2 f1
        by_cases h64 : k < 64
        · rw [if_pos h64] at n3
          have N3 := Lib.hid n3; clear n3
          go_enter Try.func7, Try.ntmps7
          go_wp2_with fail
          refine (head_any _).mono ?_
          rintro e w1 ⟨rfl, hb1⟩
          have t0 : w1.cell? ⟨w.heap.size, 0, none⟩ = some (.int .i64 T) := keep1 hb1 (by simp)
          have t1 : w1.cell? ⟨w.heap.size, 1, none⟩ = some (.int .u64 B) := keep1 hb1 (by simp)
          have BB := bstep (ball (Below.refl w.heap.size w) _) hb1
          go_wp2_with fail
          refine (rvalid_any _ _ _ hB).mono ?_
          rw [hv]
          rintro e w2 ⟨rfl, hb2⟩
          have t0 := keep1 hb2 (t0)
          have t1 := keep1 hb2 (t1)
          have BB := bstep BB hb2
          obtain ⟨kn, rfl⟩ : ∃ kn : Nat, k = (kn : Int) := ⟨k.toNat, by omega⟩
          have hk1b : ((kn : Int) == 0) = false := by simp; omega
          have hk2b : decide (1000000000 < T + (kn : Int)) = false := by simp; omega
          have hs := shl_nat B kn
          obtain ⟨S, hS⟩ : ∃ S : Nat, S = (B <<< kn) % U := ⟨_, rfl⟩
          have hSl : S < 18446744073709551616 := by rw [hS]; exact Nat.mod_lt _ (by decide)
          have N4 : Hid (noteB T B (T + (kn : Int)) = 1 ||| S) := Lib.hid (by rw [N3.out, hS]; rfl)
          rw [← hS] at hs
          have ho : bits .or .u64 1 (S : Int) = ((1 ||| S : Nat) : Int) := u64_or_nat 1 S (by decide) hSl
          have HS := Lib.hid hS; clear hS N3
          go_wp2_with fail
          refine (note_at T B (T + (kn : Int)) (T + (kn : Int)) ((1 ||| S : Nat) : Int) 0 _ hB _ rfl N2.out (by rw [N4.out]) N1.out).mono ?_
          rintro e w3 ⟨rfl, hb3⟩
          have t0 := keep1 hb3 (t0)
          have t1 := keep1 hb3 (t1)
          have BB := bstep BB hb3
          go_wp2_with fail
          refine (fresh_at T B (T + (kn : Int)) true _ hB _ rfl F1.out).mono ?_
          rintro e w4 ⟨rfl, hb4⟩
          have t0 := keep1 hb4 (old1 t0 _)
          have t1 := keep1 hb4 (old1 t1 _)
          have a0 : w4.cell? ⟨w3.heap.size, 0, none⟩ = some (.int .i64 (T + (kn : Int))) := keep1 hb4 (by simp)
          have a1 : w4.cell? ⟨w3.heap.size, 1, none⟩ = some (.int .u64 ((1 ||| S : Nat) : Int)) := keep1 hb4 (by simp)
          have BB := bstep (ball BB _) hb4
          go_wp2_with fail
          go_ret
          exact ⟨rfl, BB⟩
        · rw [if_neg h64] at n3
          have N3 := Lib.hid n3; clear n3
          go_enter Try.func7, Try.ntmps7
          go_wp2_with fail
          refine (head_any _).mono ?_
          rintro e w1 ⟨rfl, hb1⟩
          have t0 : w1.cell? ⟨w.heap.size, 0, none⟩ = some (.int .i64 T) := keep1 hb1 (by simp)
          have t1 : w1.cell? ⟨w.heap.size, 1, none⟩ = some (.int .u64 B) := keep1 hb1 (by simp)
          have BB := bstep (ball (Below.refl w.heap.size w) _) hb1
          go_wp2_with fail
          refine (rvalid_any _ _ _ hB).mono ?_
          rw [hv]
          rintro e w2 ⟨rfl, hb2⟩
          have t0 := keep1 hb2 (t0)
          have t1 := keep1 hb2 (t1)
          have BB := bstep BB hb2
          have hk1b : (k == 0) = false := by simp; omega
          have hk2b : decide (1000000000 < T + k) = false := by simp; omega
          go_wp2_with fail
          refine (note_at T B (T + k) (T + k) 1 0 _ hB _ rfl N2.out (by rw [N3.out]; rfl) N1.out).mono ?_
          rintro e w3 ⟨rfl, hb3⟩
          have t0 := keep1 hb3 (t0)
          have t1 := keep1 hb3 (t1)
          have BB := bstep BB hb3
          go_wp2_with fail
          refine (fresh_at T B (T + k) true _ hB _ rfl F1.out).mono ?_
          rintro e w4 ⟨rfl, hb4⟩
          have t0 := keep1 hb4 (old1 t0 _)
          have t1 := keep1 hb4 (old1 t1 _)
          have a0 : w4.cell? ⟨w3.heap.size, 0, none⟩ = some (.int .i64 (T + k)) := keep1 hb4 (by simp)
          have a1 : w4.cell? ⟨w3.heap.size, 1, none⟩ = some (.int .u64 1) := keep1 hb4 (by simp)
          have BB := bstep (ball BB _) hb4
          go_wp2_with fail
          go_ret
          exact ⟨rfl, BB⟩
end Go.Proofs.Ytlofghfdcfpaiaa
