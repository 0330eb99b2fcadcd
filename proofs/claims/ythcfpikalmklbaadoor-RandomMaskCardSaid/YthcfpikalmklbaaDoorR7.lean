/- Proved: that the laws RandomMatchesReference, RandomDistinct, RandomRange and RandomMask return true for every input, the arithmetic taken as given where a theorem says so. Conditions: the table of steps holds its numbers; the numbers fit their types. -/
import Derived.Test.YthcfpikalmklbaaDoorR6
namespace Go.Proofs.YthcfpikalmklbaaDoor
open Go.RowKit Go.Sort Go.BigFrame Go.Proofs.YthcfpikalmklbaaDoor.K
set_option linter.unusedVariables false
set_option linter.unusedSimpArgs false
attribute [local go_sem] cell_alloc_old Oper.semAt_some

def permV (s n : Int) : List Int := if 1 ≤ n ∧ n ≤ 1000 then permK s n.toNat (n.toNat - 1) else []
def PermGen (zs : List Int) (w : World) (e : Ending) (w' : World) : Prop := ∃ a cap, e = .returned (.slice a zs.length cap) ∧ IntsAt .i64 w' a zs ∧ Below w.heap.size w w'
theorem permV_len (s n : Int) : (permV s n).length ≤ 1000 := by
  unfold permV
  split
  · rw [permK_len]; omega
  · simp
theorem perm_gen (s n : Int) (w : World) (h0 : 0 ≤ s) (hT : Tab w) : Calls Tryd.prog 15 #[.int .u64 s, .int .i64 n] w (PermGen (permV s n) w) := by
  by_cases h : 1 ≤ n ∧ n ≤ 1000
  · obtain ⟨m, rfl⟩ := Int.eq_ofNat_of_zero_le (a := n) (by omega)
    refine (perm_any s m w h0 hT (by omega) (by omega)).mono ?_
    rintro e w' ⟨g, cap, rfl, hown, hb⟩
    unfold permV
    rw [if_pos h, Int.toNat_natCast]
    exact ⟨some ⟨g, 0, none⟩, cap, by rw [permK_len], hown.ints, hb⟩
  · refine (perm_out s n w (by omega)).mono ?_
    rintro e w' ⟨rfl, hb⟩
    unfold permV
    rw [if_neg h]
    exact ⟨none, 0, rfl, .inl rfl, hb⟩
theorem rperm_gen (s n : Int) (w : World) (h0 : 0 ≤ s) : Calls Tryd.prog 16 #[.int .u64 s, .int .i64 n] w (PermGen (permV s n) w) := by
  by_cases h : 1 ≤ n ∧ n ≤ 1000
  · obtain ⟨m, rfl⟩ := Int.eq_ofNat_of_zero_le (a := n) (by omega)
    refine (rperm_any s m w h0 (by omega) (by omega)).mono ?_
    rintro e w' ⟨g, cap, rfl, hown, hb⟩
    unfold permV
    rw [if_pos h, Int.toNat_natCast]
    exact ⟨some ⟨g, 0, none⟩, cap, by rw [permK_len], hown.ints, hb⟩
  · refine (rperm_out s n w (by omega)).mono ?_
    rintro e w' ⟨rfl, hb⟩
    unfold permV
    rw [if_neg h]
    exact ⟨none, 0, rfl, .inl rfl, hb⟩

set_option maxRecDepth 100000 in
set_option maxHeartbeats 4000000 in
theorem lawMatches (s n : Int) (w : World) (h0 : 0 ≤ s) (hT : Tab w) : Calls Tryd.prog 3 #[.int .u64 s, .int .i64 n] w fun e w' => e = .returned (.bool true) ∧ Below w.heap.size w w' := by
  go_enter Tryd.func3, Tryd.ntmps3
  go_wp2_with fail
  refine (head_any _ hT).mono ?_
  rintro e w1 ⟨rfl, b1⟩
  go_wp2_with fail
  refine (next_any s _ h0 (hT.keep b1)).mono ?_
  rintro e w2 ⟨rfl, b2⟩
  have B2 := bstep b1 b2; clear b1 b2
  go_wp2_with fail
  refine (rnext_any s _ h0).mono ?_
  rintro e w3 ⟨rfl, rfl⟩
  generalize nextV s = x
  go_wp2_with fail
  refine (below_any s n _ h0 (hT.keep B2)).mono ?_
  rintro e w3 ⟨rfl, b3⟩
  have B3 := bstep B2 b3; clear B2 b3
  go_wp2_with fail
  refine (rbelow_any s n _ h0).mono ?_
  rintro e w4 ⟨rfl, rfl⟩
  generalize belowV s n = y
  go_wp2_with fail
  refine (perm_gen s n _ h0 (hT.keep B3)).mono ?_
  rintro e w4 ⟨a1, c1, rfl, hi1, b4⟩
  have B4 := bstep B3 b4; clear B3 b4
  go_wp2_with fail
  refine (rperm_gen s n _ h0).mono ?_
  rintro e w5 ⟨a2, c2, rfl, hi2, b5⟩
  have B5 := bstep B4 b5; clear B4
  have hi1 := ints_keep hi1 b5; clear b5
  go_wp2_with fail
  refine (same_at _ a1 a2 c1 c2 _ _ rfl hi1 hi2 (permV_len s n)).mono ?_
  rintro e w6 ⟨rfl, b6⟩
  have B6 := bstep B5 b6; clear B5 b6
  go_wp2_with fail
  refine (mask_any s n _ h0 (hT.keep B6)).mono ?_
  rintro e w7 ⟨rfl, b7⟩
  have B7 := bstep B6 b7; clear B6 b7
  go_wp2_with fail
  refine (rmask_any s n _ h0).mono ?_
  rintro e w8 ⟨rfl, rfl⟩
  generalize maskV s n = z
  go_wp2_with fail
  go_ret
  exact ⟨rfl, B7⟩

set_option maxHeartbeats 4000000 in
theorem lawDistinct (s t : Int) (w : World) (h0 : 0 ≤ s) (h1 : 0 ≤ t) (hT : Tab w) (hinj : nextV s = nextV t → s = t) : Calls Tryd.prog 4 #[.int .u64 s, .int .u64 t] w fun e w' => e = .returned (.bool true) ∧ Below w.heap.size w w' := by
  by_cases hst : s = t
  · subst hst
    clear hinj
    go_enter Tryd.func4, Tryd.ntmps4
    go_wp2_with fail
    refine (head_any _ hT).mono ?_
    rintro e w1 ⟨rfl, b1⟩
    go_wp2_with fail
    refine (next_any s _ h0 (hT.keep b1)).mono ?_
    rintro e w2 ⟨rfl, b2⟩
    have B2 := bstep b1 b2; clear b1 b2
    go_wp2_with fail
    refine (next_any s _ h0 (hT.keep B2)).mono ?_
    rintro e w3 ⟨rfl, b3⟩
    have B3 := bstep B2 b3; clear B2 b3
    generalize nextV s = x
    go_wp2_with fail
    go_ret
    exact ⟨rfl, B3⟩
  · have hne : nextV s ≠ nextV t := fun h => hst (hinj h)
    clear hinj
    go_enter Tryd.func4, Tryd.ntmps4
    go_wp2_with fail
    refine (head_any _ hT).mono ?_
    rintro e w1 ⟨rfl, b1⟩
    go_wp2_with fail
    refine (next_any s _ h0 (hT.keep b1)).mono ?_
    rintro e w2 ⟨rfl, b2⟩
    have B2 := bstep b1 b2; clear b1 b2
    go_wp2_with fail
    refine (next_any t _ h1 (hT.keep B2)).mono ?_
    rintro e w3 ⟨rfl, b3⟩
    have B3 := bstep B2 b3; clear B2 b3
    generalize nextV s = x at *
    generalize nextV t = y at *
    have q1 : (s == t) = false := by simp [hst]
    have q2 : (x == y) = false := by simp [hne]
    go_wp2_with fail
    go_ret
    exact ⟨by simp [q1, q2], B3⟩

theorem belowV_in {s n : Int} (h1 : 1 ≤ n) (h2 : n ≤ 1000000000) : 0 ≤ belowV s n ∧ belowV s n < n := by
  unfold belowV
  rw [if_pos ⟨h1, h2⟩]
  exact ⟨Int.emod_nonneg _ (by omega), Int.emod_lt_of_pos _ (by omega)⟩
theorem belowV_mul {s n m : Int} (h1 : 1 ≤ n) (hm : 1 ≤ m) (h2 : n * m ≤ 1000000000) : belowV s (n * m) % n = belowV s n := by
  have h3 : n * 1 ≤ n * m := Int.mul_le_mul_of_nonneg_left hm (by omega)
  unfold belowV
  rw [if_pos ⟨by omega, h2⟩, if_pos ⟨h1, by omega⟩]
  rw [Int.emod_emod_of_dvd _ (Int.dvd_mul_right n m)]

set_option maxHeartbeats 4000000 in
theorem lawRange (s n k : Int) (w : World) (h0 : 0 ≤ s) (k0 : 0 ≤ k) (k1 : k ≤ 255) (hT : Tab w) : Calls Tryd.prog 5 #[.int .u64 s, .int .i64 n, .int .u8 k] w fun e w' => e = .returned (.bool true) ∧ Below w.heap.size w w' := by
  have go : ∀ (v : Int), belowV s n = v → True := fun _ _ => trivial
  by_cases hlo : n < 1
  · have hv : belowV s n = 0 := by unfold belowV; rw [if_neg (by omega)]
    go_enter Tryd.func5, Tryd.ntmps5
    go_wp2_with fail
    refine (head_any _ hT).mono ?_
    rintro e w1 ⟨rfl, b1⟩
    go_wp2_with fail
    refine (below_at s n _ _ h0 (hT.keep b1) hv).mono ?_
    rintro e w2 ⟨rfl, b2⟩
    have B2 := bstep b1 b2; clear b1 b2
    go_wp2_with fail
    go_ret
    exact ⟨rfl, B2⟩
  · by_cases hhi : 1000000000 < n
    · have hv : belowV s n = 0 := by unfold belowV; rw [if_neg (by omega)]
      go_enter Tryd.func5, Tryd.ntmps5
      go_wp2_with fail
      refine (head_any _ hT).mono ?_
      rintro e w1 ⟨rfl, b1⟩
      go_wp2_with fail
      refine (below_at s n _ _ h0 (hT.keep b1) hv).mono ?_
      rintro e w2 ⟨rfl, b2⟩
      have B2 := bstep b1 b2; clear b1 b2
      go_wp2_with fail
      go_ret
      exact ⟨rfl, B2⟩
    · have hin := belowV_in (s := s) (n := n) (by omega) (by omega)
      obtain ⟨v, hv⟩ : ∃ v, belowV s n = v := ⟨_, rfl⟩
      rw [hv] at hin
      have hv0 := hin.1
      have hvn := hin.2
      clear hin go
      have e1 : wrap64 (1 + k) = 1 + k := IntWalk.wrap64_in _ (by omega)
      obtain ⟨m, hm⟩ : ∃ m, 1 + k = m := ⟨_, rfl⟩
      rw [hm] at e1
      have hk : wrap64 k = k := IntWalk.wrap64_in _ (by omega)
      have hm0 : ¬ m = 0 := by omega
      have hm1 : 1 ≤ m := by omega
      have hn0 : ¬ n = 0 := by omega
      have hdq : wrap64 ((1000000000 : Int) / m) = (1000000000 : Int) / m := by
        have := Int.ediv_le_self m (a := 1000000000) (by decide)
        have := Int.ediv_nonneg (a := 1000000000) (b := m) (by decide) (by omega)
        exact IntWalk.wrap64_in _ (by omega)
      by_cases hq : (1000000000 : Int) / m < n
      · clear hm1
        go_enter Tryd.func5, Tryd.ntmps5
        go_wp2_with fail
        refine (head_any _ hT).mono ?_
        rintro e w1 ⟨rfl, b1⟩
        go_wp2_with fail
        refine (below_at s n _ _ h0 (hT.keep b1) hv).mono ?_
        rintro e w2 ⟨rfl, b2⟩
        have B2 := bstep b1 b2; clear b1 b2
        go_wp2_with fail
        go_ret
        exact ⟨rfl, B2⟩
      · have hnm : n * m ≤ 1000000000 := by
          exact (Int.le_ediv_iff_mul_le (by omega)).1 (by omega)
        have hnm0 : 0 ≤ n * m := Int.mul_nonneg (by omega) (by omega)
        have e2 : wrap64 (n * m) = n * m := IntWalk.wrap64_in _ (by omega)
        have hmul := belowV_mul (s := s) (n := n) (m := m) (by omega) hm1 hnm
        rw [hv] at hmul
        have hpos : 1 ≤ n * m := by
          have h3 : n * 1 ≤ n * m := Int.mul_le_mul_of_nonneg_left hm1 (by omega)
          omega
        have hin2 := belowV_in (s := s) (n := n * m) hpos hnm
        obtain ⟨u, hu⟩ : ∃ u, belowV s (n * m) = u := ⟨_, rfl⟩
        rw [hu] at hmul hin2
        have hrem : u.tmod n = v := by rw [Int.tmod_eq_emod_of_nonneg hin2.1]; exact hmul
        clear hmul hin2 hpos hnm0 hnm hm1
        go_enter Tryd.func5, Tryd.ntmps5
        go_wp2_with fail
        refine (head_any _ hT).mono ?_
        rintro e w1 ⟨rfl, b1⟩
        go_wp2_with fail
        refine (below_at s n _ _ h0 (hT.keep b1) hv).mono ?_
        rintro e w2 ⟨rfl, b2⟩
        have B2 := bstep b1 b2; clear b1 b2
        go_wp2_with fail
        refine (below_at s (n * m) _ _ h0 (hT.keep B2) hu).mono ?_
        rintro e w3 ⟨rfl, b3⟩
        have B3 := bstep B2 b3; clear B2 b3
        go_wp2_with fail
        go_ret
        exact ⟨rfl, B3⟩

theorem maskV_in {s n : Int} (h1 : 1 ≤ n) (h2 : n ≤ 16) : 1 ≤ maskV s n ∧ maskV s n < 2 ^ n.toNat ∧ maskV s n = 1 + belowV s (2 ^ n.toNat - 1) := by
  have hp : (2 : Int) ≤ 2 ^ n.toNat ∧ (2 : Int) ^ n.toNat ≤ 65536 := by
    rcases mask_cases h1 h2 with rfl | rfl | rfl | rfl | rfl | rfl | rfl | rfl | rfl | rfl | rfl | rfl | rfl | rfl | rfl | rfl <;> decide
  unfold maskV belowV
  rw [if_pos ⟨h1, h2⟩, if_pos (by omega)]
  obtain ⟨q, hq⟩ : ∃ q : Int, 2 ^ n.toNat = q := ⟨_, rfl⟩
  rw [hq] at hp ⊢
  have := Int.emod_nonneg (halfV (nextV s)) (b := q - 1) (by omega)
  have := Int.emod_lt_of_pos (halfV (nextV s)) (b := q - 1) (by omega)
  omega

set_option maxHeartbeats 4000000 in
theorem lawMask (s n : Int) (w : World) (h0 : 0 ≤ s) (hT : Tab w) : Calls Tryd.prog 8 #[.int .u64 s, .int .i64 n] w fun e w' => e = .returned (.bool true) ∧ Below w.heap.size w w' := by
  by_cases hlo : n < 1
  · have hv : maskV s n = 0 := by unfold maskV; rw [if_neg (by omega)]
    go_enter Tryd.func8, Tryd.ntmps8
    go_wp2_with fail
    refine (head_any _ hT).mono ?_
    rintro e w1 ⟨rfl, b1⟩
    go_wp2_with fail
    refine (mask_at s n _ _ h0 (hT.keep b1) hv).mono ?_
    rintro e w2 ⟨rfl, b2⟩
    have B2 := bstep b1 b2; clear b1 b2
    go_wp2_with fail
    go_ret
    exact ⟨rfl, B2⟩
  · by_cases hhi : 16 < n
    · have hv : maskV s n = 0 := by unfold maskV; rw [if_neg (by omega)]
      go_enter Tryd.func8, Tryd.ntmps8
      go_wp2_with fail
      refine (head_any _ hT).mono ?_
      rintro e w1 ⟨rfl, b1⟩
      go_wp2_with fail
      refine (mask_at s n _ _ h0 (hT.keep b1) hv).mono ?_
      rintro e w2 ⟨rfl, b2⟩
      have B2 := bstep b1 b2; clear b1 b2
      go_wp2_with fail
      go_ret
      exact ⟨rfl, B2⟩
    · obtain ⟨m1, m2, m3⟩ := maskV_in (s := s) (n := n) (by omega) (by omega)
      have hc := mask_cases (n := n) (by omega) (by omega)
      clear hlo hhi
      obtain ⟨v, hv⟩ : ∃ v, maskV s n = v := ⟨_, rfl⟩
      rw [hv] at m1 m2 m3
      obtain ⟨u, hu⟩ : ∃ u, belowV s (2 ^ n.toNat - 1) = u := ⟨_, rfl⟩
      rw [hu] at m3
      have hv1 : v = 1 + u := m3
      clear m3
      rcases hc with rfl | rfl | rfl | rfl | rfl | rfl | rfl | rfl | rfl | rfl | rfl | rfl | rfl | rfl | rfl | rfl
      all_goals
        have e1 : wrap64 (1 + u) = v := by rw [IntWalk.wrap64_in _ (by rw [← hv1]; simp at m2; omega)]; exact hv1.symm
        simp only [Int.reduceToNat, Int.reducePow, Int.reduceSub] at m2 hu
        clear hv1
        go_enter Tryd.func8, Tryd.ntmps8
        go_wp2_with fail
        refine (head_any _ hT).mono ?_
        rintro e w1 ⟨rfl, b1⟩
        go_wp2_with fail
        refine (mask_at s _ _ _ h0 (hT.keep b1) hv).mono ?_
        rintro e w2 ⟨rfl, b2⟩
        have B2 := bstep b1 b2; clear b1 b2
        go_wp2_with fail
        refine (below_at s _ _ _ h0 (hT.keep B2) hu).mono ?_
        rintro e w3 ⟨rfl, b3⟩
        have B3 := bstep B2 b3; clear B2 b3
        go_wp2_with fail
        go_ret
        exact ⟨rfl, B3⟩
end Go.Proofs.YthcfpikalmklbaaDoor
