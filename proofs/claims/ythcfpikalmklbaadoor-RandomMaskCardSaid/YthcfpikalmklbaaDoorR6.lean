/- Proved: Perm for a length out of range, Same for two equal lists, and what the law's head returns. Conditions: the table of steps holds its numbers; a state is not negative. -/
import Derived.Test.YthcfpikalmklbaaDoorR5
namespace Go.Proofs.YthcfpikalmklbaaDoor
open Go.RowKit Go.Sort Go.BigFrame Go.Proofs.YthcfpikalmklbaaDoor.K
set_option linter.unusedVariables false
set_option linter.unusedSimpArgs false
attribute [local go_sem] cell_alloc_old Oper.semAt_some

theorem perm_out (s n : Int) (w : World) (h : n < 1 ∨ 1000 < n) :
    Calls Tryd.prog 15 #[.int .u64 s, .int .i64 n] w fun e w' => e = .returned (.slice none 0 0) ∧ Below w.heap.size w w' := by
  rcases h with h | h
  · go_enter Tryd.func15, Tryd.ntmps15
    go_wp2_with fail
    go_ret
    exact ⟨rfl, Below.refl _ _⟩
  · have h1 : ¬ n < 1 := by omega
    go_enter Tryd.func15, Tryd.ntmps15
    go_wp2_with fail
    go_ret
    exact ⟨rfl, Below.refl _ _⟩

theorem rperm_out (s n : Int) (w : World) (h : n < 1 ∨ 1000 < n) :
    Calls Tryd.prog 16 #[.int .u64 s, .int .i64 n] w fun e w' => e = .returned (.slice none 0 0) ∧ Below w.heap.size w w' := by
  rcases h with h | h
  · go_enter Tryd.func16, Tryd.ntmps16
    go_wp2_with fail
    go_ret
    exact ⟨rfl, Below.refl _ _⟩
  · have h1 : ¬ n < 1 := by omega
    go_enter Tryd.func16, Tryd.ntmps16
    go_wp2_with fail
    go_ret
    exact ⟨rfl, Below.refl _ _⟩

theorem same_any (a b : Option Addr) (ca cb : Nat) (zs : List Int) (w : World) (ha : IntsAt .i64 w a zs) (hb : IntsAt .i64 w b zs) (hm : zs.length ≤ 1000) :
    Calls Tryd.prog 14 #[.slice a zs.length ca, .slice b zs.length cb] w fun e w' => e = .returned (.bool true) ∧ Below w.heap.size w w' := by
  obtain ⟨n, hn⟩ : ∃ n, n = zs.length := ⟨_, rfl⟩
  rw [← hn] at hm ⊢
  have HN := Lib.hid hn; clear hn
  go_enter Tryd.func14, Tryd.ntmps14
  go_wp2_with fail
  go_loopw [5] (fun i wr => ∃ k : Nat, k ≤ n ∧ i = .int .i64 k ∧ Below w.heap.size w wr) (fun i _ => n - (intOf i).toNat)
  case atStart => exact ⟨0, Nat.zero_le _, rfl, Below.refl _ _⟩
  case round =>
    obtain ⟨k, hk, rfl, hB⟩ := hrel
    by_cases hlt : k < n
    · have hlt' : (k : Int) < (n : Int) := by omega
      obtain ⟨b1, o1, e1, c1⟩ : ∃ b off, a = some ⟨b, off, none⟩ ∧ w.cell? ⟨b, off + k, none⟩ = some (.int .i64 (zs.getD k 0)) := by
        rcases ha with h | ⟨b, off, ha, h⟩
        · subst h; have := HN.out; simp at this; omega
        · exact ⟨b, off, ha, h k (by rw [← HN.out]; exact hlt)⟩
      obtain ⟨b2, o2, e2, c2⟩ : ∃ b' off, b = some ⟨b', off, none⟩ ∧ w.cell? ⟨b', off + k, none⟩ = some (.int .i64 (zs.getD k 0)) := by
        rcases hb with h | ⟨b', off, ha, h⟩
        · subst h; have := HN.out; simp at this; omega
        · exact ⟨b', off, ha, h k (by rw [← HN.out]; exact hlt)⟩
      subst e1 e2
      have d1 := keep1 hB c1
      have d2 := keep1 hB c2
      have k0 : (0 : Int) ≤ (k : Int) := by omega
      generalize zs.getD k 0 = x at *
      go_wp2_with fail
      go_quiet (fail)
      go_wp2_with fail
      go_roundw
      case rel => exact ⟨k + 1, by omega, by go_num, by first | exact hB | exact below_drewN hB _⟩
      case measure => simp [intOf]; omega
    · have hkn : n = k := by omega
      subst hkn
      go_wp2_with fail
      go_ret
      exact ⟨rfl, hB⟩

theorem same_at (n : Nat) (a b : Option Addr) (ca cb : Nat) (zs : List Int) (w : World) (hn : n = zs.length) (ha : IntsAt .i64 w a zs) (hb : IntsAt .i64 w b zs) (hm : n ≤ 1000) :
    Calls Tryd.prog 14 #[.slice a n ca, .slice b n cb] w fun e w' => e = .returned (.bool true) ∧ Below w.heap.size w w' := by
  subst hn; exact same_any a b ca cb zs w ha hb hm
theorem next_at (s v : Int) (w : World) (h0 : 0 ≤ s) (hT : Tab w) (hv : nextV s = v) :
    Calls Tryd.prog 10 #[.int .u64 s] w fun e w' => e = .returned (.int .u64 v) ∧ Below w.heap.size w w' := by rw [← hv]; exact next_any s w h0 hT
theorem mask_at (s n v : Int) (w : World) (h0 : 0 ≤ s) (hT : Tab w) (hv : maskV s n = v) :
    Calls Tryd.prog 17 #[.int .u64 s, .int .i64 n] w fun e w' => e = .returned (.int .i64 v) ∧ Below w.heap.size w w' := by rw [← hv]; exact mask_any s n w h0 hT
theorem ints_keep {k : IntKind} {a : Option Addr} {zs : List Int} {w w' : World} (h : IntsAt k w a zs) (hb : Below w.heap.size w w') : IntsAt k w' a zs := by
  rcases h with h | ⟨b, off, ha, h⟩
  · exact .inl h
  · exact .inr ⟨b, off, ha, fun j hj => keep1 hb (h j hj)⟩
theorem lit2 (x y : Int) (w : World) : IntsAt .i64 (w.alloc (.cells #[.int .i64 x, .int .i64 y] 3)) (some ⟨w.heap.size, 0, none⟩) [x, y] := by
  refine .inr ⟨w.heap.size, 0, rfl, fun j hj => ?_⟩
  match j, hj with
  | 0, _ => simp
  | 1, _ => simp
theorem perm_two (s : Int) (l : List Int) (w : World) (h0 : 0 ≤ s) (hT : Tab w) (hl : permK s 2 1 = l) :
    Calls Tryd.prog 15 #[.int .u64 s, .int .i64 2] w fun e w' => ∃ g cap, e = .returned (.slice (some ⟨g, 0, none⟩) 2 cap) ∧ IntsAt .i64 w' (some ⟨g, 0, none⟩) l ∧ Below w.heap.size w w' := by
  refine (perm_any s 2 w h0 hT (by decide) (by decide)).mono ?_
  rintro e w' ⟨g, cap, he, hown, hb⟩
  rw [show (2 - 1 : Nat) = 1 from rfl, hl] at hown
  exact ⟨g, cap, he, hown.ints, hb⟩

theorem v1 : nextV 0 = 16294208416658607535 := by kernel_rfl
theorem v2 : nextV 1 = 10451216379200822465 := by kernel_rfl
theorem v3 : belowV 0 10 = 3 := by kernel_rfl
theorem v4 : belowV 1 10 = 6 := by kernel_rfl
theorem v5 : maskV 0 3 = 5 := by kernel_rfl
theorem v6 : maskV 1 3 = 1 := by kernel_rfl
theorem v7 : permK 0 2 1 = [0, 1] := by kernel_rfl
theorem v8 : permK 1 2 1 = [1, 0] := by kernel_rfl
theorem v9 : belowV 0 0 = 0 := by kernel_rfl
theorem v10 : maskV 0 17 = 0 := by kernel_rfl

set_option maxRecDepth 100000 in
set_option maxHeartbeats 4000000 in
theorem head_any (w : World) (hT : Tab w) : Calls Tryd.prog 9 #[] w fun e w' => e = .returned (.bool true) ∧ Below w.heap.size w w' := by
  go_enter Tryd.func9, Tryd.ntmps9
  go_wp2_with fail
  refine (next_at 0 _ _ (by decide) hT v1).mono ?_
  rintro e w1 ⟨rfl, b1⟩
  go_wp2_with fail
  refine (next_at 1 _ _ (by decide) (hT.keep b1) v2).mono ?_
  rintro e w2 ⟨rfl, b2⟩
  have B2 := bstep b1 b2; clear b1 b2
  go_wp2_with fail
  refine (below_at 0 10 _ _ (by decide) (hT.keep B2) v3).mono ?_
  rintro e w3 ⟨rfl, b3⟩
  have B3 := bstep B2 b3; clear B2 b3
  go_wp2_with fail
  refine (below_at 1 10 _ _ (by decide) (hT.keep B3) v4).mono ?_
  rintro e w4 ⟨rfl, b4⟩
  have B4 := bstep B3 b4; clear B3 b4
  go_wp2_with fail
  refine (mask_at 0 3 _ _ (by decide) (hT.keep B4) v5).mono ?_
  rintro e w5 ⟨rfl, b5⟩
  have B5 := bstep B4 b5; clear B4 b5
  go_wp2_with fail
  refine (mask_at 1 3 _ _ (by decide) (hT.keep B5) v6).mono ?_
  rintro e w6 ⟨rfl, b6⟩
  have B6 := bstep B5 b6; clear B5 b6
  go_wp2_with fail
  refine (perm_two 0 _ _ (by decide) (hT.keep B6) v7).mono ?_
  rintro e w7 ⟨g, cap, rfl, hi, b7⟩
  have B7 := bstep B6 b7; clear B6 b7
  go_wp2_with fail
  have B8 : Below w.heap.size w (w7.alloc (.cells #[.int .i64 0, .int .i64 1] 3)) := ball B7 _
  refine (same_at 2 _ _ _ _ [0, 1] _ rfl (ints_keep hi (ball (Below.refl _ _) _)) (lit2 0 1 w7) (by decide)).mono ?_
  rintro e w8 ⟨rfl, b8⟩
  have B9 := bstep B8 b8; clear B8 b8
  go_wp2_with fail
  refine (perm_two 1 _ _ (by decide) (hT.keep B9) v8).mono ?_
  rintro e w9 ⟨g2, cap2, rfl, hi2, b9⟩
  have B10 := bstep B9 b9; clear B9 b9
  go_wp2_with fail
  have B11 : Below w.heap.size w (w9.alloc (.cells #[.int .i64 1, .int .i64 0] 3)) := ball B10 _
  refine (same_at 2 _ _ _ _ [1, 0] _ rfl (ints_keep hi2 (ball (Below.refl _ _) _)) (lit2 1 0 w9) (by decide)).mono ?_
  rintro e w10 ⟨rfl, b10⟩
  have B12 := bstep B11 b10; clear B11 b10
  go_wp2_with fail
  refine (below_at 0 0 _ _ (by decide) (hT.keep B12) v9).mono ?_
  rintro e w11 ⟨rfl, b11⟩
  have B13 := bstep B12 b11; clear B12 b11
  go_wp2_with fail
  refine (perm_out 0 1001 _ (by decide)).mono ?_
  rintro e w12 ⟨rfl, b12⟩
  have B14 := bstep B13 b12; clear B13 b12
  go_wp2_with fail
  refine (mask_at 0 17 _ _ (by decide) (hT.keep B14) v10).mono ?_
  rintro e w13 ⟨rfl, b13⟩
  have B15 := bstep B14 b13; clear B14 b13
  go_wp2_with fail
  go_ret
  exact ⟨rfl, B15⟩
end Go.Proofs.YthcfpikalmklbaaDoor
