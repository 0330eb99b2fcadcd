/- Proved: what the two functions that check a table return. Conditions: the table lies in memory. -/
import Derived.Test.YtkomgjkeikaigaaG5
namespace Go.Proofs.Ytkomgjkeikaigaa
open Go.RowKit Go.Sort Go.BigFrame
set_option linter.unusedVariables false
set_option linter.unusedSimpArgs false
attribute [local go_sem] cell_alloc_old

/-- The table's rows, by the block of the outer slice. -/
abbrev RowsAt (w : World) (b off : Nat) (h : Tab) : Prop := ∀ i, i < h.length → ∃ ra rc, w.cell? ⟨b, off + i, none⟩ = some (.slice ra (h.getD i []).length rc) ∧ BoolsAt w ra (h.getD i []) ∧ (h.getD i []).length ≤ maxLen
theorem row_cell {w w' : World} {b off : Nat} {h : Tab} (hT : RowsAt w b off h) (hb' : Below w.heap.size w w') {i k : Nat} (hi : i < h.length) (hk : k < (h.getD i []).length) :
    ∃ rb roff rc, w'.cell? ⟨b, off + i, none⟩ = some (.slice (some ⟨rb, roff, none⟩) (h.getD i []).length rc) ∧ w'.cell? ⟨rb, roff + k, none⟩ = some (.bool (hb h i k)) := by
  obtain ⟨ra, rc, h1, h2, _⟩ := hT i hi
  obtain ⟨rb, roff, rfl, h3⟩ := bools_at h2 hk
  exact ⟨rb, roff, rc, keep1 hb' h1, keep1 hb' (h3 k hk)⟩

set_option maxRecDepth 100000 in
set_option maxHeartbeats 4000000 in
theorem rvalid_at (h : Tab) (n : Nat) (a : Option Addr) (cap : Nat) (y : Bool) (w : World) (hn : n = h.length) (hl : TabAt w a h) (hm : n ≤ maxLen) (hy : validB h = y) : Calls Try.prog 25 #[.slice a n cap] w (Yes y w) := by
  unfold maxLen at hm
  have HN := Lib.hid hn; have HY := Lib.hid hy; clear hn hy
  have no : ¬ Valid h → y = false := fun hv => by rw [← HY.out]; exact valid_false hv
  by_cases h60 : (60 : Int) < (n : Int)
  · have e : y = false := no fun hv => by have := hv.1; rw [← HN.out] at this; omega
    subst e
    clear no HY
    go_enter Try.func25, Try.ntmps25
    go_wp2_with fail
    go_ret
    exact ⟨rfl, Below.refl _ _⟩
  go_enter Try.func25, Try.ntmps25
  go_wp2_with fail
  go_loopw [4] (fun j wr => ∃ k : Nat, k ≤ n ∧ j = .int .i64 k ∧ (∀ q, q < k → (h.getD q []).length = n) ∧ Below w.heap.size w wr) (fun j _ => n - (intOf j).toNat)
  case atStart => exact ⟨0, Nat.zero_le _, rfl, fun q hq => absurd hq (Nat.not_lt_zero _), Below.refl _ _⟩
  case round =>
    obtain ⟨i, hin, rfl, hf, BB⟩ := hrel
    have HF := Lib.hid hf; clear hf
    by_cases hlt : i < n
    · have hlt' : (i : Int) < (n : Int) := by omega
      have hk0 : (0 : Int) ≤ (i : Int) := by omega
      obtain ⟨b, off, rfl, hT⟩ := tab_at hl (i := i) (by rw [← HN.out]; exact hlt)
      obtain ⟨ra, rc, c, _, hr⟩ := hT i (by rw [← HN.out]; exact hlt)
      replace c := keep1 BB c
      obtain ⟨m, hmm⟩ : ∃ m, (h.getD i []).length = m := ⟨_, rfl⟩
      rw [hmm] at c hr
      unfold maxLen at hr
      have HM := Lib.hid hmm
      clear hT hl hmm
      by_cases he : m = n
      · subst he
        go_wp2_with fail
        go_roundw
        case rel =>
          refine ⟨i + 1, by omega, by go_num, fun q hq => ?_, BB⟩
          rcases Nat.lt_or_ge q i with h1 | h1
          · exact HF.out q h1
          · rw [show q = i by omega]; exact HM.out
        case measure => simp [intOf]; omega
      · have e : y = false := no fun hv => he (by rw [← HM.out, HN.out]; exact hv.2.1 i (by rw [← HN.out]; exact hlt))
        subst e
        have hb1 : ((m : Int) == (n : Int)) = false := by simp; omega
        have hb2 : ((m : Int) != (n : Int)) = true := by simp; omega
        clear no HY
        go_wp2_with fail
        go_ret
        exact ⟨rfl, BB⟩
    · have hin' : n = i := by omega
      subst hin'
      go_wp2_with fail
      go_loopw [5, 6] (fun j _ wz => ∃ i : Nat, i ≤ n ∧ j = .int .i64 i ∧ (∀ p, p < i → ∀ q, q < n → hb h p q = hb h q p ∧ hb h p p = false) ∧ Below w.heap.size w wz) (fun j _ _ => n - (intOf j).toNat)
      case atStart => exact ⟨0, Nat.zero_le _, rfl, fun q hq => absurd hq (Nat.not_lt_zero _), BB⟩
      case round =>
        clear BB
        obtain ⟨i, hin2, rfl, hg, BB⟩ := hrel
        have HG := Lib.hid hg; clear hg
        by_cases hlt2 : i < n
        · have hi1 : (i : Int) < (n : Int) := by omega
          have hi0 : (0 : Int) ≤ (i : Int) := by omega
          go_wp2_with fail
          go_loopw [6] (fun j wz => ∃ k : Nat, k ≤ n ∧ j = .int .i64 k ∧ (∀ q, q < k → hb h i q = hb h q i ∧ (q = i → hb h i i = false)) ∧ Below w.heap.size w wz) (fun j _ => n - (intOf j).toNat)
          case atStart => exact ⟨0, Nat.zero_le _, rfl, fun q hq => absurd hq (Nat.not_lt_zero _), BB⟩
          case round =>
            clear BB
            obtain ⟨k, hkn, rfl, hj, BB⟩ := hrel
            have HJ := Lib.hid hj; clear hj
            by_cases hlt3 : k < n
            · have hk1 : (k : Int) < (n : Int) := by omega
              have hk0 : (0 : Int) ≤ (k : Int) := by omega
              obtain ⟨b, off, rfl, hT⟩ := tab_at hl (i := i) (by rw [← HN.out]; exact hlt2)
              obtain ⟨b1, o1, c1, d1, d2⟩ := row_cell hT BB (i := i) (k := k) (by rw [← HN.out]; exact hlt2) (by rw [HF.out i hlt2]; exact hlt3)
              obtain ⟨b2, o2, c2, d3, d4⟩ := row_cell hT BB (i := k) (k := i) (by rw [← HN.out]; exact hlt3) (by rw [HF.out k hlt3]; exact hlt2)
              rw [HF.out i hlt2] at d1
              rw [HF.out k hlt3] at d3
              have kd1 := cell_regrown d1; have kd2 := cell_regrown d2; have kd3 := cell_regrown d3; have kd4 := cell_regrown d4
              obtain ⟨x, hx⟩ : ∃ x, hb h i k = x := ⟨_, rfl⟩
              obtain ⟨z, hz⟩ : ∃ z, hb h k i = z := ⟨_, rfl⟩
              rw [hx] at d2 kd2; rw [hz] at d4 kd4
              have HX := Lib.hid hx; have HZ := Lib.hid hz
              clear hx hz hT hl
              by_cases hik : i = k
              · have hikb : ((i : Int) == (k : Int)) = true := by simp [hik]
                have HIK := Lib.hid hik; clear hik
                cases x
                · cases z
                  · go_wp2_with fail
                    refine wp_region_quiet_below (by kernel_rfl) (by kernel_rfl) ?_
                    repeat (go_big_quiet_step (fail))
                    refine wpQuiet_nil ?_
                    intro _ hw'
                    obtain ⟨⟨dq, osq⟩, hw''⟩ := hw'
                    subst hw''
                    replace BB := bstep BB (below_regrown _ dq osq)
                    go_wp2_with fail
                    go_roundw
                    case rel =>
                      refine ⟨k + 1, by omega, by go_num, fun q hq => ?_, BB⟩
                      rcases Nat.lt_or_ge q k with h1 | h1
                      · exact HJ.out q h1
                      · rw [show q = k by omega, HX.out, HZ.out]; exact ⟨rfl, fun e => by have h1 := HX.out; rw [e] at h1; first | exact h1 | (rw [← HIK.out] at h1; exact h1)⟩
                    case measure => simp [intOf]; omega
                  · have e : y = false := no fun hv => by have := hv.2.2.1 i (by rw [← HN.out]; exact hlt2) k (by rw [← HN.out]; exact hlt3); rw [HX.out, HZ.out] at this; cases this
                    subst e
                    clear no HY
                    go_wp2_with fail
                    refine wp_region_quiet_below (by kernel_rfl) (by kernel_rfl) ?_
                    repeat (go_big_quiet_step (fail))
                    refine wpQuiet_nil ?_
                    intro _ hw'
                    obtain ⟨⟨dq, osq⟩, hw''⟩ := hw'
                    subst hw''
                    replace BB := bstep BB (below_regrown _ dq osq)
                    go_wp2_with fail
                    go_ret
                    exact ⟨rfl, BB⟩
                · cases z
                  · have e : y = false := no fun hv => by have := hv.2.2.1 i (by rw [← HN.out]; exact hlt2) k (by rw [← HN.out]; exact hlt3); rw [HX.out, HZ.out] at this; cases this
                    subst e
                    clear no HY
                    go_wp2_with fail
                    refine wp_region_quiet_below (by kernel_rfl) (by kernel_rfl) ?_
                    repeat (go_big_quiet_step (fail))
                    refine wpQuiet_nil ?_
                    intro _ hw'
                    obtain ⟨⟨dq, osq⟩, hw''⟩ := hw'
                    subst hw''
                    replace BB := bstep BB (below_regrown _ dq osq)
                    go_wp2_with fail
                    go_ret
                    exact ⟨rfl, BB⟩
                  · have e : y = false := no fun hv => by have := hv.2.2.2 i (by rw [← HN.out]; exact hlt2); have h1 := HX.out; rw [← HIK.out, this] at h1; cases h1
                    subst e
                    clear no HY
                    go_wp2_with fail
                    refine wp_region_quiet_below (by kernel_rfl) (by kernel_rfl) ?_
                    repeat (go_big_quiet_step (fail))
                    refine wpQuiet_nil ?_
                    intro _ hw'
                    obtain ⟨⟨dq, osq⟩, hw''⟩ := hw'
                    subst hw''
                    replace BB := bstep BB (below_regrown _ dq osq)
                    go_wp2_with fail
                    go_ret
                    exact ⟨rfl, BB⟩
              · have hikb : ((i : Int) == (k : Int)) = false := by simp; omega
                have HIK := Lib.hid hik; clear hik
                cases x
                · cases z
                  · go_wp2_with fail
                    refine wp_region_quiet_below (by kernel_rfl) (by kernel_rfl) ?_
                    repeat (go_big_quiet_step (fail))
                    refine wpQuiet_nil ?_
                    intro _ hw'
                    obtain ⟨⟨dq, osq⟩, hw''⟩ := hw'
                    subst hw''
                    replace BB := bstep BB (below_regrown _ dq osq)
                    go_wp2_with fail
                    go_roundw
                    case rel =>
                      refine ⟨k + 1, by omega, by go_num, fun q hq => ?_, BB⟩
                      rcases Nat.lt_or_ge q k with h1 | h1
                      · exact HJ.out q h1
                      · rw [show q = k by omega, HX.out, HZ.out]; exact ⟨rfl, fun e => absurd e.symm HIK.out⟩
                    case measure => simp [intOf]; omega
                  · have e : y = false := no fun hv => by have := hv.2.2.1 i (by rw [← HN.out]; exact hlt2) k (by rw [← HN.out]; exact hlt3); rw [HX.out, HZ.out] at this; cases this
                    subst e
                    clear no HY
                    go_wp2_with fail
                    refine wp_region_quiet_below (by kernel_rfl) (by kernel_rfl) ?_
                    repeat (go_big_quiet_step (fail))
                    refine wpQuiet_nil ?_
                    intro _ hw'
                    obtain ⟨⟨dq, osq⟩, hw''⟩ := hw'
                    subst hw''
                    replace BB := bstep BB (below_regrown _ dq osq)
                    go_wp2_with fail
                    go_ret
                    exact ⟨rfl, BB⟩
                · cases z
                  · have e : y = false := no fun hv => by have := hv.2.2.1 i (by rw [← HN.out]; exact hlt2) k (by rw [← HN.out]; exact hlt3); rw [HX.out, HZ.out] at this; cases this
                    subst e
                    clear no HY
                    go_wp2_with fail
                    refine wp_region_quiet_below (by kernel_rfl) (by kernel_rfl) ?_
                    repeat (go_big_quiet_step (fail))
                    refine wpQuiet_nil ?_
                    intro _ hw'
                    obtain ⟨⟨dq, osq⟩, hw''⟩ := hw'
                    subst hw''
                    replace BB := bstep BB (below_regrown _ dq osq)
                    go_wp2_with fail
                    go_ret
                    exact ⟨rfl, BB⟩
                  · go_wp2_with fail
                    refine wp_region_quiet_below (by kernel_rfl) (by kernel_rfl) ?_
                    repeat (go_big_quiet_step (fail))
                    refine wpQuiet_nil ?_
                    intro _ hw'
                    obtain ⟨⟨dq, osq⟩, hw''⟩ := hw'
                    subst hw''
                    replace BB := bstep BB (below_regrown _ dq osq)
                    go_wp2_with fail
                    go_roundw
                    case rel =>
                      refine ⟨k + 1, by omega, by go_num, fun q hq => ?_, BB⟩
                      rcases Nat.lt_or_ge q k with h1 | h1
                      · exact HJ.out q h1
                      · rw [show q = k by omega, HX.out, HZ.out]; exact ⟨rfl, fun e => absurd e.symm HIK.out⟩
                    case measure => simp [intOf]; omega
            · have hkn' : n = k := by omega
              subst hkn'
              go_wp2_with fail
              go_roundw
              case rel =>
                refine ⟨i + 1, by omega, by go_num, fun p hp q hq => ?_, BB⟩
                rcases Nat.lt_or_ge p i with h1 | h1
                · exact HG.out p h1 q hq
                · rw [show p = i by omega]; exact ⟨(HJ.out q hq).1, (HJ.out i hlt2).2 rfl⟩
              case measure => simp [intOf]; omega
        · have hin' : n = i := by omega
          subst hin'
          have hv : Valid h := ⟨by rw [← HN.out]; omega, fun q hq => by rw [← HN.out] at hq ⊢; exact HF.out q hq, fun p hp q hq => by rw [← HN.out] at hp hq; exact (HG.out p hp q hq).1, fun p hp => by rw [← HN.out] at hp; exact (HG.out p hp p hp).2⟩
          have e : y = true := by rw [← HY.out]; exact valid_true hv
          subst e
          clear no HY hv
          go_wp2_with fail
          go_ret
          exact ⟨rfl, BB⟩

set_option maxRecDepth 100000 in
set_option maxHeartbeats 4000000 in
theorem isvalid_at (h : Tab) (n : Nat) (a : Option Addr) (cap : Nat) (y : Bool) (w : World) (hn : n = h.length) (hl : TabAt w a h) (hm : n ≤ maxLen) (hy : validB h = y) : Calls Try.prog 27 #[.slice a n cap] w (Yes y w) := by
  unfold maxLen at hm
  have HN := Lib.hid hn; have HY := Lib.hid hy; clear hn hy
  have no : ¬ Valid h → y = false := fun hv => by rw [← HY.out]; exact valid_false hv
  go_enter Try.func27, Try.ntmps27
  go_wp2_with fail
  go_loopw [8] (fun j wr => ∃ k : Nat, k ≤ n ∧ j = .int .i64 k ∧ (∀ q, q < k → (h.getD q []).length = n ∧ hb h q q = false ∧ ∀ r, r < q → hb h q r = hb h r q) ∧ Below w.heap.size w wr) (fun j _ => n - (intOf j).toNat)
  case atStart => exact ⟨0, Nat.zero_le _, rfl, fun q hq => absurd hq (Nat.not_lt_zero _), Below.refl _ _⟩
  case round =>
    obtain ⟨i, hin, rfl, hf, BB⟩ := hrel
    have HF := Lib.hid hf; clear hf
    by_cases hlt : i < n
    · have hlt' : (i : Int) < (n : Int) := by omega
      have hk0 : (0 : Int) ≤ (i : Int) := by omega
      obtain ⟨b, off, rfl, hT⟩ := tab_at hl (i := i) (by rw [← HN.out]; exact hlt)
      by_cases he : (h.getD i []).length = n
      · obtain ⟨b1, o1, r1, d0, d2⟩ := row_cell hT (Below.refl _ w) (i := i) (k := i) (by rw [← HN.out]; exact hlt) (by rw [he]; exact hlt)
        have D0 := Lib.hid d0
        have d1 := keep1 BB d0
        replace d2 := keep1 BB d2
        rw [he] at d1
        clear d0
        have HE := Lib.hid he; clear he
        obtain ⟨x, hx⟩ : ∃ x, hb h i i = x := ⟨_, rfl⟩
        rw [hx] at d2
        have HX := Lib.hid hx; clear hx
        cases x
        · go_wp2_with fail
          clear d2 d1
          go_loopw [25] (fun j wz => ∃ k : Nat, k ≤ i ∧ j = .int .i64 k ∧ (∀ q, q < k → hb h i q = hb h q i) ∧ Below w.heap.size w wz) (fun j _ => i - (intOf j).toNat)
          case atStart => exact ⟨0, Nat.zero_le _, rfl, fun q hq => absurd hq (Nat.not_lt_zero _), BB⟩
          case round =>
            clear BB
            obtain ⟨k, hkn, rfl, hj, BB⟩ := hrel
            have HJ := Lib.hid hj; clear hj
            by_cases hlt3 : k < i
            · have hk1 : (k : Int) < (i : Int) := by omega
              have hk2 : (k : Int) < (n : Int) := by omega
              have hkk0 : (0 : Int) ≤ (k : Int) := by omega
              obtain ⟨b3, o3, r3, d3, d4⟩ := row_cell hT BB (i := k) (k := i) (by rw [← HN.out]; omega) (by rw [(HF.out k hlt3).1]; exact hlt)
              obtain ⟨b5, o5, r5, d5, d6⟩ := row_cell hT (Below.refl _ w) (i := i) (k := k) (by rw [← HN.out]; exact hlt) (by rw [HE.out]; omega)
              rw [(HF.out k hlt3).1] at d3
              have same : b1 = b5 ∧ o1 = o5 := by
                have h8 := D0.out
                rw [d5] at h8
                simp at h8
                exact ⟨h8.1.1.symm, h8.1.2.symm⟩
              obtain ⟨rfl, rfl⟩ := same
              replace d6 := keep1 BB d6
              have kd3 := cell_regrown d3; have kd4 := cell_regrown d4; have kd6 := cell_regrown d6
              obtain ⟨x, hx⟩ : ∃ x, hb h i k = x := ⟨_, rfl⟩
              obtain ⟨z, hz⟩ : ∃ z, hb h k i = z := ⟨_, rfl⟩
              rw [hx] at d6 kd6; rw [hz] at d4 kd4
              have HX2 := Lib.hid hx; have HZ := Lib.hid hz
              clear hx hz d5
              cases x
              · cases z
                · go_wp2_with fail
                  refine wp_region_quiet_below (by kernel_rfl) (by kernel_rfl) ?_
                  repeat (go_big_quiet_step (fail))
                  refine wpQuiet_nil ?_
                  intro _ hw'
                  obtain ⟨⟨dq, osq⟩, hw''⟩ := hw'
                  subst hw''
                  replace BB := bstep BB (below_regrown _ dq osq)
                  go_wp2_with fail
                  go_roundw
                  case rel =>
                    refine ⟨k + 1, by omega, by go_num, fun q hq => ?_, BB⟩
                    rcases Nat.lt_or_ge q k with h1 | h1
                    · exact HJ.out q h1
                    · rw [show q = k by omega, HX2.out, HZ.out]
                  case measure => simp [intOf]; omega
                · have e : y = false := no fun hv => by have := hv.2.2.1 i (by rw [← HN.out]; exact hlt) k (by rw [← HN.out]; omega); rw [HX2.out, HZ.out] at this; cases this
                  subst e
                  clear no HY
                  go_wp2_with fail
                  refine wp_region_quiet_below (by kernel_rfl) (by kernel_rfl) ?_
                  repeat (go_big_quiet_step (fail))
                  refine wpQuiet_nil ?_
                  intro _ hw'
                  obtain ⟨⟨dq, osq⟩, hw''⟩ := hw'
                  subst hw''
                  replace BB := bstep BB (below_regrown _ dq osq)
                  go_wp2_with fail
                  go_ret
                  exact ⟨rfl, BB⟩
              · cases z
                · have e : y = false := no fun hv => by have := hv.2.2.1 i (by rw [← HN.out]; exact hlt) k (by rw [← HN.out]; omega); rw [HX2.out, HZ.out] at this; cases this
                  subst e
                  clear no HY
                  go_wp2_with fail
                  refine wp_region_quiet_below (by kernel_rfl) (by kernel_rfl) ?_
                  repeat (go_big_quiet_step (fail))
                  refine wpQuiet_nil ?_
                  intro _ hw'
                  obtain ⟨⟨dq, osq⟩, hw''⟩ := hw'
                  subst hw''
                  replace BB := bstep BB (below_regrown _ dq osq)
                  go_wp2_with fail
                  go_ret
                  exact ⟨rfl, BB⟩
                · go_wp2_with fail
                  refine wp_region_quiet_below (by kernel_rfl) (by kernel_rfl) ?_
                  repeat (go_big_quiet_step (fail))
                  refine wpQuiet_nil ?_
                  intro _ hw'
                  obtain ⟨⟨dq, osq⟩, hw''⟩ := hw'
                  subst hw''
                  replace BB := bstep BB (below_regrown _ dq osq)
                  go_wp2_with fail
                  go_roundw
                  case rel =>
                    refine ⟨k + 1, by omega, by go_num, fun q hq => ?_, BB⟩
                    rcases Nat.lt_or_ge q k with h1 | h1
                    · exact HJ.out q h1
                    · rw [show q = k by omega, HX2.out, HZ.out]
                  case measure => simp [intOf]; omega
            · have hkn' : k = i := by omega
              subst hkn'
              go_wp2_with fail
              go_roundw
              case rel =>
                refine ⟨k + 1, by omega, by go_num, fun q hq => ?_, BB⟩
                rcases Nat.lt_or_ge q k with h1 | h1
                · exact HF.out q h1
                · rw [show q = k by omega]; exact ⟨HE.out, HX.out, HJ.out⟩
              case measure => simp [intOf]; omega
        · have e : y = false := no fun hv => by have := hv.2.2.2 i (by rw [← HN.out]; exact hlt); rw [HX.out] at this; cases this
          subst e
          clear no HY
          go_wp2_with fail
          go_ret
          exact ⟨rfl, BB⟩
      · have e : y = false := no fun hv => he (by rw [HN.out]; exact hv.2.1 i (by rw [← HN.out]; exact hlt))
        subst e
        obtain ⟨ra, rc, c, _, hr⟩ := hT i (by rw [← HN.out]; exact hlt)
        replace c := keep1 BB c
        obtain ⟨m, hmm⟩ : ∃ m, (h.getD i []).length = m := ⟨_, rfl⟩
        rw [hmm] at c hr he
        unfold maxLen at hr
        have hb1 : ((m : Int) == (n : Int)) = false := by simp; omega
        have hb2 : ((m : Int) != (n : Int)) = true := by simp; omega
        clear no HY hT hl hmm
        go_wp2_with fail
        go_ret
        exact ⟨rfl, BB⟩
    · have hin' : n = i := by omega
      subst hin'
      by_cases h60 : (n : Int) ≤ 60
      · have hv : Valid h := ⟨by rw [← HN.out]; omega, fun q hq => by rw [← HN.out] at hq ⊢; exact (HF.out q hq).1, fun p hp q hq => by
          rw [← HN.out] at hp hq
          rcases Nat.lt_trichotomy p q with h1 | h1 | h1
          · exact ((HF.out q hq).2.2 p h1).symm
          · rw [h1]
          · exact (HF.out p hp).2.2 q h1, fun p hp => by rw [← HN.out] at hp; exact (HF.out p hp).2.1⟩
        have e : y = true := by rw [← HY.out]; exact valid_true hv
        subst e
        clear no HY hv
        go_wp2_with fail
        go_ret
        exact ⟨by simp [h60], BB⟩
      · have e : y = false := no fun hv => by have := hv.1; rw [← HN.out] at this; omega
        subst e
        clear no HY
        go_wp2_with fail
        go_ret
        exact ⟨by simp [h60], BB⟩
end Go.Proofs.Ytkomgjkeikaigaa
