/- Proved: what the reference functions of layer 15 return; that the laws' fixed examples hold; and that the laws DutyMatchesReference, DutyNotBoth, DutyEnough and DutyBounds return true. Conditions: none. -/
import Derived.Test.YtnihkgoopkbegaaW1
namespace Go.Proofs.Ytnihkgoopkbegaa
open Go.RowKit
set_option linter.unusedVariables false

theorem bstep {w0 w w' : World} (h : Below w0.heap.size w0 w) (h' : Below w.heap.size w w') : Below w0.heap.size w0 w' :=
  h.trans (h'.mono h.size)

theorem wanted_bd (a : Int) (h : 0 ≤ a) : 0 ≤ wanted a ∧ wanted a ≤ 6 := by unfold wanted; omega

theorem rwanted_any (a : Int) (w : World) (ha : 0 ≤ a) (ha' : a ≤ 16) :
    Calls Try.prog 18 #[.int .i64 a] w fun e w' => e = .returned (.int .i64 (wanted a)) ∧ w = w' := by
  go_enter Try.func18, Try.ntmps18
  go_wp2
  go_ret
  exact ⟨rfl, rfl⟩

theorem rright_any (a c : Int) (w : World) :
    Calls Try.prog 14 #[.int .i64 a, .int .i64 c] w fun e w' => e = .returned (.bool (right a c)) ∧ w = w' := by
  by_cases h1 : 0 ≤ a
  · by_cases h2 : a ≤ 16
    · by_cases h3 : 0 ≤ c
      · by_cases h4 : c ≤ 24
        · have e1 : right a c = true := by simp [right, inB]; omega
          rw [e1]
          go_enter Try.func14, Try.ntmps14
          go_wp2
          go_ret
          exact ⟨rfl, rfl⟩
        · have e1 : right a c = false := by simp [right, inB]; omega
          rw [e1]
          go_enter Try.func14, Try.ntmps14
          go_wp2
          go_ret
          exact ⟨rfl, rfl⟩
      · have e1 : right a c = false := by simp [right, inB]; omega
        rw [e1]
        go_enter Try.func14, Try.ntmps14
        go_wp2
        go_ret
        exact ⟨rfl, rfl⟩
    · have e1 : right a c = false := by simp [right, inB]; omega
      rw [e1]
      go_enter Try.func14, Try.ntmps14
      go_wp2
      go_ret
      exact ⟨rfl, rfl⟩
  · have e1 : right a c = false := by simp [right, inB]; omega
    rw [e1]
    go_enter Try.func14, Try.ntmps14
    go_wp2
    go_ret
    exact ⟨rfl, rfl⟩

theorem right_bd {a c : Int} (hr : right a c = true) : 0 ≤ a ∧ a ≤ 16 ∧ 0 ≤ c ∧ c ≤ 24 := by
  simp [right, inB] at hr; omega

theorem rneed_any (a c : Int) (full : Bool) (w : World) :
    Calls Try.prog 11 #[.int .i64 a, .int .i64 c, .bool full] w fun e w' => e = .returned (.int .i64 (needN a c full)) ∧ w = w' := by
  cases hr : right a c
  · have e0 : needN a c full = 0 := by simp [needN, hr]
    rw [e0]
    go_enter Try.func11, Try.ntmps11
    go_wp2_with (first | (go_at_call 14; refine (rright_any _ _ _).mono ?_; rintro e w' ⟨rfl, rfl⟩))
    go_ret
    exact ⟨rfl, rfl⟩
  · obtain ⟨h1, h2, h3, h4⟩ := right_bd hr
    obtain ⟨b1, b2⟩ := wanted_bd a h1
    cases full
    · by_cases hw : wanted a < c
      · have e0 : needN a c false = 0 := by simp [needN, hr]; omega
        rw [e0]
        go_enter Try.func11, Try.ntmps11
        go_wp2_with (first | (go_at_call 14; refine (rright_any _ _ _).mono ?_; rintro e w' ⟨rfl, rfl⟩) | (go_at_call 18; refine (rwanted_any _ _ h1 h2).mono ?_; rintro e w' ⟨rfl, rfl⟩))
        go_ret
        exact ⟨rfl, rfl⟩
      · have e0 : needN a c false = wanted a - c := by simp [needN, hr]; omega
        rw [e0]
        go_enter Try.func11, Try.ntmps11
        go_wp2_with (first | (go_at_call 14; refine (rright_any _ _ _).mono ?_; rintro e w' ⟨rfl, rfl⟩) | (go_at_call 18; refine (rwanted_any _ _ h1 h2).mono ?_; rintro e w' ⟨rfl, rfl⟩))
        go_ret
        exact ⟨rfl, rfl⟩
    · have e0 : needN a c true = 0 := by simp [needN, hr]
      rw [e0]
      go_enter Try.func11, Try.ntmps11
      go_wp2_with (first | (go_at_call 14; refine (rright_any _ _ _).mono ?_; rintro e w' ⟨rfl, rfl⟩))
      go_ret
      exact ⟨rfl, rfl⟩

theorem rspare_any (a c i : Int) (w : World) :
    Calls Try.prog 13 #[.int .i64 a, .int .i64 c, .int .i64 i] w fun e w' => e = .returned (.int .i64 (spareN a c i)) ∧ w = w' := by
  cases hr : right a c
  · have e0 : spareN a c i = 0 := by simp [spareN, hr]
    rw [e0]
    go_enter Try.func13, Try.ntmps13
    go_wp2_with (first | (go_at_call 14; refine (rright_any _ _ _).mono ?_; rintro e w' ⟨rfl, rfl⟩))
    go_ret
    exact ⟨rfl, rfl⟩
  · obtain ⟨h1, h2, h3, h4⟩ := right_bd hr
    obtain ⟨b1, b2⟩ := wanted_bd a h1
    by_cases hi : i < 4
    · have e0 : spareN a c i = 0 := by simp [spareN, hr]; omega
      rw [e0]
      go_enter Try.func13, Try.ntmps13
      go_wp2_with (first | (go_at_call 14; refine (rright_any _ _ _).mono ?_; rintro e w' ⟨rfl, rfl⟩))
      go_ret
      exact ⟨rfl, rfl⟩
    · by_cases hw : c < wanted a
      · have e0 : spareN a c i = 0 := by simp [spareN, hr]; omega
        rw [e0]
        go_enter Try.func13, Try.ntmps13
        go_wp2_with (first | (go_at_call 14; refine (rright_any _ _ _).mono ?_; rintro e w' ⟨rfl, rfl⟩) | (go_at_call 18; refine (rwanted_any _ _ h1 h2).mono ?_; rintro e w' ⟨rfl, rfl⟩))
        go_ret
        exact ⟨rfl, rfl⟩
      · have e0 : spareN a c i = c - wanted a := by
          have hi' : 4 ≤ i := by omega
          simp [spareN, hr, hi']; omega
        rw [e0]
        go_enter Try.func13, Try.ntmps13
        go_wp2_with (first | (go_at_call 14; refine (rright_any _ _ _).mono ?_; rintro e w' ⟨rfl, rfl⟩) | (go_at_call 18; refine (rwanted_any _ _ h1 h2).mono ?_; rintro e w' ⟨rfl, rfl⟩))
        go_ret
        exact ⟨rfl, rfl⟩

theorem head_any (w : World) : Calls Try.prog 9 #[] w fun e w' => e = .returned (.bool true) ∧ Below w.heap.size w w' := by
  have v1 : needN 5 1 false = 2 := by decide
  have v2 : needN 5 1 true = 0 := by decide
  have v3 : needN 0 3 false = 0 := by decide
  have v4 : needN 16 0 false = 6 := by decide
  have v5 : needN 17 0 false = 0 := by decide
  have v6 : spareN 0 3 4 = 3 := by decide
  have v7 : spareN 0 3 3 = 0 := by decide
  have v8 : spareN 3 2 9 = 0 := by decide
  have v9 : spareN 0 25 9 = 0 := by decide
  have hb := Below.refl w.heap.size w
  go_enter Try.func9, Try.ntmps9
  go_wp2_with (first | (go_at_call 10; refine (need_any _ _ _ _).mono ?_; rintro e w1 ⟨rfl, hb'⟩; have hb := bstep hb hb'; clear hb') | (go_at_call 12; refine (spare_any _ _ _ _).mono ?_; rintro e w1 ⟨rfl, hb'⟩; have hb := bstep hb hb'; clear hb'))
  go_ret
  exact ⟨rfl, hb⟩

theorem lawMatches (a c i : Int) (full : Bool) (w : World) :
    Calls Try.prog 3 #[.int .i64 a, .int .i64 c, .int .i64 i, .bool full] w fun e w' => e = .returned (.bool true) ∧ Below w.heap.size w w' := by
  have hb := Below.refl w.heap.size w
  go_enter Try.func3, Try.ntmps3
  go_wp2_with (first | (go_at_call 9; refine (head_any _).mono ?_; rintro e w1 ⟨rfl, hb'⟩; have hb := bstep hb hb'; clear hb') | (go_at_call 10; refine (need_any _ _ _ _).mono ?_; rintro e w1 ⟨rfl, hb'⟩; have hb := bstep hb hb'; clear hb') | (go_at_call 12; refine (spare_any _ _ _ _).mono ?_; rintro e w1 ⟨rfl, hb'⟩; have hb := bstep hb hb'; clear hb') | (go_at_call 11; refine (rneed_any _ _ _ _).mono ?_; rintro e w1 ⟨rfl, rfl⟩) | (go_at_call 13; refine (rspare_any _ _ _ _).mono ?_; rintro e w1 ⟨rfl, rfl⟩) | (go_at_call 14; refine (rright_any _ _ _).mono ?_; rintro e w1 ⟨rfl, rfl⟩))
  go_ret
  exact ⟨rfl, hb⟩

theorem lawNotBoth (a c i : Int) (full : Bool) (w : World) :
    Calls Try.prog 5 #[.int .i64 a, .int .i64 c, .int .i64 i, .bool full] w fun e w' => e = .returned (.bool true) ∧ Below w.heap.size w w' := by
  have h1 : 0 ≤ needN a c full := by unfold needN; split <;> omega
  have h2 : 0 ≤ spareN a c i := by unfold spareN; split <;> omega
  have hb := Below.refl w.heap.size w
  by_cases h3 : needN a c full = 0
  · have h3' : (needN a c full == 0) = true := by simpa using h3
    have H3 := Lib.hid h3; clear h3
    go_enter Try.func5, Try.ntmps5
    go_wp2_with (first | (go_at_call 9; refine (head_any _).mono ?_; rintro e w1 ⟨rfl, hb'⟩; have hb := bstep hb hb'; clear hb') | (go_at_call 10; refine (need_any _ _ _ _).mono ?_; rintro e w1 ⟨rfl, hb'⟩; have hb := bstep hb hb'; clear hb') | (go_at_call 12; refine (spare_any _ _ _ _).mono ?_; rintro e w1 ⟨rfl, hb'⟩; have hb := bstep hb hb'; clear hb') | (go_at_call 11; refine (rneed_any _ _ _ _).mono ?_; rintro e w1 ⟨rfl, rfl⟩) | (go_at_call 13; refine (rspare_any _ _ _ _).mono ?_; rintro e w1 ⟨rfl, rfl⟩) | (go_at_call 14; refine (rright_any _ _ _).mono ?_; rintro e w1 ⟨rfl, rfl⟩))
    go_ret
    exact ⟨rfl, hb⟩
  · have h4 : spareN a c i = 0 := by
      unfold needN at h3
      unfold spareN
      cases hr : right a c <;> cases full <;> simp [hr] at h3 ⊢
      all_goals omega
    have h3' : (needN a c full == 0) = false := by simpa using h3
    have h4' : (spareN a c i == 0) = true := by simpa using h4
    have H4 := Lib.hid h4; clear h4 h3
    go_enter Try.func5, Try.ntmps5
    go_wp2_with (first | (go_at_call 9; refine (head_any _).mono ?_; rintro e w1 ⟨rfl, hb'⟩; have hb := bstep hb hb'; clear hb') | (go_at_call 10; refine (need_any _ _ _ _).mono ?_; rintro e w1 ⟨rfl, hb'⟩; have hb := bstep hb hb'; clear hb') | (go_at_call 12; refine (spare_any _ _ _ _).mono ?_; rintro e w1 ⟨rfl, hb'⟩; have hb := bstep hb hb'; clear hb') | (go_at_call 11; refine (rneed_any _ _ _ _).mono ?_; rintro e w1 ⟨rfl, rfl⟩) | (go_at_call 13; refine (rspare_any _ _ _ _).mono ?_; rintro e w1 ⟨rfl, rfl⟩) | (go_at_call 14; refine (rright_any _ _ _).mono ?_; rintro e w1 ⟨rfl, rfl⟩))
    go_ret
    exact ⟨rfl, hb⟩

theorem lawEnough (a c i : Int) (w : World) :
    Calls Try.prog 4 #[.int .i64 a, .int .i64 c, .int .i64 i] w fun e w' => e = .returned (.bool true) ∧ Below w.heap.size w w' := by
  have hb := Below.refl w.heap.size w
  cases hr : right a c
  · go_enter Try.func4, Try.ntmps4
    go_wp2_with (first | (go_at_call 9; refine (head_any _).mono ?_; rintro e w1 ⟨rfl, hb'⟩; have hb := bstep hb hb'; clear hb') | (go_at_call 10; refine (need_any _ _ _ _).mono ?_; rintro e w1 ⟨rfl, hb'⟩; have hb := bstep hb hb'; clear hb') | (go_at_call 12; refine (spare_any _ _ _ _).mono ?_; rintro e w1 ⟨rfl, hb'⟩; have hb := bstep hb hb'; clear hb') | (go_at_call 11; refine (rneed_any _ _ _ _).mono ?_; rintro e w1 ⟨rfl, rfl⟩) | (go_at_call 13; refine (rspare_any _ _ _ _).mono ?_; rintro e w1 ⟨rfl, rfl⟩) | (go_at_call 14; refine (rright_any _ _ _).mono ?_; rintro e w1 ⟨rfl, rfl⟩))
    go_ret
    exact ⟨rfl, hb⟩
  · obtain ⟨h1, h2, h3, h4⟩ := right_bd hr
    obtain ⟨b1, b2⟩ := wanted_bd a h1
    have n1 : 0 ≤ needN a c false ∧ needN a c false ≤ 6 := by unfold needN; split <;> omega
    have n2 : 0 ≤ spareN a c (max 4 i) ∧ spareN a c (max 4 i) ≤ 24 := by unfold spareN; split <;> omega
    obtain ⟨n3, n4⟩ := n1
    obtain ⟨n5, n6⟩ := n2
    have e1 : c + needN a c false - spareN a c (max 4 i) = wanted a := by
      have hi : 4 ≤ max 4 i := by omega
      simp only [needN, spareN, hr, hi]; simp; omega
    have hr2 : right a (wanted a) = true := by simp [right, inB]; omega
    have hf1 : (needN a (c + needN a c false - spareN a c (max 4 i)) false == 0) = true := by rw [e1]; simp [needN]
    have hf2 : (spareN a (c + needN a c false - spareN a c (max 4 i)) (max 4 i) == 0) = true := by rw [e1]; simp [spareN]
    have E1 := Lib.hid e1; clear e1
    go_enter Try.func4, Try.ntmps4
    go_wp2_with (first | (go_at_call 9; refine (head_any _).mono ?_; rintro e w1 ⟨rfl, hb'⟩; have hb := bstep hb hb'; clear hb') | (go_at_call 10; refine (need_any _ _ _ _).mono ?_; rintro e w1 ⟨rfl, hb'⟩; have hb := bstep hb hb'; clear hb') | (go_at_call 12; refine (spare_any _ _ _ _).mono ?_; rintro e w1 ⟨rfl, hb'⟩; have hb := bstep hb hb'; clear hb') | (go_at_call 11; refine (rneed_any _ _ _ _).mono ?_; rintro e w1 ⟨rfl, rfl⟩) | (go_at_call 13; refine (rspare_any _ _ _ _).mono ?_; rintro e w1 ⟨rfl, rfl⟩) | (go_at_call 14; refine (rright_any _ _ _).mono ?_; rintro e w1 ⟨rfl, rfl⟩))
    go_ret
    exact ⟨rfl, hb⟩

theorem lawBounds (a c i : Int) (w : World) :
    Calls Try.prog 7 #[.int .i64 a, .int .i64 c, .int .i64 i] w fun e w' => e = .returned (.bool true) ∧ Below w.heap.size w w' := by
  have hb := Below.refl w.heap.size w
  cases hr : right a c
  · go_enter Try.func7, Try.ntmps7
    go_wp2_with (first | (go_at_call 9; refine (head_any _).mono ?_; rintro e w1 ⟨rfl, hb'⟩; have hb := bstep hb hb'; clear hb') | (go_at_call 10; refine (need_any _ _ _ _).mono ?_; rintro e w1 ⟨rfl, hb'⟩; have hb := bstep hb hb'; clear hb') | (go_at_call 12; refine (spare_any _ _ _ _).mono ?_; rintro e w1 ⟨rfl, hb'⟩; have hb := bstep hb hb'; clear hb') | (go_at_call 11; refine (rneed_any _ _ _ _).mono ?_; rintro e w1 ⟨rfl, rfl⟩) | (go_at_call 13; refine (rspare_any _ _ _ _).mono ?_; rintro e w1 ⟨rfl, rfl⟩) | (go_at_call 14; refine (rright_any _ _ _).mono ?_; rintro e w1 ⟨rfl, rfl⟩))
    go_ret
    exact ⟨rfl, hb⟩
  · obtain ⟨h1, h2, h3, h4⟩ := right_bd hr
    obtain ⟨b1, b2⟩ := wanted_bd a h1
    have n1 : 0 ≤ needN a c false ∧ needN a c false ≤ 6 := by unfold needN; split <;> omega
    have n2 : spareN a c i ≤ c := by unfold spareN; split <;> omega
    obtain ⟨n3, n4⟩ := n1
    have n7 : needN a c false = 0 ∨ c + needN a c false ≤ 6 := by simp only [needN, hr]; simp; omega
    have n8 : 4 ≤ i ∨ spareN a c i = 0 := by
      by_cases hi : 4 ≤ i
      · exact .inl hi
      · exact .inr (by simp [spareN, hi])
    cases m1 : (needN a c false == 0)
    · have m2 : c + needN a c false ≤ 6 := by rcases n7 with h | h; (simp [h] at m1); exact h
      clear n7
      by_cases m3 : 4 ≤ i
      · clear n8
        go_enter Try.func7, Try.ntmps7
        go_wp2_with (first | (go_at_call 9; refine (head_any _).mono ?_; rintro e w1 ⟨rfl, hb'⟩; have hb := bstep hb hb'; clear hb') | (go_at_call 10; refine (need_any _ _ _ _).mono ?_; rintro e w1 ⟨rfl, hb'⟩; have hb := bstep hb hb'; clear hb') | (go_at_call 12; refine (spare_any _ _ _ _).mono ?_; rintro e w1 ⟨rfl, hb'⟩; have hb := bstep hb hb'; clear hb') | (go_at_call 11; refine (rneed_any _ _ _ _).mono ?_; rintro e w1 ⟨rfl, rfl⟩) | (go_at_call 13; refine (rspare_any _ _ _ _).mono ?_; rintro e w1 ⟨rfl, rfl⟩) | (go_at_call 14; refine (rright_any _ _ _).mono ?_; rintro e w1 ⟨rfl, rfl⟩))
        go_ret
        exact ⟨rfl, hb⟩
      · have m4 : (spareN a c i == 0) = true := by rcases n8 with h | h; (exact absurd h m3); simpa using h
        clear n8
        go_enter Try.func7, Try.ntmps7
        go_wp2_with (first | (go_at_call 9; refine (head_any _).mono ?_; rintro e w1 ⟨rfl, hb'⟩; have hb := bstep hb hb'; clear hb') | (go_at_call 10; refine (need_any _ _ _ _).mono ?_; rintro e w1 ⟨rfl, hb'⟩; have hb := bstep hb hb'; clear hb') | (go_at_call 12; refine (spare_any _ _ _ _).mono ?_; rintro e w1 ⟨rfl, hb'⟩; have hb := bstep hb hb'; clear hb') | (go_at_call 11; refine (rneed_any _ _ _ _).mono ?_; rintro e w1 ⟨rfl, rfl⟩) | (go_at_call 13; refine (rspare_any _ _ _ _).mono ?_; rintro e w1 ⟨rfl, rfl⟩) | (go_at_call 14; refine (rright_any _ _ _).mono ?_; rintro e w1 ⟨rfl, rfl⟩))
        go_ret
        exact ⟨rfl, hb⟩
    · clear n7
      by_cases m3 : 4 ≤ i
      · clear n8
        go_enter Try.func7, Try.ntmps7
        go_wp2_with (first | (go_at_call 9; refine (head_any _).mono ?_; rintro e w1 ⟨rfl, hb'⟩; have hb := bstep hb hb'; clear hb') | (go_at_call 10; refine (need_any _ _ _ _).mono ?_; rintro e w1 ⟨rfl, hb'⟩; have hb := bstep hb hb'; clear hb') | (go_at_call 12; refine (spare_any _ _ _ _).mono ?_; rintro e w1 ⟨rfl, hb'⟩; have hb := bstep hb hb'; clear hb') | (go_at_call 11; refine (rneed_any _ _ _ _).mono ?_; rintro e w1 ⟨rfl, rfl⟩) | (go_at_call 13; refine (rspare_any _ _ _ _).mono ?_; rintro e w1 ⟨rfl, rfl⟩) | (go_at_call 14; refine (rright_any _ _ _).mono ?_; rintro e w1 ⟨rfl, rfl⟩))
        go_ret
        exact ⟨rfl, hb⟩
      · have m4 : (spareN a c i == 0) = true := by rcases n8 with h | h; (exact absurd h m3); simpa using h
        clear n8
        go_enter Try.func7, Try.ntmps7
        go_wp2_with (first | (go_at_call 9; refine (head_any _).mono ?_; rintro e w1 ⟨rfl, hb'⟩; have hb := bstep hb hb'; clear hb') | (go_at_call 10; refine (need_any _ _ _ _).mono ?_; rintro e w1 ⟨rfl, hb'⟩; have hb := bstep hb hb'; clear hb') | (go_at_call 12; refine (spare_any _ _ _ _).mono ?_; rintro e w1 ⟨rfl, hb'⟩; have hb := bstep hb hb'; clear hb') | (go_at_call 11; refine (rneed_any _ _ _ _).mono ?_; rintro e w1 ⟨rfl, rfl⟩) | (go_at_call 13; refine (rspare_any _ _ _ _).mono ?_; rintro e w1 ⟨rfl, rfl⟩) | (go_at_call 14; refine (rright_any _ _ _).mono ?_; rintro e w1 ⟨rfl, rfl⟩))
        go_ret
        exact ⟨rfl, hb⟩
end Go.Proofs.Ytnihkgoopkbegaa
