/- Proved: that the laws DutyMore and DutyDrain return true for every input. Conditions: none. -/
import Derived.Test.YtnihkgoopkbegaaW2
namespace Go.Proofs.Ytnihkgoopkbegaa
open Go.RowKit
set_option linter.unusedVariables false

theorem lawMore (a c i m : Int) (full : Bool) (w : World) :
    Calls Try.prog 6 #[.int .i64 a, .int .i64 c, .int .i64 i, .int .i64 m, .bool full] w fun e w' => e = .returned (.bool true) ∧ Below w.heap.size w w' := by
  have hb := Below.refl w.heap.size w
  cases hr : right a c
  · go_enter Try.func6, Try.ntmps6
    go_wp2_with (first | (go_at_call 9; refine (head_any _).mono ?_; rintro e w1 ⟨rfl, hb'⟩; have hb := bstep hb hb'; clear hb') | (go_at_call 10; refine (need_any _ _ _ _).mono ?_; rintro e w1 ⟨rfl, hb'⟩; have hb := bstep hb hb'; clear hb') | (go_at_call 12; refine (spare_any _ _ _ _).mono ?_; rintro e w1 ⟨rfl, hb'⟩; have hb := bstep hb hb'; clear hb') | (go_at_call 14; refine (rright_any _ _ _).mono ?_; rintro e w1 ⟨rfl, rfl⟩))
    go_ret
    exact ⟨rfl, hb⟩
  · obtain ⟨h1, h2, h3, h4⟩ := right_bd hr
    by_cases hm : m < 0
    · go_enter Try.func6, Try.ntmps6
      go_wp2_with (first | (go_at_call 9; refine (head_any _).mono ?_; rintro e w1 ⟨rfl, hb'⟩; have hb := bstep hb hb'; clear hb') | (go_at_call 10; refine (need_any _ _ _ _).mono ?_; rintro e w1 ⟨rfl, hb'⟩; have hb := bstep hb hb'; clear hb') | (go_at_call 12; refine (spare_any _ _ _ _).mono ?_; rintro e w1 ⟨rfl, hb'⟩; have hb := bstep hb hb'; clear hb') | (go_at_call 14; refine (rright_any _ _ _).mono ?_; rintro e w1 ⟨rfl, rfl⟩))
      go_ret
      exact ⟨rfl, hb⟩
    · by_cases hm2 : 16 - a < m
      · go_enter Try.func6, Try.ntmps6
        go_wp2_with (first | (go_at_call 9; refine (head_any _).mono ?_; rintro e w1 ⟨rfl, hb'⟩; have hb := bstep hb hb'; clear hb') | (go_at_call 10; refine (need_any _ _ _ _).mono ?_; rintro e w1 ⟨rfl, hb'⟩; have hb := bstep hb hb'; clear hb') | (go_at_call 12; refine (spare_any _ _ _ _).mono ?_; rintro e w1 ⟨rfl, hb'⟩; have hb := bstep hb hb'; clear hb') | (go_at_call 14; refine (rright_any _ _ _).mono ?_; rintro e w1 ⟨rfl, rfl⟩))
        go_ret
        exact ⟨rfl, hb⟩
      · have hr2 : right (a + m) c = true := by simp [right, inB]; omega
        have n1 : 0 ≤ needN a c full ∧ needN a c full ≤ 6 := by unfold needN wanted; split <;> omega
        have n2 : 0 ≤ needN (a + m) c full ∧ needN (a + m) c full ≤ 6 := by unfold needN wanted; split <;> omega
        have n3 : 0 ≤ spareN a c i ∧ spareN a c i ≤ 24 := by unfold spareN wanted; split <;> omega
        have n4 : 0 ≤ spareN (a + m) c i ∧ spareN (a + m) c i ≤ 24 := by unfold spareN wanted; split <;> omega
        have k1 : needN a c full ≤ needN (a + m) c full := by
          simp only [needN, hr, hr2, wanted]; cases full <;> simp; omega
        have k2 : spareN (a + m) c i ≤ spareN a c i := by
          simp only [spareN, hr, hr2, wanted]; by_cases hi : 4 ≤ i <;> simp [hi]; omega
        obtain ⟨n1, n1'⟩ := n1
        obtain ⟨n2, n2'⟩ := n2
        obtain ⟨n3, n3'⟩ := n3
        obtain ⟨n4, n4'⟩ := n4
        by_cases hm3 : 1 < m
        · go_enter Try.func6, Try.ntmps6
          go_wp2_with (first | (go_at_call 9; refine (head_any _).mono ?_; rintro e w1 ⟨rfl, hb'⟩; have hb := bstep hb hb'; clear hb') | (go_at_call 10; refine (need_any _ _ _ _).mono ?_; rintro e w1 ⟨rfl, hb'⟩; have hb := bstep hb hb'; clear hb') | (go_at_call 12; refine (spare_any _ _ _ _).mono ?_; rintro e w1 ⟨rfl, hb'⟩; have hb := bstep hb hb'; clear hb') | (go_at_call 14; refine (rright_any _ _ _).mono ?_; rintro e w1 ⟨rfl, rfl⟩))
          go_ret
          exact ⟨rfl, hb⟩
        · have k3 : needN (a + m) c full - needN a c full ≤ 1 := by
            simp only [needN, hr, hr2, wanted]; cases full <;> simp; omega
          have k4 : spareN a c i - spareN (a + m) c i ≤ 1 := by
            simp only [spareN, hr, hr2, wanted]; by_cases hi : 4 ≤ i <;> simp [hi]; omega
          go_enter Try.func6, Try.ntmps6
          go_wp2_with (first | (go_at_call 9; refine (head_any _).mono ?_; rintro e w1 ⟨rfl, hb'⟩; have hb := bstep hb hb'; clear hb') | (go_at_call 10; refine (need_any _ _ _ _).mono ?_; rintro e w1 ⟨rfl, hb'⟩; have hb := bstep hb hb'; clear hb') | (go_at_call 12; refine (spare_any _ _ _ _).mono ?_; rintro e w1 ⟨rfl, hb'⟩; have hb := bstep hb hb'; clear hb') | (go_at_call 14; refine (rright_any _ _ _).mono ?_; rintro e w1 ⟨rfl, rfl⟩))
          go_ret
          exact ⟨rfl, hb⟩

def cellsAt (a : Int) (k : Nat) : Int := if k = 0 then 0 else wanted a
def waitAt (a : Int) (k : Nat) : Int := max 0 (a - k * wanted a)

theorem cells_bd (a : Int) (k : Nat) (h : 0 ≤ a) : 0 ≤ cellsAt a k ∧ cellsAt a k ≤ 6 := by
  have := wanted_bd a h
  unfold cellsAt; split <;> omega

theorem wait_bd (a : Int) (k : Nat) (h : 0 ≤ a) : 0 ≤ waitAt a k ∧ waitAt a k ≤ a := by
  have := wanted_bd a h
  have : 0 ≤ (k : Int) * wanted a := Int.mul_nonneg (by omega) (by omega)
  unfold waitAt; omega

theorem need_step (a : Int) (k : Nat) (h : 0 ≤ a) (h' : a ≤ 16) : needN (waitAt a k) (cellsAt a k) false = cellsAt a (k + 1) - cellsAt a k := by
  obtain ⟨w1, w2⟩ := wait_bd a k h
  obtain ⟨c1, c2⟩ := cells_bd a k h
  have hr : right (waitAt a k) (cellsAt a k) = true := by simp [right, inB]; omega
  have hc : cellsAt a (k + 1) = wanted a := by simp [cellsAt]
  simp only [needN, hr, hc]
  simp
  by_cases hk : k = 0
  · subst hk
    have e1 : waitAt a 0 = a := by simp [waitAt]; omega
    have e2 : cellsAt a 0 = 0 := rfl
    have := wanted_bd a h
    rw [e1, e2]; omega
  · have e2 : cellsAt a k = wanted a := by simp [cellsAt, hk]
    rw [e2]
    have : wanted (waitAt a k) ≤ wanted a := by
      have := w2
      generalize waitAt a k = x at *
      unfold wanted; omega
    omega

theorem wait_step (a : Int) (k : Nat) (h : 0 ≤ a) : max 0 (waitAt a k - cellsAt a (k + 1)) = waitAt a (k + 1) := by
  have hc : cellsAt a (k + 1) = wanted a := by simp [cellsAt]
  have hw := wanted_bd a h
  have e : ((k + 1 : Nat) : Int) * wanted a = k * wanted a + wanted a := by
    rw [show ((k + 1 : Nat) : Int) = (k : Int) + 1 from by omega, Int.add_mul, Int.one_mul]
  unfold waitAt
  rw [hc, e]
  omega

theorem wait_end (a : Int) (h : 0 ≤ a) (h' : a ≤ 16) : waitAt a 5 = 0 := by
  unfold waitAt wanted; omega

theorem lawDrain (a : Int) (w : World) :
    Calls Try.prog 8 #[.int .i64 a] w fun e w' => e = .returned (.bool true) ∧ Below w.heap.size w w' := by
  have hb := Below.refl w.heap.size w
  by_cases h1 : a < 0
  · go_enter Try.func8, Try.ntmps8
    go_wp2_with (first | (go_at_call 9; refine (head_any _).mono ?_; rintro e w1 ⟨rfl, hb'⟩; have hb := bstep hb hb'; clear hb') | (go_at_call 10; refine (need_any _ _ _ _).mono ?_; rintro e w1 ⟨rfl, hb'⟩; have hb := bstep hb hb'; clear hb') | (go_at_call 12; refine (spare_any _ _ _ _).mono ?_; rintro e w1 ⟨rfl, hb'⟩; have hb := bstep hb hb'; clear hb') | (go_at_call 14; refine (rright_any _ _ _).mono ?_; rintro e w1 ⟨rfl, rfl⟩))
    go_ret
    exact ⟨rfl, hb⟩
  · by_cases h2 : 16 < a
    · go_enter Try.func8, Try.ntmps8
      go_wp2_with (first | (go_at_call 9; refine (head_any _).mono ?_; rintro e w1 ⟨rfl, hb'⟩; have hb := bstep hb hb'; clear hb') | (go_at_call 10; refine (need_any _ _ _ _).mono ?_; rintro e w1 ⟨rfl, hb'⟩; have hb := bstep hb hb'; clear hb') | (go_at_call 12; refine (spare_any _ _ _ _).mono ?_; rintro e w1 ⟨rfl, hb'⟩; have hb := bstep hb hb'; clear hb') | (go_at_call 14; refine (rright_any _ _ _).mono ?_; rintro e w1 ⟨rfl, rfl⟩))
      go_ret
      exact ⟨rfl, hb⟩
    · have ha : 0 ≤ a := by omega
      have ha' : a ≤ 16 := by omega
      go_enter Try.func8, Try.ntmps8
      go_wp2_with (first | (go_at_call 9; refine (head_any _).mono ?_; rintro e w1 ⟨rfl, hb'⟩; have hb := bstep hb hb'; clear hb') | (go_at_call 10; refine (need_any _ _ _ _).mono ?_; rintro e w1 ⟨rfl, hb'⟩; have hb := bstep hb hb'; clear hb') | (go_at_call 12; refine (spare_any _ _ _ _).mono ?_; rintro e w1 ⟨rfl, hb'⟩; have hb := bstep hb hb'; clear hb') | (go_at_call 14; refine (rright_any _ _ _).mono ?_; rintro e w1 ⟨rfl, rfl⟩))
      go_loopw [0, 4, 15] (fun x c i wr => ∃ k : Nat, k ≤ 5 ∧ x = .int .i64 (waitAt a k) ∧ c = .int .i64 (cellsAt a k) ∧ i = .int .i64 k ∧ Below w.heap.size w wr) (fun _ _ i _ => 5 - (intOf i).toNat)
      case atStart => exact ⟨0, by omega, by congr 1; simp [waitAt]; omega, rfl, rfl, hb⟩
      case round =>
        obtain ⟨k, hk, rfl, rfl, rfl, hbr⟩ := hrel
        clear hb
        have hb := hbr; clear hbr
        obtain ⟨w1, w2⟩ := wait_bd a k ha
        obtain ⟨c1, c2⟩ := cells_bd a k ha
        obtain ⟨d1, d2⟩ := cells_bd a (k + 1) ha
        by_cases hlt : k < 5
        · have es := need_step a k ha ha'
          have ew := wait_step a k ha
          have ec : cellsAt a k + needN (waitAt a k) (cellsAt a k) false = cellsAt a (k + 1) := by rw [es]; omega
          have hn : 0 ≤ needN (waitAt a k) (cellsAt a k) false ∧ needN (waitAt a k) (cellsAt a k) false ≤ 6 := by
            rw [es]; by_cases hk0 : k = 0
            · subst hk0; have : cellsAt a 0 = 0 := rfl; omega
            · have : cellsAt a k = cellsAt a (k + 1) := by simp [cellsAt, hk0]
              omega
          obtain ⟨hn1, hn2⟩ := hn
          by_cases hk0 : k = 0
          · subst hk0
            have ES := Lib.hid es; clear es
            have EC := Lib.hid ec; have EW := Lib.hid ew; clear ec ew
            go_wp2_with (first | (go_at_call 9; refine (head_any _).mono ?_; rintro e w1 ⟨rfl, hb'⟩; have hb := bstep hb hb'; clear hb') | (go_at_call 10; refine (need_any _ _ _ _).mono ?_; rintro e w1 ⟨rfl, hb'⟩; have hb := bstep hb hb'; clear hb') | (go_at_call 12; refine (spare_any _ _ _ _).mono ?_; rintro e w1 ⟨rfl, hb'⟩; have hb := bstep hb hb'; clear hb') | (go_at_call 14; refine (rright_any _ _ _).mono ?_; rintro e w1 ⟨rfl, rfl⟩))
            go_roundw
            case rel => exact ⟨1, by omega, by rw [EC.out, EW.out], by rw [EC.out], rfl, hb⟩
            case measure => simp [intOf]
          · have hz : (needN (waitAt a k) (cellsAt a k) false != 0) = false := by
              rw [es]; have : cellsAt a k = cellsAt a (k + 1) := by simp [cellsAt, hk0]
              simp; omega
            have ES := Lib.hid es; clear es
            have EC := Lib.hid ec; have EW := Lib.hid ew; clear ec ew
            go_wp2_with (first | (go_at_call 9; refine (head_any _).mono ?_; rintro e w1 ⟨rfl, hb'⟩; have hb := bstep hb hb'; clear hb') | (go_at_call 10; refine (need_any _ _ _ _).mono ?_; rintro e w1 ⟨rfl, hb'⟩; have hb := bstep hb hb'; clear hb') | (go_at_call 12; refine (spare_any _ _ _ _).mono ?_; rintro e w1 ⟨rfl, hb'⟩; have hb := bstep hb hb'; clear hb') | (go_at_call 14; refine (rright_any _ _ _).mono ?_; rintro e w1 ⟨rfl, rfl⟩))
            go_roundw
            case rel => exact ⟨k + 1, by omega, by rw [EC.out, EW.out], by rw [EC.out], by go_num, hb⟩
            case measure => simp [intOf]; omega
        · obtain rfl : k = 5 := by omega
          have he := wait_end a ha ha'
          have he' : (waitAt a 5 == 0) = true := by simpa using he
          clear he
          go_wp2
          go_ret
          exact ⟨rfl, hb⟩
end Go.Proofs.Ytnihkgoopkbegaa
