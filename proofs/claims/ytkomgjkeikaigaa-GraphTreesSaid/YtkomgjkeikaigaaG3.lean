/- Proved: what the two functions that look for loops return. Conditions: the list lies in memory. -/
import Derived.Test.YtkomgjkeikaigaaG2
import Derived.Test.YtkomgjkeikaigaaMade
import Derived.Deep.LoopGhost
namespace Go.Proofs.Ytkomgjkeikaigaa
open Go.RowKit Go.Sort Go.BigFrame
set_option linter.unusedVariables false
set_option linter.unusedSimpArgs false
attribute [local go_sem] cell_alloc_old

theorem inf3 : (Try.prog.info? 3).map (fun i => (i.zero, i.size, i.bytes)) = some (some (.int .i64 0), 1, 8) := by kernel_rfl
def IntsPost (zs : List Int) (w : World) (e : Ending) (w' : World) : Prop := ∃ a cap, e = .returned (.slice a zs.length cap) ∧ IntsAt .i64 w' a zs ∧ zs.length ≤ cap ∧ cap ≤ maxLen ∧ Below w.heap.size w w'
theorem itr_stuck {l : List Int} {i : Int} {q : Nat} (h : itr l i q = -1) : ∀ m, itr l i (q + m) = -1
  | 0 => h
  | m + 1 => by rw [← Nat.add_assoc, itr, itr_stuck h m]; exact step_neg
theorem meet_stuck {l : List Int} {i : Int} {q n : Nat} (hi : 0 ≤ i) (h : itr l i q = -1) (hf : meetTo l i i q = false) : meetTo l i i n = false := by
  cases e : meetTo l i i n
  · rfl
  · obtain ⟨j, h1, h2, h3⟩ := meetTo_iff.1 e
    rcases Nat.lt_or_ge q j with hq | hq
    · have := itr_stuck h (j - q); rw [show q + (j - q) = j by omega, h3] at this; omega
    · rw [meetTo_iff.2 ⟨j, h1, hq, h3⟩] at hf; cases hf

set_option maxRecDepth 100000 in
set_option maxHeartbeats 2000000 in
theorem rloop_at (l : List Int) (n : Nat) (a : Option Addr) (cap : Nat) (w : World) (hn : n = l.length) (hl : IntsAt .i64 w a l) (hm : n ≤ maxLen) : Calls Try.prog 18 #[.slice a n cap] w (IntsPost (loopL l) w) := by
  have hm' := hm
  unfold maxLen at hm
  have HN := Lib.hid hn; clear hn
  obtain ⟨i0, hi, hz0, hz1, hz2⟩ := info_parts inf3
  go_enter Try.func18, Try.ntmps18
  go_wp2_with fail
  go_loopw [3, 4] (fun v i wr => ∃ k : Nat, k ≤ n ∧ (60 < n → k = 0) ∧ i = .int .i64 k ∧ Own .i64 wr w.heap.size 3 v (loopTo l k) ∧ Below w.heap.size w wr) (fun _ i _ => n - (intOf i).toNat)
  case atStart => exact ⟨0, Nat.zero_le _, fun _ => rfl, rfl, Own.nil _ _ _ _, Below.refl _ _⟩
  case round =>
    obtain ⟨k, hk, h60, rfl, hown, BB⟩ := hrel
    have hB' := BB.size
    by_cases hlt : k < n
    · have hlt' : (k : Int) < (n : Int) := by omega
      have hk0 : (0 : Int) ≤ (k : Int) := by omega
      by_cases hn60 : (n : Int) ≤ 60
      · have hlen := loopTo_len (l := l) k
        obtain ⟨y, hy⟩ : ∃ y, meets l k k = y := ⟨_, rfl⟩
        have hst : loopTo l (k + 1) = if y = true then loopTo l k ++ [(k : Int)] else loopTo l k := by rw [loopTo, hy]
        have HY := Lib.hid hy; have HST := Lib.hid hst; have HL := Lib.hid hlen
        clear hy hst hlen
        go_wp2_with fail
        refine (meets_at l n a cap k k y wr HN.out (hl.keep BB) hm' HY.out).mono ?_
        rintro e w1 ⟨rfl, b1⟩
        replace hown := hown.keep b1
        replace BB := bstep BB b1
        have hB1 := BB.size
        clear b1
        cases y
        · go_wp2_with fail
          go_roundw
          case rel => exact ⟨k + 1, by omega, by omega, by go_num, by rw [HST.out]; exact hown, BB⟩
          case measure => simp [intOf]; omega
        · go_wp2_with (first
            | (at_builtin; refine wpList_append_own _ rfl _ _ 23 rfl w.heap.size 3 i0 (.int .i64 0) 1 8 Try.underlying23 hi hz0 hz1 hz2 rfl (by decide) _ _ _ rfl (World.ownsRow.alloc hown _) ⟨w1.heap.size, 0, none⟩ 1 1 [.int .i64 k] rfl rfl (one_new _ _ _) (one_int _ _) (by have := HL.out; unfold maxLen; omega) (by have := HL.out; omega) (by simp; omega) ?_; intro v' w2 hown' hgrow _))
          have hB2 := grown_below BB hown (Nat.le_refl _) hgrow
          have hown2 := Own.push hown'
          clear hown' hgrow
          go_wp2
          go_roundw
          case rel => exact ⟨k + 1, by omega, by omega, by go_num, by rw [HST.out]; exact hown2, hB2⟩
          case measure => simp [intOf]; omega
      · have hk00 : k = 0 := h60 (by omega)
        subst hk00
        obtain ⟨a2, c2, rfl, hints, hlc, hcm⟩ := hown.shape
        have e : loopL l = [] := by unfold loopL; rw [if_neg (by rw [← HN.out]; omega)]
        have HE := Lib.hid e; clear e
        go_wp2_with fail
        go_ret
        exact ⟨a2, c2, by rw [HE.out]; rfl, by rw [HE.out]; exact .inl rfl, by rw [HE.out]; exact Nat.zero_le _, hcm, BB⟩
    · have hkn : n = k := by omega
      subst hkn
      have e : loopL l = loopTo l n := by
        unfold loopL
        by_cases hn60 : n ≤ 60
        · rw [if_pos (by rw [← HN.out]; exact hn60), ← HN.out]
        · rw [if_neg (by rw [← HN.out]; exact hn60), h60 (by omega)]; rfl
      obtain ⟨a2, c2, rfl, hints, hlc, hcm⟩ := hown.shape
      go_wp2_with fail
      go_ret
      exact ⟨a2, c2, by rw [e]; rfl, by rw [e]; exact hints, by rw [e]; exact hlc, hcm, BB⟩

set_option maxRecDepth 100000 in
set_option maxHeartbeats 4000000 in
theorem loop_at (l : List Int) (n : Nat) (a : Option Addr) (cap : Nat) (w : World) (hn : n = l.length) (hl : IntsAt .i64 w a l) (hm : n ≤ maxLen) : Calls Try.prog 17 #[.slice a n cap] w (IntsPost (loopL l) w) := by
  unfold maxLen at hm
  have HN := Lib.hid hn; clear hn
  obtain ⟨i0, hi, hz0, hz1, hz2⟩ := info_parts inf3
  by_cases h60 : (60 : Int) < (n : Int)
  · have e : loopL l = [] := by unfold loopL; rw [if_neg (by rw [← HN.out]; omega)]
    have HE := Lib.hid e; clear e
    go_enter Try.func17, Try.ntmps17
    go_wp2_with fail
    go_step3
    go_wp2_with fail
    try rw [Exit.noGoto_ret]
    go_ret
    have e := HE.out
    exact ⟨none, 0, by rw [e]; rfl, by rw [e]; exact .inl rfl, by rw [e]; exact Nat.zero_le _, by simp [maxLen], Below.refl _ _⟩
  go_enter Try.func17, Try.ntmps17
  go_wp2_with fail
  go_step3
  go_wp2_with fail
  go_step3
  go_wp2_with fail
  go_loopg [3, 11] n (fun g v i wr => ∃ k : Nat, k + g = n ∧ i = .int .i64 k ∧ Own .i64 wr w.heap.size 3 v (loopTo l k) ∧ Below w.heap.size w wr)
  case atStart => exact ⟨0, by omega, rfl, Own.nil _ _ _ _, Below.refl _ _⟩
  case round =>
    obtain ⟨k, hk, rfl, hown, BB⟩ := hrel
    by_cases hlt : k < n
    · obtain ⟨g, rfl⟩ : ∃ g, gk = g + 1 := ⟨gk - 1, by omega⟩
      have hlt' : (k : Int) < (n : Int) := by omega
      have hk0 : (0 : Int) ≤ (k : Int) := by omega
      have hkr : inR l (k : Int) := ⟨by omega, by rw [← HN.out]; exact hlt'⟩
      have hlen := loopTo_len (l := l) k
      have hst : loopTo l (k + 1) = if meets l k k = true then loopTo l k ++ [(k : Int)] else loopTo l k := rfl
      have HST := Lib.hid hst; have HL := Lib.hid hlen; have HKR := Lib.hid hkr
      clear hst hlen hkr
      go_wp2_with fail
      go_loopg [3, 5, 17] n (fun g2 v x j wz => ∃ q : Nat, q + g2 = n ∧ j = .int .i64 q ∧ (∃ z : Int, x = .int .i64 z ∧ (inR l z → z = itr l k q) ∧ (¬ inR l z → itr l k q = -1)) ∧ meetTo l k k q = false ∧ Own .i64 wz w.heap.size 3 v (loopTo l k) ∧ Below w.heap.size w wz)
      case atStart => exact ⟨0, by omega, rfl, ⟨k, rfl, fun _ => rfl, fun h => absurd HKR.out h⟩, rfl, hown, BB⟩
      case round =>
        clear hown BB
        obtain ⟨q, hq, rfl, ⟨z, rfl, hz, hz'⟩, hf, hown, BB⟩ := hrel
        have hB' := BB.size
        have HZ := Lib.hid hz; have HZ' := Lib.hid hz'; have HF := Lib.hid hf
        clear hz hz' hf
        by_cases hqn : q < n
        · obtain ⟨g2, rfl⟩ : ∃ g2, gk = g2 + 1 := ⟨gk - 1, by omega⟩
          have hqn' : (q : Int) < (n : Int) := by omega
          have hq0 : (0 : Int) ≤ (q : Int) := by omega
          by_cases hr : inR l z
          · have hzz0 : 0 ≤ z := hr.1
            have hz1' : z < (n : Int) := by rw [HN.out]; exact hr.2
            obtain ⟨t, rfl⟩ : ∃ t : Nat, z = t := ⟨z.toNat, by omega⟩
            obtain ⟨b, off, rfl, hc⟩ := ints_at hl (i := t) (by rw [← HN.out]; omega)
            have c := keep1 BB (hc t (by rw [← HN.out]; omega))
            have hs : inR l (l.getD t 0) → itr l k (q + 1) = l.getD t 0 := fun h => by
              rw [itr, ← HZ.out hr]; unfold stepI pAt; rw [Int.toNat_natCast, if_pos ⟨hr, h⟩]
            have hs' : ¬ inR l (l.getD t 0) → itr l k (q + 1) = -1 := fun h => by
              rw [itr, ← HZ.out hr]; unfold stepI pAt; rw [Int.toNat_natCast, if_neg (fun x => h x.2)]
            obtain ⟨p, hp⟩ : ∃ p, l.getD t 0 = p := ⟨_, rfl⟩
            rw [hp] at c hs hs'
            have HS := Lib.hid hs; have HS' := Lib.hid hs'
            clear hp hs hs' hc hr
            by_cases hg : p = (k : Int)
            · have hgb : (p == (k : Int)) = true := by simp [hg]
              have HG := Lib.hid hg; clear hg
              go_wp2_with fail
              refine (isidx_at t n true _ (by simp; omega)).mono ?_
              rintro e w1 ⟨rfl, b1⟩
              replace c := keep1 b1 c
              replace hown := hown.keep b1
              replace BB := bstep BB b1
              have hB1 := BB.size
              clear b1
              go_wp2_with (first
                | (at_builtin; refine wpList_append_own _ rfl _ _ 23 rfl w.heap.size 3 i0 (.int .i64 0) 1 8 Try.underlying23 hi hz0 hz1 hz2 rfl (by decide) _ _ _ rfl (World.ownsRow.alloc hown _) ⟨w1.heap.size, 0, none⟩ 1 1 [.int .i64 k] rfl rfl (one_new _ _ _) (one_int _ _) (by have := HL.out; unfold maxLen; omega) (by have := HL.out; omega) (by simp; omega) ?_; intro v' w2 hown' hgrow _))
              have hB2 := grown_below BB hown (Nat.le_refl _) hgrow
              have hown2 := Own.push hown'
              clear hown' hgrow
              go_wp2
              go_roundg g
              case rel =>
                have hmt : meets l k k = true := meets_of HKR.out (k := q + 1) (by omega) (by rw [HS.out (by rw [HG.out]; exact HKR.out), HG.out])
                exact ⟨k + 1, by omega, by go_num, by rw [HST.out, if_pos hmt]; exact hown2, hB2⟩
              case measure => omega
            · have hgb : (p == (k : Int)) = false := by simp [hg]
              have HG := Lib.hid hg; clear hg
              go_wp2_with fail
              refine (isidx_at t n true _ (by simp; omega)).mono ?_
              rintro e w1 ⟨rfl, b1⟩
              replace c := keep1 b1 c
              replace hown := hown.keep b1
              replace BB := bstep BB b1
              clear b1
              go_wp2_with fail
              go_roundg g2
              case rel =>
                refine ⟨q + 1, by omega, by go_num, ⟨p, rfl, fun h => (HS.out h).symm, HS'.out⟩, ?_, hown, BB⟩
                rw [meetTo, HF.out, Bool.false_or, beq_eq_false_iff_ne]
                intro e
                by_cases h : inR l p
                · rw [HS.out h] at e; exact HG.out e
                · rw [HS'.out h] at e; omega
              case measure => omega
          · have hzo : (decide (0 ≤ z) && decide (z < (n : Int))) = false := by
              rw [Bool.and_eq_false_iff]
              by_cases h0 : 0 ≤ z
              · right; rw [decide_eq_false_iff_not]; intro h1; exact hr ⟨h0, by rw [← HN.out]; exact h1⟩
              · left; simpa using h0
            have HR := Lib.hid hr
            have HZO := Lib.hid hzo
            clear hzo hr
            go_wp2_with fail
            refine (isidx_at z n false _ HZO.out).mono ?_
            rintro e w1 ⟨rfl, b1⟩
            replace hown := hown.keep b1
            replace BB := bstep BB b1
            clear b1
            go_wp2_with fail
            go_roundg g
            case rel =>
              have hmt : meets l k k = false := meet_stuck (by omega) (HZ'.out HR.out) HF.out
              exact ⟨k + 1, by omega, by go_num, by rw [HST.out, hmt]; exact hown, BB⟩
            case measure => omega
        · have hqe : n = q := by omega
          subst hqe
          go_wp2_with fail
          go_roundg g
          case rel =>
            have hmt : meets l k k = false := by unfold meets; rw [← HN.out]; exact HF.out
            exact ⟨k + 1, by omega, by go_num, by rw [HST.out, hmt]; exact hown, BB⟩
          case measure => omega
    · have hkn : n = k := by omega
      subst hkn
      have e : loopL l = loopTo l n := by unfold loopL; rw [if_pos (by rw [← HN.out]; omega), ← HN.out]
      obtain ⟨a2, c2, rfl, hints, hlc, hcm⟩ := hown.shape
      have HE := Lib.hid e; clear e
      go_wp2_with fail
      try rw [Exit.noGoto_ret]
      go_ret
      have e := HE.out
      exact ⟨a2, c2, by rw [e]; rfl, by rw [e]; exact hints, by rw [e]; exact hlc, hcm, BB⟩
end Go.Proofs.Ytkomgjkeikaigaa
