/- Proved: what small functions of the reference and of the statements return: whether lists of clashes are equal, whether a table sends in a cell, whether rows are square, whether lists are short. Conditions: the lists lie in memory. -/
import Derived.Test.YtleenbfldkmcaaaK3
namespace Go.Proofs.Ytleenbfldkmcaaa
open Go.RowKit Go.Sort Go.BigFrame
set_option linter.unusedVariables false
set_option linter.unusedSimpArgs false
attribute [local go_sem] cell_alloc_old

/-- The truth values lie one behind the other at the address. -/
def BoolsAt (w : World) (a : Option Addr) (bs : List Bool) : Prop := bs = [] ∨ ∃ b off, a = some ⟨b, off, none⟩ ∧ ∀ j, j < bs.length → w.cell? ⟨b, off + j, none⟩ = some (.bool (bs.getD j false))
theorem BoolsAt.keep {w w' : World} {a : Option Addr} {bs : List Bool} (h : BoolsAt w a bs) (hb : Below w.heap.size w w') : BoolsAt w' a bs := by
  rcases h with h | ⟨b, off, ha, h⟩
  · exact .inl h
  · exact .inr ⟨b, off, ha, fun j hj => keep1 hb (h j hj)⟩
/-- The rows of the table lie at the address. -/
def TabAt (w : World) (a : Option Addr) (h : List (List Bool)) : Prop := h = [] ∨ ∃ b off, a = some ⟨b, off, none⟩ ∧ ∀ i, i < h.length → ∃ ra rc, w.cell? ⟨b, off + i, none⟩ = some (.slice ra (h.getD i []).length rc) ∧ BoolsAt w ra (h.getD i []) ∧ (h.getD i []).length ≤ rc ∧ rc ≤ maxLen
theorem TabAt.keep {w w' : World} {a : Option Addr} {h : List (List Bool)} (x : TabAt w a h) (hb : Below w.heap.size w w') : TabAt w' a h := by
  rcases x with x | ⟨b, off, ha, x⟩
  · exact .inl x
  · exact .inr ⟨b, off, ha, fun i hi => by obtain ⟨ra, rc, h1, h2, h3, h4⟩ := x i hi; exact ⟨ra, rc, keep1 hb h1, h2.keep hb, h3, h4⟩⟩
theorem BoolsAt.at {w wr : World} {a : Option Addr} {l : List Bool} (h : BoolsAt w a l) (hb : Below w.heap.size w wr) {i : Nat} (hi : i < l.length) : ∃ b off, a = some ⟨b, off, none⟩ ∧ wr.cell? ⟨b, off + i, none⟩ = some (.bool (l.getD i false)) := by
  rcases h with rfl | ⟨b, off, ha, h⟩
  · simp at hi
  · exact ⟨b, off, ha, keep1 hb (h i hi)⟩
theorem TabAt.at {w wr : World} {a : Option Addr} {h : List (List Bool)} (x : TabAt w a h) (hb : Below w.heap.size w wr) {i : Nat} (hi : i < h.length) : ∃ b off ra rc, a = some ⟨b, off, none⟩ ∧ wr.cell? ⟨b, off + i, none⟩ = some (.slice ra (h.getD i []).length rc) ∧ BoolsAt wr ra (h.getD i []) ∧ (h.getD i []).length ≤ rc ∧ rc ≤ maxLen := by
  rcases x with rfl | ⟨b, off, ha, x⟩
  · simp at hi
  · obtain ⟨ra, rc, h1, h2, h3, h4⟩ := x i hi
    exact ⟨b, off, ra, rc, ha, keep1 hb h1, h2.keep hb, h3, h4⟩

set_option maxRecDepth 100000 in
set_option maxHeartbeats 4000000 in
theorem sameC_at (l m : List Cz) (n k : Nat) (a b : Option Addr) (ca cb : Nat) (w : World) (hn : Hid (n = l.length)) (hk : Hid (k = m.length)) (hl : At 5 Cz.cs w a l) (hm : At 5 Cz.cs w b m) (hn2 : n ≤ maxLen) (hk2 : k ≤ maxLen) (y : Bool) (hy : Hid (decide (l = m) = y)) :
    Calls Try.prog 17 #[.slice a n ca, .slice b k cb] w (Yes y w) := by
  unfold maxLen at hn2 hk2
  by_cases hnk : n = k
  · subst hnk
    have g1 : ((n : Int) != (n : Int)) = false := by simp
    have hlen : l.length = m.length := hn.out.symm.trans hk.out
    have HLY : Hid (likeTo l m n = y) := Lib.hid (by rw [← hy.out, ← likeTo_eq hlen, hn.out])
    clear hlen
    go_enter Try.func17, Try.ntmps17
    go_wp2_with fail
    go_loopw [5] (fun i wr => ∃ j : Nat, j ≤ n ∧ i = .int .i64 j ∧ Hid (likeTo l m j = true) ∧ Below w.heap.size w wr) (fun i _ => n - (intOf i).toNat)
    case atStart => exact ⟨0, Nat.zero_le _, rfl, Lib.hid rfl, Below.refl _ _⟩
    case round =>
      obtain ⟨j, hj, rfl, hlk, BB⟩ := hrel
      by_cases hlt : j < n
      · have hlt' : (j : Int) < (n : Int) := by omega
        have hj0 : (0 : Int) ≤ (j : Int) := by omega
        obtain ⟨b1, off, rfl, c0, c1, c2, c3, c4⟩ := hl.cz BB (i := j) (by rw [← hn.out]; exact hlt)
        obtain ⟨b2, off', rfl, d0, d1, d2, d3, d4⟩ := hm.cz BB (i := j) (by rw [← hk.out]; exact hlt)
        obtain ⟨x, hx⟩ : ∃ x, l.getD j default = x := ⟨_, rfl⟩
        obtain ⟨z, hz⟩ : ∃ z, m.getD j default = z := ⟨_, rfl⟩
        simp only [hx] at c0 c1 c2 c3 c4
        simp only [hz] at d0 d1 d2 d3 d4
        have hsucc : likeTo l m (j + 1) = decide (x = z) := by rw [likeTo, hlk.out, hx, hz]; rfl
        have HS := Lib.hid hsucc
        clear hx hz hsucc
        obtain ⟨q, hq⟩ : ∃ q, decide (x = z) = q := ⟨_, rfl⟩
        have HQ := Lib.hid hq
        have hne := ne_cz x.s z.s x.o z.o x.l z.l x.f z.f x.c z.c q (by rw [← hq]; exact decide_eq_decide.2 cz_eq.symm)
        clear hq
        have kc0 := cell_regrown c0; have kc1 := cell_regrown c1; have kc2 := cell_regrown c2; have kc3 := cell_regrown c3; have kc4 := cell_regrown c4
        have kd0 := cell_regrown d0; have kd1 := cell_regrown d1; have kd2 := cell_regrown d2; have kd3 := cell_regrown d3; have kd4 := cell_regrown d4
        go_upto_region 6 with (fail)
        cases q
        · simp only [Bool.not_false] at hne
          refine wp_region_quiet_below (by kernel_rfl) (by kernel_rfl) ?_
          repeat (go_big_quiet_step (fail))
          refine wpQuiet_nil ?_
          intro _ hw'
          obtain ⟨⟨dq, osq⟩, hw''⟩ := hw'
          subst hw''
          clear hne c0 c1 c2 c3 c4 d0 d1 d2 d3 d4 kc0 kc1 kc2 kc3 kc4 kd0 kd1 kd2 kd3 kd4
          go_wp2_with fail
          go_ret
          have hf := likeTo_le (n := n) (by omega) (HS.out.trans HQ.out)
          have hres : y = false := by rw [← HLY.out]; exact hf
          subst hres
          exact ⟨rfl, bstep BB (below_regrown _ dq osq)⟩
        · simp only [Bool.not_true] at hne
          refine wp_region_quiet_below (by kernel_rfl) (by kernel_rfl) ?_
          repeat (go_big_quiet_step (fail))
          refine wpQuiet_nil ?_
          intro _ hw'
          obtain ⟨⟨dq, osq⟩, hw''⟩ := hw'
          subst hw''
          clear hne c0 c1 c2 c3 c4 d0 d1 d2 d3 d4 kc0 kc1 kc2 kc3 kc4 kd0 kd1 kd2 kd3 kd4
          go_wp2_with fail
          go_roundw
          case rel => exact ⟨j + 1, by omega, by go_num, Lib.hid (by rw [HS.out, HQ.out]), bstep BB (below_regrown _ dq osq)⟩
          case measure => simp [intOf]; omega
      · obtain rfl : n = j := by omega
        have hlt' : ¬ (n : Int) < (n : Int) := by omega
        go_wp2_with fail
        go_ret
        have hres : y = true := by rw [← HLY.out, hlk.out]
        subst hres
        exact ⟨rfl, BB⟩
  · have g1 : ((n : Int) != (k : Int)) = true := by simp; omega
    have hres : y = false := by
      rw [← hy.out, decide_eq_false_iff_not]
      rintro rfl
      exact hnk (hn.out.trans hk.out.symm)
    subst hres
    go_enter Try.func17, Try.ntmps17
    go_wp2_with fail
    go_ret
    exact ⟨rfl, Below.refl _ _⟩
set_option maxRecDepth 100000 in
set_option maxHeartbeats 4000000 in
theorem sends_at (t : Tv) (cs co : Int) (w : World) (ht : Hid (t.ok w)) (y : Bool) (hy : Hid (sendsB t.T cs co = y)) : Calls Try.prog 29 #[t.v, .agg #[.int .i64 cs, .int .i64 co]] w (Yes y w) := by
  obtain ⟨⟨U, G, A⟩, ua, nu, uc, ga, ng, gc, aa, na, ac⟩ := t
  have hu := ht.out.um; have hu2 := ht.out.uc
  unfold maxLen at hu
  simp only at hu hu2 ⊢
  go_enter Try.func29, Try.ntmps29
  go_upto_region 1 with (fail)
  have Ta := CAt.new (w) [.slice ua nu uc, .slice ga ng gc, .slice aa na ac] 26
  have BB : Below w.heap.size w ((w).alloc (.cells #[.slice ua nu uc, .slice ga ng gc, .slice aa na ac] 26)) := ball (Below.refl _ _) _
  have Tc := CAt.new (w.alloc (.cells #[.slice ua nu uc, .slice ga ng gc, .slice aa na ac] 26)) [.int .i64 cs, .int .i64 co] 41
  replace Ta := Ta.alloc (.cells #[.int .i64 cs, .int .i64 co] 41)
  replace BB := ball BB (.cells #[.int .i64 cs, .int .i64 co] 41)
  simp only [World.size_alloc, Nat.add_assoc, Nat.reduceAdd] at Tc
  obtain ⟨V1, hV1⟩ : ∃ V1, (w.alloc (.cells #[.slice ua nu uc, .slice ga ng gc, .slice aa na ac] 26)).alloc (.cells #[.int .i64 cs, .int .i64 co] 41) = V1 := ⟨_, rfl⟩
  rw [hV1] at BB Ta Tc ⊢
  clear hV1
  have a0 := Ta 0 _ rfl
  have a1 := Ta 1 _ rfl
  have a2 := Ta 2 _ rfl
  have c0 := Tc 0 _ rfl
  have c1 := Tc 1 _ rfl
  go_wp2_with fail
  clear a0 a1 a2 c0 c1
  go_loopw [5] (fun i wr => ∃ k : Nat, k ≤ nu ∧ i = .int .i64 k ∧ Hid (∀ j, j < k → ¬ ((U.getD j default).s = cs ∧ (U.getD j default).o = co)) ∧ Below w.heap.size w wr ∧ CAt wr w.heap.size [.slice ua nu uc, .slice ga ng gc, .slice aa na ac] ∧ CAt wr (w.heap.size + 1) [.int .i64 cs, .int .i64 co]) (fun i _ => nu - (intOf i).toNat)
  case atStart => exact ⟨0, Nat.zero_le _, rfl, Lib.hid (fun j hj => by omega), BB, Ta, Tc⟩
  case round =>
    clear BB Ta Tc
    obtain ⟨k, hk, rfl, hlk, BB, Ta, Tc⟩ := hrel
    by_cases hlt : k < nu
    ·
      have hlt' : (k : Int) < (nu : Int) := by omega
      have hk0 : (0 : Int) ≤ (k : Int) := by omega
      obtain ⟨b, off, e1, c0, c1, c2, c3⟩ := ht.out.u.us BB (i := k) (by have := ht.out.un; simp only at this ⊢; omega)
      have hxm : U.getD k default ∈ U := getD_mem (by have := ht.out.un; simp only at this; omega)
      simp only at e1
      obtain ⟨x, hx⟩ : ∃ x, U.getD k default = x := ⟨_, rfl⟩
      simp only [hx] at c0 c1 c2 c3
      rw [hx] at hxm
      have HXM := Lib.hid hxm; have HX := Lib.hid hx
      subst e1
      clear hx hxm
      obtain ⟨z, hz⟩ : ∃ z, decide (x.s = cs ∧ x.o = co) = z := ⟨_, rfl⟩
      have HZ := Lib.hid hz
      have hne := eq_cell x.s x.o cs co z hz
      clear hz
      have a0 := Ta 0 _ rfl
      have a1 := Ta 1 _ rfl
      have a2 := Ta 2 _ rfl
      have c0 := Tc 0 _ rfl
      have c1 := Tc 1 _ rfl
      go_upto_region 4 with (fail)
      clear a0 a1 a2 c0 c1
      have kc0 := cell_regrown c0
      have kc1 := cell_regrown c1
      have kc2 := cell_regrown c2
      have kc3 := cell_regrown c3
      cases z
      ·
        have a0 := Ta 0 _ rfl
        have ka0 := cell_regrown a0
        have a1 := Ta 1 _ rfl
        have ka1 := cell_regrown a1
        have a2 := Ta 2 _ rfl
        have ka2 := cell_regrown a2
        have c0 := Tc 0 _ rfl
        have kc0 := cell_regrown c0
        have c1 := Tc 1 _ rfl
        have kc1 := cell_regrown c1
        refine wp_region_quiet_below (by kernel_rfl) (by kernel_rfl) ?_
        repeat (go_big_quiet_step (fail))
        refine wpQuiet_nil ?_
        intro _ hw'
        obtain ⟨⟨dq, osq⟩, hw''⟩ := hw'
        subst hw''
        clear a0 ka0 a1 ka1 a2 ka2 c0 kc0 c1 kc1
        have bq := below_regrown wr dq osq
        obtain ⟨V2, hV2⟩ : ∃ V2, grow (redrawn wr dq) osq = V2 := ⟨_, rfl⟩
        rw [hV2] at bq ⊢
        clear hV2 dq osq
        replace Ta := Ta.keep bq
        replace Tc := Tc.keep bq
        replace BB := bstep BB bq
        clear bq
        clear hne c0 c1 c2 c3 kc0 kc1 kc2 kc3
        have a0 := Ta 0 _ rfl
        have a1 := Ta 1 _ rfl
        have a2 := Ta 2 _ rfl
        have c0 := Tc 0 _ rfl
        have c1 := Tc 1 _ rfl
        go_wp2_with fail
        clear a0 a1 a2 c0 c1
        go_roundw
        case rel => exact ⟨k + 1, by omega, by go_num, Lib.hid (fun j hj => by
          by_cases e : j = k
          · rw [e, HX.out]; exact of_decide_eq_false HZ.out
          · exact hlk.out j (by omega)), BB, Ta, Tc⟩
        case measure => simp [intOf]; omega
      ·
        have a0 := Ta 0 _ rfl
        have ka0 := cell_regrown a0
        have a1 := Ta 1 _ rfl
        have ka1 := cell_regrown a1
        have a2 := Ta 2 _ rfl
        have ka2 := cell_regrown a2
        have c0 := Tc 0 _ rfl
        have kc0 := cell_regrown c0
        have c1 := Tc 1 _ rfl
        have kc1 := cell_regrown c1
        refine wp_region_quiet_below (by kernel_rfl) (by kernel_rfl) ?_
        repeat (go_big_quiet_step (fail))
        refine wpQuiet_nil ?_
        intro _ hw'
        obtain ⟨⟨dq, osq⟩, hw''⟩ := hw'
        subst hw''
        clear a0 ka0 a1 ka1 a2 ka2 c0 kc0 c1 kc1
        have bq := below_regrown wr dq osq
        obtain ⟨V2, hV2⟩ : ∃ V2, grow (redrawn wr dq) osq = V2 := ⟨_, rfl⟩
        rw [hV2] at bq ⊢
        clear hV2 dq osq
        replace Ta := Ta.keep bq
        replace Tc := Tc.keep bq
        replace BB := bstep BB bq
        clear bq
        clear hne c0 c1 c2 c3 kc0 kc1 kc2 kc3
        have a0 := Ta 0 _ rfl
        have a1 := Ta 1 _ rfl
        have a2 := Ta 2 _ rfl
        have c0 := Tc 0 _ rfl
        have c1 := Tc 1 _ rfl
        go_wp2_with fail
        clear a0 a1 a2 c0 c1
        go_ret
        have hres : y = true := by
          rw [← hy.out, sends_iff]; exact ⟨x, HXM.out, of_decide_eq_true HZ.out⟩
        subst hres
        exact ⟨rfl, BB⟩
    ·
      obtain rfl : nu = k := by omega
      have hlt' : ¬ (nu : Int) < (nu : Int) := by omega
      have a0 := Ta 0 _ rfl
      have a1 := Ta 1 _ rfl
      have a2 := Ta 2 _ rfl
      have c0 := Tc 0 _ rfl
      have c1 := Tc 1 _ rfl
      go_wp2_with fail
      clear a0 a1 a2 c0 c1
      go_ret
      have hres : y = false := by
        rw [← hy.out, Bool.eq_false_iff, ne_eq, sends_iff]
        rintro ⟨u, hu, h⟩
        obtain ⟨j, hj, e⟩ := List.mem_iff_getElem.1 hu
        have := ht.out.un
        simp only at this hj
        refine hlk.out j (by omega) ?_
        rw [List.getD_eq_getElem?_getD, List.getElem?_eq_getElem hj, Option.getD_some, e]; exact h
      subst hres
      exact ⟨rfl, BB⟩
end Go.Proofs.Ytleenbfldkmcaaa
