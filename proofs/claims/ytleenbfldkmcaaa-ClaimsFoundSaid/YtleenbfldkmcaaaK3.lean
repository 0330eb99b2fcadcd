/- Proved: what the reference functions return that compare tables and lists of clashes. Conditions: the tables lie in memory. -/
import Derived.Test.YtleenbfldkmcaaaK2
namespace Go.Proofs.Ytleenbfldkmcaaa
open Go.RowKit Go.Sort Go.BigFrame
set_option linter.unusedVariables false
set_option linter.unusedSimpArgs false
attribute [local go_sem] cell_alloc_old

/-- The first elements of two lists are alike. -/
def likeTo {α : Type} [Inhabited α] [DecidableEq α] (l m : List α) : Nat → Bool
  | 0 => true
  | k + 1 => likeTo l m k && decide (l.getD k default = m.getD k default)
section
variable {α : Type} [Inhabited α] [DecidableEq α]
theorem likeTo_le {l m : List α} {k : Nat} : ∀ {n : Nat}, k ≤ n → likeTo l m k = false → likeTo l m n = false
  | 0, h, hf => by rwa [show k = 0 from by omega] at hf
  | n + 1, h, hf => by
    by_cases e : k = n + 1
    · rwa [e] at hf
    · rw [likeTo, likeTo_le (by omega) hf]; rfl
theorem likeTo_iff {l m : List α} : ∀ {k : Nat}, likeTo l m k = true ↔ ∀ j, j < k → l.getD j default = m.getD j default
  | 0 => by simp [likeTo]
  | k + 1 => by
    rw [likeTo, Bool.and_eq_true, likeTo_iff, decide_eq_true_eq]
    constructor
    · rintro ⟨h1, h2⟩ j hj
      by_cases e : j = k
      · rw [e]; exact h2
      · exact h1 j (by omega)
    · exact fun h => ⟨fun j hj => h j (by omega), h k (by omega)⟩
theorem likeTo_eq {l m : List α} (h : l.length = m.length) : likeTo l m l.length = decide (l = m) := by
  rw [Bool.eq_iff_iff, likeTo_iff, decide_eq_true_eq]
  constructor
  · intro hj
    refine List.ext_getElem h fun i h1 h2 => ?_
    have := hj i h1
    simpa [List.getD_eq_getElem?_getD, h1, h2] using this
  · rintro rfl j _; rfl
end
/-- Whether two tables are equal. -/
def sameB (t t' : Tb) : Bool := decide (t = t')
theorem same_split (t t' : Tv) {w w' : World} (h : t.ok w) (h' : t'.ok w') : sameB t.T t'.T = (if t.nu = t'.nu ∧ t.ng = t'.ng ∧ t.na = t'.na then likeTo t.T.U t'.T.U t.nu && likeTo t.T.G t'.T.G t.ng && likeTo t.T.A t'.T.A t.na else false) := by
  have e : (t.T = t'.T) ↔ (t.T.U = t'.T.U ∧ t.T.G = t'.T.G ∧ t.T.A = t'.T.A) := by
    cases t.T; cases t'.T; simp
  unfold sameB
  rw [h.un, h.gn, h.an, h'.un, h'.gn, h'.an]
  split
  · rename_i hl
    rw [likeTo_eq hl.1, likeTo_eq hl.2.1, likeTo_eq hl.2.2, ← Bool.decide_and, ← Bool.decide_and]
    exact decide_eq_decide.2 (e.trans and_assoc.symm)
  · rename_i hl
    rw [decide_eq_false_iff_not, e]
    rintro ⟨h1, h2, h3⟩
    exact hl ⟨by rw [h1], by rw [h2], by rw [h3]⟩
theorem us_eq {x y : Us} : (x = y) ↔ (x.s = y.s ∧ x.o = y.o ∧ x.p = y.p ∧ x.t = y.t) := by cases x; cases y; simp
theorem gr_eq {x y : Gr} : (x = y) ↔ (x.s = y.s ∧ x.o = y.o ∧ x.p = y.p ∧ x.t = y.t ∧ x.u = y.u) := by cases x; cases y; simp
theorem ak_eq {x y : Ak} : (x = y) ↔ (x.s = y.s ∧ x.o = y.o ∧ x.p = y.p) := by cases x; cases y; simp
theorem cz_eq {x y : Cz} : (x = y) ↔ (x.s = y.s ∧ x.o = y.o ∧ x.l = y.l ∧ x.f = y.f ∧ x.c = y.c) := by cases x; cases y; simp
/-! ### comparisons of structs -/
theorem eq_cell (a b c d : Int) (y : Bool) (hy : decide (a = c ∧ b = d) = y) (w : World) : (Go.binOp .eql 41 (.agg #[.int .i64 a, .int .i64 b]) (.agg #[.int .i64 c, .int .i64 d])).run Try.prog w = .ok (.bool y) w := by
  rw [← hy]
  by_cases h1 : a = c
  · by_cases h2 : b = d
    · go_simp
    · go_simp
  · go_simp
theorem ne_us (xs ys xo yo xp yp xt yt : Int) (y : Bool) (hy : decide (xs = ys ∧ xo = yo ∧ xp = yp ∧ xt = yt) = y) (w : World) : (Go.binOp .neq 43 (.agg #[.int .i64 xs, .int .i64 xo, .int .i64 xp, .int .i64 xt]) (.agg #[.int .i64 ys, .int .i64 yo, .int .i64 yp, .int .i64 yt])).run Try.prog w = .ok (.bool (!y)) w := by
  rw [← hy]
  by_cases h0 : xs = ys
  · 
    by_cases h1 : xo = yo
    · 
      by_cases h2 : xp = yp
      · 
        by_cases h3 : xt = yt
        · 
          go_simp
        · go_simp
      · go_simp
    · go_simp
  · go_simp

theorem eq_us (xs ys xo yo xp yp xt yt : Int) (y : Bool) (hy : decide (xs = ys ∧ xo = yo ∧ xp = yp ∧ xt = yt) = y) (w : World) : (Go.binOp .eql 43 (.agg #[.int .i64 xs, .int .i64 xo, .int .i64 xp, .int .i64 xt]) (.agg #[.int .i64 ys, .int .i64 yo, .int .i64 yp, .int .i64 yt])).run Try.prog w = .ok (.bool y) w := by
  rw [← hy]
  by_cases h0 : xs = ys
  · 
    by_cases h1 : xo = yo
    · 
      by_cases h2 : xp = yp
      · 
        by_cases h3 : xt = yt
        · 
          go_simp
        · go_simp
      · go_simp
    · go_simp
  · go_simp

theorem ne_gr (xs ys xo yo xp yp xt yt xu yu : Int) (y : Bool) (hy : decide (xs = ys ∧ xo = yo ∧ xp = yp ∧ xt = yt ∧ xu = yu) = y) (w : World) : (Go.binOp .neq 63 (.agg #[.int .i64 xs, .int .i64 xo, .int .i64 xp, .int .i64 xt, .int .i64 xu]) (.agg #[.int .i64 ys, .int .i64 yo, .int .i64 yp, .int .i64 yt, .int .i64 yu])).run Try.prog w = .ok (.bool (!y)) w := by
  rw [← hy]
  by_cases h0 : xs = ys
  · 
    by_cases h1 : xo = yo
    · 
      by_cases h2 : xp = yp
      · 
        by_cases h3 : xt = yt
        · 
          by_cases h4 : xu = yu
          · 
            go_simp
          · go_simp
        · go_simp
      · go_simp
    · go_simp
  · go_simp

theorem eq_gr (xs ys xo yo xp yp xt yt xu yu : Int) (y : Bool) (hy : decide (xs = ys ∧ xo = yo ∧ xp = yp ∧ xt = yt ∧ xu = yu) = y) (w : World) : (Go.binOp .eql 63 (.agg #[.int .i64 xs, .int .i64 xo, .int .i64 xp, .int .i64 xt, .int .i64 xu]) (.agg #[.int .i64 ys, .int .i64 yo, .int .i64 yp, .int .i64 yt, .int .i64 yu])).run Try.prog w = .ok (.bool y) w := by
  rw [← hy]
  by_cases h0 : xs = ys
  · 
    by_cases h1 : xo = yo
    · 
      by_cases h2 : xp = yp
      · 
        by_cases h3 : xt = yt
        · 
          by_cases h4 : xu = yu
          · 
            go_simp
          · go_simp
        · go_simp
      · go_simp
    · go_simp
  · go_simp

theorem ne_ak (xs ys xo yo xp yp : Int) (y : Bool) (hy : decide (xs = ys ∧ xo = yo ∧ xp = yp) = y) (w : World) : (Go.binOp .neq 79 (.agg #[.int .i64 xs, .int .i64 xo, .int .i64 xp]) (.agg #[.int .i64 ys, .int .i64 yo, .int .i64 yp])).run Try.prog w = .ok (.bool (!y)) w := by
  rw [← hy]
  by_cases h0 : xs = ys
  · 
    by_cases h1 : xo = yo
    · 
      by_cases h2 : xp = yp
      · 
        go_simp
      · go_simp
    · go_simp
  · go_simp

theorem ne_cz (xs ys xo yo xl yl xf yf xc yc : Int) (y : Bool) (hy : decide (xs = ys ∧ xo = yo ∧ xl = yl ∧ xf = yf ∧ xc = yc) = y) (w : World) : (Go.binOp .neq 75 (.agg #[.int .i64 xs, .int .i64 xo, .int .i64 xl, .int .i64 xf, .int .i64 xc]) (.agg #[.int .i64 ys, .int .i64 yo, .int .i64 yl, .int .i64 yf, .int .i64 yc])).run Try.prog w = .ok (.bool (!y)) w := by
  rw [← hy]
  by_cases h0 : xs = ys
  · 
    by_cases h1 : xo = yo
    · 
      by_cases h2 : xl = yl
      · 
        by_cases h3 : xf = yf
        · 
          by_cases h4 : xc = yc
          · 
            go_simp
          · go_simp
        · go_simp
      · go_simp
    · go_simp
  · go_simp

set_option maxRecDepth 100000 in
set_option maxHeartbeats 4000000 in
theorem same_len (t t' : Tv) (w : World) (ht : Hid (t.ok w)) (ht' : Hid (t'.ok w)) (hd : ¬ (t.nu = t'.nu ∧ t.ng = t'.ng ∧ t.na = t'.na)) : Calls Try.prog 14 #[t.v, t'.v] w (Yes false w) := by
  obtain ⟨T, ua, nu, uc, ga, ng, gc, aa, na, ac⟩ := t
  obtain ⟨T', ua', nu', uc', ga', ng', gc', aa', na', ac'⟩ := t'
  simp only at hd
  clear ht ht'
  by_cases h1 : nu = nu'
  · have g1 : ((nu : Int) != (nu' : Int)) = false := by simp [h1]
    by_cases h2 : ng = ng'
    · have g2 : ((ng : Int) != (ng' : Int)) = false := by simp [h2]
      have h3 : ¬ na = na' := fun e => hd ⟨h1, h2, e⟩
      have g3 : ((na : Int) != (na' : Int)) = true := by simp; omega
      clear h1 h2 h3 hd
      go_enter Try.func14, Try.ntmps14
      go_wp2_with fail
      go_ret
      exact ⟨rfl, ball (ball (Below.refl _ _) _) _⟩
    · have g2 : ((ng : Int) != (ng' : Int)) = true := by simp; omega
      clear h1 h2 hd
      go_enter Try.func14, Try.ntmps14
      go_wp2_with fail
      go_ret
      exact ⟨rfl, ball (ball (Below.refl _ _) _) _⟩
  · have g1 : ((nu : Int) != (nu' : Int)) = true := by simp; omega
    clear h1 hd
    go_enter Try.func14, Try.ntmps14
    go_wp2_with fail
    go_ret
    exact ⟨rfl, ball (ball (Below.refl _ _) _) _⟩
set_option maxRecDepth 100000 in
set_option maxHeartbeats 4000000 in
theorem same_go (t t' : Tv) (w : World) (ht : Hid (t.ok w)) (ht' : Hid (t'.ok w)) (hd1 : t.nu = t'.nu) (hd2 : t.ng = t'.ng) (hd3 : t.na = t'.na) (r : Bool) (hr : Hid ((likeTo t.T.U t'.T.U t.nu && likeTo t.T.G t'.T.G t.ng && likeTo t.T.A t'.T.A t.na) = r)) : Calls Try.prog 14 #[t.v, t'.v] w (Yes r w) := by
  obtain ⟨⟨U, G, A⟩, ua, nu, uc, ga, ng, gc, aa, na, ac⟩ := t
  obtain ⟨⟨U', G', A'⟩, ua', nu', uc', ga', ng', gc', aa', na', ac'⟩ := t'
  simp only at hd1 hd2 hd3 ⊢
  subst hd1 hd2 hd3
  have hu := ht.out.um; have hg := ht.out.gm; have ha := ht.out.am
  have hu2 := ht.out.uc; have hg2 := ht.out.gc; have ha2 := ht.out.ac
  unfold maxLen at hu hg ha
  simp only at hu hg ha hu2 hg2 ha2
  have g1 : ((nu : Int) != (nu : Int)) = false := by simp
  have g2 : ((ng : Int) != (ng : Int)) = false := by simp
  have g3 : ((na : Int) != (na : Int)) = false := by simp
  go_enter Try.func14, Try.ntmps14
  go_upto_region 1 with (fail)
  have Ta := CAt.new (w) [.slice ua nu uc, .slice ga ng gc, .slice aa na ac] 26
  have BB : Below w.heap.size w ((w).alloc (.cells #[.slice ua nu uc, .slice ga ng gc, .slice aa na ac] 26)) := ball (Below.refl _ _) _
  have Tb := CAt.new (w.alloc (.cells #[.slice ua nu uc, .slice ga ng gc, .slice aa na ac] 26)) [.slice ua' nu uc', .slice ga' ng gc', .slice aa' na ac'] 26
  replace Ta := Ta.alloc (.cells #[.slice ua' nu uc', .slice ga' ng gc', .slice aa' na ac'] 26)
  replace BB := ball BB (.cells #[.slice ua' nu uc', .slice ga' ng gc', .slice aa' na ac'] 26)
  simp only [World.size_alloc, Nat.add_assoc, Nat.reduceAdd] at Tb
  obtain ⟨V1, hV1⟩ : ∃ V1, (w.alloc (.cells #[.slice ua nu uc, .slice ga ng gc, .slice aa na ac] 26)).alloc (.cells #[.slice ua' nu uc', .slice ga' ng gc', .slice aa' na ac'] 26) = V1 := ⟨_, rfl⟩
  rw [hV1] at BB Ta Tb ⊢
  clear hV1
  have a0 := Ta 0 _ rfl
  have a1 := Ta 1 _ rfl
  have a2 := Ta 2 _ rfl
  have b0 := Tb 0 _ rfl
  have b1 := Tb 1 _ rfl
  have b2 := Tb 2 _ rfl
  go_wp2_with fail
  clear a0 a1 a2 b0 b1 b2
  go_loopw [5] (fun i wr => ∃ k : Nat, k ≤ nu ∧ i = .int .i64 k ∧ Hid (likeTo U U' k = true) ∧ Below w.heap.size w wr ∧ CAt wr w.heap.size [.slice ua nu uc, .slice ga ng gc, .slice aa na ac] ∧ CAt wr (w.heap.size + 1) [.slice ua' nu uc', .slice ga' ng gc', .slice aa' na ac']) (fun i _ => nu - (intOf i).toNat)
  case atStart => exact ⟨0, Nat.zero_le _, rfl, Lib.hid rfl, BB, Ta, Tb⟩
  case round =>
    clear BB Ta Tb
    obtain ⟨k, hk, rfl, hlk, BB, Ta, Tb⟩ := hrel
    by_cases hlt : k < nu
    ·
      have hlt' : (k : Int) < (nu : Int) := by omega
      have hk0 : (0 : Int) ≤ (k : Int) := by omega
      obtain ⟨b, off, e1, c0, c1, c2, c3⟩ := ht.out.u.us BB (i := k) (by have := ht.out.un; simp only at this ⊢; omega)
      obtain ⟨b', off', e2, d0, d1, d2, d3⟩ := ht'.out.u.us BB (i := k) (by have := ht'.out.un; simp only at this ⊢; omega)
      simp only at e1 e2
      obtain ⟨x, hx⟩ : ∃ x, U.getD k default = x := ⟨_, rfl⟩
      obtain ⟨y, hy⟩ : ∃ y, U'.getD k default = y := ⟨_, rfl⟩
      simp only [hx] at c0 c1 c2 c3
      simp only [hy] at d0 d1 d2 d3
      have hsucc : likeTo U U' (k + 1) = decide (x = y) := by rw [likeTo, hlk.out, hx, hy]; rfl
      have HS := Lib.hid hsucc
      subst e1 e2
      clear hx hy hsucc
      obtain ⟨z, hz⟩ : ∃ z, decide (x = y) = z := ⟨_, rfl⟩
      have HZ := Lib.hid hz
      have hne := ne_us x.s y.s x.o y.o x.p y.p x.t y.t z (by rw [← hz]; exact decide_eq_decide.2 us_eq.symm)
      clear hz
      have a0 := Ta 0 _ rfl
      have a1 := Ta 1 _ rfl
      have a2 := Ta 2 _ rfl
      have b0 := Tb 0 _ rfl
      have b1 := Tb 1 _ rfl
      have b2 := Tb 2 _ rfl
      go_upto_region 6 with (fail)
      clear a0 a1 a2 b0 b1 b2
      have kc0 := cell_regrown c0
      have kc1 := cell_regrown c1
      have kc2 := cell_regrown c2
      have kc3 := cell_regrown c3
      have kd0 := cell_regrown d0
      have kd1 := cell_regrown d1
      have kd2 := cell_regrown d2
      have kd3 := cell_regrown d3
      cases z
      ·
        simp only [Bool.not_false] at hne
        have a0 := Ta 0 _ rfl
        have ka0 := cell_regrown a0
        have a1 := Ta 1 _ rfl
        have ka1 := cell_regrown a1
        have a2 := Ta 2 _ rfl
        have ka2 := cell_regrown a2
        have b0 := Tb 0 _ rfl
        have kb0 := cell_regrown b0
        have b1 := Tb 1 _ rfl
        have kb1 := cell_regrown b1
        have b2 := Tb 2 _ rfl
        have kb2 := cell_regrown b2
        refine wp_region_quiet_below (by kernel_rfl) (by kernel_rfl) ?_
        repeat (go_big_quiet_step (fail))
        refine wpQuiet_nil ?_
        intro _ hw'
        obtain ⟨⟨dq, osq⟩, hw''⟩ := hw'
        subst hw''
        clear a0 ka0 a1 ka1 a2 ka2 b0 kb0 b1 kb1 b2 kb2
        have bq := below_regrown wr dq osq
        obtain ⟨V2, hV2⟩ : ∃ V2, grow (redrawn wr dq) osq = V2 := ⟨_, rfl⟩
        rw [hV2] at bq ⊢
        clear hV2 dq osq
        replace Ta := Ta.keep bq
        replace Tb := Tb.keep bq
        replace BB := bstep BB bq
        clear bq
        clear hne c0 c1 c2 c3 d0 d1 d2 d3 kc0 kc1 kc2 kc3 kd0 kd1 kd2 kd3
        have a0 := Ta 0 _ rfl
        have a1 := Ta 1 _ rfl
        have a2 := Ta 2 _ rfl
        have b0 := Tb 0 _ rfl
        have b1 := Tb 1 _ rfl
        have b2 := Tb 2 _ rfl
        go_wp2_with fail
        clear a0 a1 a2 b0 b1 b2
        go_ret
        have hf := likeTo_le (n := nu) (by omega) (HS.out.trans HZ.out)
        have hres : r = false := by rw [← hr.out]; simp only [hf, Bool.false_and, Bool.and_false, Bool.true_and]
        subst hres
        exact ⟨rfl, BB⟩
      ·
        simp only [Bool.not_true] at hne
        have a0 := Ta 0 _ rfl
        have ka0 := cell_regrown a0
        have a1 := Ta 1 _ rfl
        have ka1 := cell_regrown a1
        have a2 := Ta 2 _ rfl
        have ka2 := cell_regrown a2
        have b0 := Tb 0 _ rfl
        have kb0 := cell_regrown b0
        have b1 := Tb 1 _ rfl
        have kb1 := cell_regrown b1
        have b2 := Tb 2 _ rfl
        have kb2 := cell_regrown b2
        refine wp_region_quiet_below (by kernel_rfl) (by kernel_rfl) ?_
        repeat (go_big_quiet_step (fail))
        refine wpQuiet_nil ?_
        intro _ hw'
        obtain ⟨⟨dq, osq⟩, hw''⟩ := hw'
        subst hw''
        clear a0 ka0 a1 ka1 a2 ka2 b0 kb0 b1 kb1 b2 kb2
        have bq := below_regrown wr dq osq
        obtain ⟨V2, hV2⟩ : ∃ V2, grow (redrawn wr dq) osq = V2 := ⟨_, rfl⟩
        rw [hV2] at bq ⊢
        clear hV2 dq osq
        replace Ta := Ta.keep bq
        replace Tb := Tb.keep bq
        replace BB := bstep BB bq
        clear bq
        clear hne c0 c1 c2 c3 d0 d1 d2 d3 kc0 kc1 kc2 kc3 kd0 kd1 kd2 kd3
        have a0 := Ta 0 _ rfl
        have a1 := Ta 1 _ rfl
        have a2 := Ta 2 _ rfl
        have b0 := Tb 0 _ rfl
        have b1 := Tb 1 _ rfl
        have b2 := Tb 2 _ rfl
        go_wp2_with fail
        clear a0 a1 a2 b0 b1 b2
        go_roundw
        case rel => exact ⟨k + 1, by omega, by go_num, Lib.hid (by rw [HS.out, HZ.out]), BB, Ta, Tb⟩
        case measure => simp [intOf]; omega
    ·
      obtain rfl : nu = k := by omega
      have hlt' : ¬ (nu : Int) < (nu : Int) := by omega
      have hl5 := hlk
      clear hlk
      have a0 := Ta 0 _ rfl
      have a1 := Ta 1 _ rfl
      have a2 := Ta 2 _ rfl
      have b0 := Tb 0 _ rfl
      have b1 := Tb 1 _ rfl
      have b2 := Tb 2 _ rfl
      go_wp2_with fail
      clear a0 a1 a2 b0 b1 b2
      go_loopw [6] (fun i wr => ∃ k : Nat, k ≤ ng ∧ i = .int .i64 k ∧ Hid (likeTo G G' k = true) ∧ Below w.heap.size w wr ∧ CAt wr w.heap.size [.slice ua nu uc, .slice ga ng gc, .slice aa na ac] ∧ CAt wr (w.heap.size + 1) [.slice ua' nu uc', .slice ga' ng gc', .slice aa' na ac']) (fun i _ => ng - (intOf i).toNat)
      case atStart => exact ⟨0, Nat.zero_le _, rfl, Lib.hid rfl, BB, Ta, Tb⟩
      case round =>
        clear BB Ta Tb
        obtain ⟨k, hk, rfl, hlk, BB, Ta, Tb⟩ := hrel
        by_cases hlt : k < ng
        ·
          have hlt' : (k : Int) < (ng : Int) := by omega
          have hk0 : (0 : Int) ≤ (k : Int) := by omega
          obtain ⟨b, off, e1, c0, c1, c2, c3, c4⟩ := ht.out.g.gr BB (i := k) (by have := ht.out.gn; simp only at this ⊢; omega)
          obtain ⟨b', off', e2, d0, d1, d2, d3, d4⟩ := ht'.out.g.gr BB (i := k) (by have := ht'.out.gn; simp only at this ⊢; omega)
          simp only at e1 e2
          obtain ⟨x, hx⟩ : ∃ x, G.getD k default = x := ⟨_, rfl⟩
          obtain ⟨y, hy⟩ : ∃ y, G'.getD k default = y := ⟨_, rfl⟩
          simp only [hx] at c0 c1 c2 c3 c4
          simp only [hy] at d0 d1 d2 d3 d4
          have hsucc : likeTo G G' (k + 1) = decide (x = y) := by rw [likeTo, hlk.out, hx, hy]; rfl
          have HS := Lib.hid hsucc
          subst e1 e2
          clear hx hy hsucc
          obtain ⟨z, hz⟩ : ∃ z, decide (x = y) = z := ⟨_, rfl⟩
          have HZ := Lib.hid hz
          have hne := ne_gr x.s y.s x.o y.o x.p y.p x.t y.t x.u y.u z (by rw [← hz]; exact decide_eq_decide.2 gr_eq.symm)
          clear hz
          have a0 := Ta 0 _ rfl
          have a1 := Ta 1 _ rfl
          have a2 := Ta 2 _ rfl
          have b0 := Tb 0 _ rfl
          have b1 := Tb 1 _ rfl
          have b2 := Tb 2 _ rfl
          go_upto_region 11 with (fail)
          clear a0 a1 a2 b0 b1 b2
          have kc0 := cell_regrown c0
          have kc1 := cell_regrown c1
          have kc2 := cell_regrown c2
          have kc3 := cell_regrown c3
          have kc4 := cell_regrown c4
          have kd0 := cell_regrown d0
          have kd1 := cell_regrown d1
          have kd2 := cell_regrown d2
          have kd3 := cell_regrown d3
          have kd4 := cell_regrown d4
          cases z
          ·
            simp only [Bool.not_false] at hne
            have a0 := Ta 0 _ rfl
            have ka0 := cell_regrown a0
            have a1 := Ta 1 _ rfl
            have ka1 := cell_regrown a1
            have a2 := Ta 2 _ rfl
            have ka2 := cell_regrown a2
            have b0 := Tb 0 _ rfl
            have kb0 := cell_regrown b0
            have b1 := Tb 1 _ rfl
            have kb1 := cell_regrown b1
            have b2 := Tb 2 _ rfl
            have kb2 := cell_regrown b2
            refine wp_region_quiet_below (by kernel_rfl) (by kernel_rfl) ?_
            repeat (go_big_quiet_step (fail))
            refine wpQuiet_nil ?_
            intro _ hw'
            obtain ⟨⟨dq, osq⟩, hw''⟩ := hw'
            subst hw''
            clear a0 ka0 a1 ka1 a2 ka2 b0 kb0 b1 kb1 b2 kb2
            have bq := below_regrown wr dq osq
            obtain ⟨V2, hV2⟩ : ∃ V2, grow (redrawn wr dq) osq = V2 := ⟨_, rfl⟩
            rw [hV2] at bq ⊢
            clear hV2 dq osq
            replace Ta := Ta.keep bq
            replace Tb := Tb.keep bq
            replace BB := bstep BB bq
            clear bq
            clear hne c0 c1 c2 c3 c4 d0 d1 d2 d3 d4 kc0 kc1 kc2 kc3 kc4 kd0 kd1 kd2 kd3 kd4
            have a0 := Ta 0 _ rfl
            have a1 := Ta 1 _ rfl
            have a2 := Ta 2 _ rfl
            have b0 := Tb 0 _ rfl
            have b1 := Tb 1 _ rfl
            have b2 := Tb 2 _ rfl
            go_wp2_with fail
            clear a0 a1 a2 b0 b1 b2
            go_ret
            have hf := likeTo_le (n := ng) (by omega) (HS.out.trans HZ.out)
            have hres : r = false := by rw [← hr.out]; simp only [hl5.out, hf, Bool.false_and, Bool.and_false, Bool.true_and]
            subst hres
            exact ⟨rfl, BB⟩
          ·
            simp only [Bool.not_true] at hne
            have a0 := Ta 0 _ rfl
            have ka0 := cell_regrown a0
            have a1 := Ta 1 _ rfl
            have ka1 := cell_regrown a1
            have a2 := Ta 2 _ rfl
            have ka2 := cell_regrown a2
            have b0 := Tb 0 _ rfl
            have kb0 := cell_regrown b0
            have b1 := Tb 1 _ rfl
            have kb1 := cell_regrown b1
            have b2 := Tb 2 _ rfl
            have kb2 := cell_regrown b2
            refine wp_region_quiet_below (by kernel_rfl) (by kernel_rfl) ?_
            repeat (go_big_quiet_step (fail))
            refine wpQuiet_nil ?_
            intro _ hw'
            obtain ⟨⟨dq, osq⟩, hw''⟩ := hw'
            subst hw''
            clear a0 ka0 a1 ka1 a2 ka2 b0 kb0 b1 kb1 b2 kb2
            have bq := below_regrown wr dq osq
            obtain ⟨V2, hV2⟩ : ∃ V2, grow (redrawn wr dq) osq = V2 := ⟨_, rfl⟩
            rw [hV2] at bq ⊢
            clear hV2 dq osq
            replace Ta := Ta.keep bq
            replace Tb := Tb.keep bq
            replace BB := bstep BB bq
            clear bq
            clear hne c0 c1 c2 c3 c4 d0 d1 d2 d3 d4 kc0 kc1 kc2 kc3 kc4 kd0 kd1 kd2 kd3 kd4
            have a0 := Ta 0 _ rfl
            have a1 := Ta 1 _ rfl
            have a2 := Ta 2 _ rfl
            have b0 := Tb 0 _ rfl
            have b1 := Tb 1 _ rfl
            have b2 := Tb 2 _ rfl
            go_wp2_with fail
            clear a0 a1 a2 b0 b1 b2
            go_roundw
            case rel => exact ⟨k + 1, by omega, by go_num, Lib.hid (by rw [HS.out, HZ.out]), BB, Ta, Tb⟩
            case measure => simp [intOf]; omega
        ·
          obtain rfl : ng = k := by omega
          have hlt' : ¬ (ng : Int) < (ng : Int) := by omega
          have hl6 := hlk
          clear hlk
          have a0 := Ta 0 _ rfl
          have a1 := Ta 1 _ rfl
          have a2 := Ta 2 _ rfl
          have b0 := Tb 0 _ rfl
          have b1 := Tb 1 _ rfl
          have b2 := Tb 2 _ rfl
          go_wp2_with fail
          clear a0 a1 a2 b0 b1 b2
          go_loopw [7] (fun i wr => ∃ k : Nat, k ≤ na ∧ i = .int .i64 k ∧ Hid (likeTo A A' k = true) ∧ Below w.heap.size w wr ∧ CAt wr w.heap.size [.slice ua nu uc, .slice ga ng gc, .slice aa na ac] ∧ CAt wr (w.heap.size + 1) [.slice ua' nu uc', .slice ga' ng gc', .slice aa' na ac']) (fun i _ => na - (intOf i).toNat)
          case atStart => exact ⟨0, Nat.zero_le _, rfl, Lib.hid rfl, BB, Ta, Tb⟩
          case round =>
            clear BB Ta Tb
            obtain ⟨k, hk, rfl, hlk, BB, Ta, Tb⟩ := hrel
            by_cases hlt : k < na
            ·
              have hlt' : (k : Int) < (na : Int) := by omega
              have hk0 : (0 : Int) ≤ (k : Int) := by omega
              obtain ⟨b, off, e1, c0, c1, c2⟩ := ht.out.a.ak BB (i := k) (by have := ht.out.an; simp only at this ⊢; omega)
              obtain ⟨b', off', e2, d0, d1, d2⟩ := ht'.out.a.ak BB (i := k) (by have := ht'.out.an; simp only at this ⊢; omega)
              simp only at e1 e2
              obtain ⟨x, hx⟩ : ∃ x, A.getD k default = x := ⟨_, rfl⟩
              obtain ⟨y, hy⟩ : ∃ y, A'.getD k default = y := ⟨_, rfl⟩
              simp only [hx] at c0 c1 c2
              simp only [hy] at d0 d1 d2
              have hsucc : likeTo A A' (k + 1) = decide (x = y) := by rw [likeTo, hlk.out, hx, hy]; rfl
              have HS := Lib.hid hsucc
              subst e1 e2
              clear hx hy hsucc
              obtain ⟨z, hz⟩ : ∃ z, decide (x = y) = z := ⟨_, rfl⟩
              have HZ := Lib.hid hz
              have hne := ne_ak x.s y.s x.o y.o x.p y.p z (by rw [← hz]; exact decide_eq_decide.2 ak_eq.symm)
              clear hz
              have a0 := Ta 0 _ rfl
              have a1 := Ta 1 _ rfl
              have a2 := Ta 2 _ rfl
              have b0 := Tb 0 _ rfl
              have b1 := Tb 1 _ rfl
              have b2 := Tb 2 _ rfl
              go_upto_region 16 with (fail)
              clear a0 a1 a2 b0 b1 b2
              have kc0 := cell_regrown c0
              have kc1 := cell_regrown c1
              have kc2 := cell_regrown c2
              have kd0 := cell_regrown d0
              have kd1 := cell_regrown d1
              have kd2 := cell_regrown d2
              cases z
              ·
                simp only [Bool.not_false] at hne
                have a0 := Ta 0 _ rfl
                have ka0 := cell_regrown a0
                have a1 := Ta 1 _ rfl
                have ka1 := cell_regrown a1
                have a2 := Ta 2 _ rfl
                have ka2 := cell_regrown a2
                have b0 := Tb 0 _ rfl
                have kb0 := cell_regrown b0
                have b1 := Tb 1 _ rfl
                have kb1 := cell_regrown b1
                have b2 := Tb 2 _ rfl
                have kb2 := cell_regrown b2
                refine wp_region_quiet_below (by kernel_rfl) (by kernel_rfl) ?_
                repeat (go_big_quiet_step (fail))
                refine wpQuiet_nil ?_
                intro _ hw'
                obtain ⟨⟨dq, osq⟩, hw''⟩ := hw'
                subst hw''
                clear a0 ka0 a1 ka1 a2 ka2 b0 kb0 b1 kb1 b2 kb2
                have bq := below_regrown wr dq osq
                obtain ⟨V2, hV2⟩ : ∃ V2, grow (redrawn wr dq) osq = V2 := ⟨_, rfl⟩
                rw [hV2] at bq ⊢
                clear hV2 dq osq
                replace Ta := Ta.keep bq
                replace Tb := Tb.keep bq
                replace BB := bstep BB bq
                clear bq
                clear hne c0 c1 c2 d0 d1 d2 kc0 kc1 kc2 kd0 kd1 kd2
                have a0 := Ta 0 _ rfl
                have a1 := Ta 1 _ rfl
                have a2 := Ta 2 _ rfl
                have b0 := Tb 0 _ rfl
                have b1 := Tb 1 _ rfl
                have b2 := Tb 2 _ rfl
                go_wp2_with fail
                clear a0 a1 a2 b0 b1 b2
                go_ret
                have hf := likeTo_le (n := na) (by omega) (HS.out.trans HZ.out)
                have hres : r = false := by rw [← hr.out]; simp only [hl5.out, hl6.out, hf, Bool.false_and, Bool.and_false, Bool.true_and]
                subst hres
                exact ⟨rfl, BB⟩
              ·
                simp only [Bool.not_true] at hne
                have a0 := Ta 0 _ rfl
                have ka0 := cell_regrown a0
                have a1 := Ta 1 _ rfl
                have ka1 := cell_regrown a1
                have a2 := Ta 2 _ rfl
                have ka2 := cell_regrown a2
                have b0 := Tb 0 _ rfl
                have kb0 := cell_regrown b0
                have b1 := Tb 1 _ rfl
                have kb1 := cell_regrown b1
                have b2 := Tb 2 _ rfl
                have kb2 := cell_regrown b2
                refine wp_region_quiet_below (by kernel_rfl) (by kernel_rfl) ?_
                repeat (go_big_quiet_step (fail))
                refine wpQuiet_nil ?_
                intro _ hw'
                obtain ⟨⟨dq, osq⟩, hw''⟩ := hw'
                subst hw''
                clear a0 ka0 a1 ka1 a2 ka2 b0 kb0 b1 kb1 b2 kb2
                have bq := below_regrown wr dq osq
                obtain ⟨V2, hV2⟩ : ∃ V2, grow (redrawn wr dq) osq = V2 := ⟨_, rfl⟩
                rw [hV2] at bq ⊢
                clear hV2 dq osq
                replace Ta := Ta.keep bq
                replace Tb := Tb.keep bq
                replace BB := bstep BB bq
                clear bq
                clear hne c0 c1 c2 d0 d1 d2 kc0 kc1 kc2 kd0 kd1 kd2
                have a0 := Ta 0 _ rfl
                have a1 := Ta 1 _ rfl
                have a2 := Ta 2 _ rfl
                have b0 := Tb 0 _ rfl
                have b1 := Tb 1 _ rfl
                have b2 := Tb 2 _ rfl
                go_wp2_with fail
                clear a0 a1 a2 b0 b1 b2
                go_roundw
                case rel => exact ⟨k + 1, by omega, by go_num, Lib.hid (by rw [HS.out, HZ.out]), BB, Ta, Tb⟩
                case measure => simp [intOf]; omega
            ·
              obtain rfl : na = k := by omega
              have hlt' : ¬ (na : Int) < (na : Int) := by omega
              have hl7 := hlk
              clear hlk
              have a0 := Ta 0 _ rfl
              have a1 := Ta 1 _ rfl
              have a2 := Ta 2 _ rfl
              have b0 := Tb 0 _ rfl
              have b1 := Tb 1 _ rfl
              have b2 := Tb 2 _ rfl
              go_wp2_with fail
              clear a0 a1 a2 b0 b1 b2
              go_ret
              have hres : r = true := by rw [← hr.out, hl5.out, hl6.out, hl7.out]; rfl
              subst hres
              exact ⟨rfl, BB⟩
theorem same_at (t t' : Tv) (w : World) (ht : t.ok w) (ht' : t'.ok w) (r : Bool) (hr : sameB t.T t'.T = r) : Calls Try.prog 14 #[t.v, t'.v] w (Yes r w) := by
  rw [same_split t t' ht ht'] at hr
  by_cases h : t.nu = t'.nu ∧ t.ng = t'.ng ∧ t.na = t'.na
  · rw [if_pos h] at hr
    exact same_go t t' w (Lib.hid ht) (Lib.hid ht') h.1 h.2.1 h.2.2 r (Lib.hid hr)
  · rw [if_neg h] at hr
    subst hr
    exact same_len t t' w (Lib.hid ht) (Lib.hid ht') h
end Go.Proofs.Ytleenbfldkmcaaa
