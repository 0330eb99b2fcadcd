/- Proved: what the reference functions return that tell whether a use or a grant is to be given up. Conditions: what was heard lies in memory. -/
import Derived.Test.YtleenbfldkmcaaaK5
namespace Go.Proofs.Ytleenbfldkmcaaa
open Go.RowKit Go.Sort Go.BigFrame
set_option linter.unusedVariables false
set_option linter.unusedSimpArgs false
attribute [local go_sem] cell_alloc_old

attribute [local go_sem ↓] exec_load61

theorem any_take_succ {α : Type} [Inhabited α] (f : α → Bool) {l : List α} {k : Nat} (hk : k < l.length) : (l.take (k + 1)).any f = ((l.take k).any f || f (l.getD k default)) := by
  rw [List.take_add_one, List.getElem?_eq_getElem hk, List.any_append, List.getD_eq_getElem?_getD, List.getElem?_eq_getElem hk]
  simp
theorem any_of_take {α : Type} {f : α → Bool} {l : List α} {k : Nat} (h : (l.take k).any f = true) : l.any f = true := by
  rw [List.any_eq_true] at *
  obtain ⟨x, hx, hf⟩ := h
  exact ⟨x, List.mem_of_mem_take hx, hf⟩
theorem any_len {α : Type} {f : α → Bool} {l : List α} {k : Nat} (hk : k = l.length) : (l.take k).any f = l.any f := by rw [hk, List.take_length]
/-- What a neighbour makes a use lose, what makes a grant void. -/
def lostN (u : Us) (me fr : Int) (n : Nv) : Bool := latB n.B.f fr && n.B.G.any (lostG u me fr)
def voidN (g : Gr) (fr : Int) (n : Nv) : Bool := latB n.B.f fr && n.B.U.any (voidU g n.B.h)
theorem lost_nbs (u : Us) (me fr : Int) (N : List Nv) : lostB u me fr (nbs N) = N.any (lostN u me fr) := by unfold lostB nbs; rw [any_map']; rfl
theorem void_nbs (g : Gr) (fr : Int) (N : List Nv) : voidB g fr (nbs N) = N.any (voidN g fr) := by unfold voidB nbs; rw [any_map']; rfl

theorem cell_eq (a b c d : Int) : decide (a = c ∧ b = d) = (a == c && b == d) := Bool.decide_and _ _
theorem lostG_parts {u : Us} {me fr : Int} {g : Gr} {z q1 q2 q3 : Bool} (hz : decide (g.s = u.s ∧ g.o = u.o) = z) (h1 : (g.p != me) = q1) (h2 : decide (fr ≤ g.u) = q2) (h3 : betB g.t g.p u.t me = q3) : lostG u me fr g = (z && q1 && q2 && q3) := by
  unfold lostG; rw [← hz, ← h1, ← h2, ← h3, cell_eq]
theorem voidU_parts {g : Gr} {h : Int} {x : Us} {z q1 q3 : Bool} (hz : decide (x.s = g.s ∧ x.o = g.o) = z) (h1 : (h != g.p) = q1) (h3 : betB x.t h g.t g.p = q3) : voidU g h x = (z && q1 && q3) := by
  unfold voidU; rw [← hz, ← h1, ← h3, cell_eq]

set_option maxRecDepth 100000 in
set_option maxHeartbeats 4000000 in
theorem lost_at (u : Us) (me fr : Int) (N : List Nv) (n : Nat) (a : Option Addr) (cap : Nat) (w : World) (hn : Hid (n = N.length)) (hl : NsAt w a N) (hm : n ≤ maxLen) (y : Bool) (hy : Hid (lostB u me fr (nbs N) = y)) :
    Calls Try.prog 27 #[u.v, .int .i64 me, .slice a n cap, .int .i64 fr] w (Yes y w) := by
  unfold maxLen at hm
  have HR : Hid (N.any (lostN u me fr) = y) := Lib.hid (by rw [← hy.out, lost_nbs])
  go_enter Try.func27, Try.ntmps27
  go_upto_region 1 with (fail)
  have Tu := CAt.new (w) [.int .i64 u.s, .int .i64 u.o, .int .i64 u.p, .int .i64 u.t] 43
  have BB : Below w.heap.size w ((w).alloc (.cells #[.int .i64 u.s, .int .i64 u.o, .int .i64 u.p, .int .i64 u.t] 43)) := ball (Below.refl _ _) _
  obtain ⟨V1, hV1⟩ : ∃ V1, w.alloc (.cells #[.int .i64 u.s, .int .i64 u.o, .int .i64 u.p, .int .i64 u.t] 43) = V1 := ⟨_, rfl⟩
  rw [hV1] at BB Tu ⊢
  clear hV1
  have u0 := Tu 0 _ rfl
  have u1 := Tu 1 _ rfl
  have u2 := Tu 2 _ rfl
  have u3 := Tu 3 _ rfl
  go_wp2_with fail
  clear u0 u1 u2 u3
  go_loopw [9] (fun i wr => ∃ j : Nat, j ≤ n ∧ i = .int .i64 j ∧ Hid ((N.take j).any (lostN u me fr) = false) ∧ Below w.heap.size w wr ∧ CAt wr w.heap.size [.int .i64 u.s, .int .i64 u.o, .int .i64 u.p, .int .i64 u.t]) (fun i _ => n - (intOf i).toNat)
  case atStart => exact ⟨0, Nat.zero_le _, rfl, Lib.hid rfl, BB, Tu⟩
  case round =>
    clear BB Tu
    obtain ⟨j, hj, rfl, hlk, BB, Tu⟩ := hrel
    by_cases hlt : j < n
    ·
      have hlt' : (j : Int) < (n : Int) := by omega
      have hj0 : (0 : Int) ≤ (j : Int) := by omega
      obtain ⟨b, off, rfl, ho, hc⟩ := hl.at BB (i := j) (by rw [← hn.out]; exact hlt)
      have hsucc : (N.take (j + 1)).any (lostN u me fr) = lostN u me fr (N.getD j default) := by rw [any_take_succ _ (by rw [← hn.out]; exact hlt), hlk.out, Bool.false_or]
      obtain ⟨x, hx⟩ : ∃ x, N.getD j default = x := ⟨_, rfl⟩
      rw [hx] at hc ho hsucc
      have HS := Lib.hid hsucc
      have HC := Lib.hid hc
      have hom := ho.gm; have hoc := ho.gc
      unfold maxLen at hom
      have HO := Lib.hid ho
      clear hsucc hx hc ho
      obtain ⟨q, hq⟩ : ∃ q, latB x.B.f fr = q := ⟨_, rfl⟩
      have HQ := Lib.hid hq; clear hq
      have c12 := HC.out 13 _ rfl
      obtain ⟨ad, had⟩ : ∃ ad, x.ga = ad := ⟨_, rfl⟩
      rw [had] at c12
      have HAD := Lib.hid had
      clear had
      go_upto_region 6 with (fail)
      clear c12
      obtain ⟨W1, hW1⟩ : ∃ W1, W1 = wr := ⟨_, rfl⟩
      subst hW1
      go_loopw [11] (fun i wr => ∃ k : Nat, k ≤ x.ng ∧ i = .int .i64 k ∧ Hid (q = true → (x.B.G.take k).any (lostG u me fr) = false) ∧ Below w.heap.size w wr ∧ Below W1.heap.size W1 wr ∧ CAt wr w.heap.size [.int .i64 u.s, .int .i64 u.o, .int .i64 u.p, .int .i64 u.t]) (fun i _ => x.ng - (intOf i).toNat)
      case atStart => exact ⟨0, Nat.zero_le _, rfl, Lib.hid (fun _ => rfl), BB, Below.refl _ _, Tu⟩
      case round =>
        clear BB Tu
        obtain ⟨k, hk, rfl, hin, BB, BR, Tu⟩ := hrel
        by_cases hkt : k < x.ng
        ·
          have hkt' : (k : Int) < (x.ng : Int) := by omega
          have hk0 : (0 : Int) ≤ (k : Int) := by omega
          have hc : ∀ j' v, x.cs[j']? = some v → wr.cell? ⟨b, off + j * 31 + j', none⟩ = some v := fun j' v hv => keep1 BR (HC.out j' v hv)
          have hld := run_load61 (o := off + j * 31) x hc
          clear hc
          go_wp2_with fail
          clear hld
          refine (rlately_at x fr q _ HQ.out).mono ?_
          rintro e w2 ⟨rfl, b1⟩
          replace BB := bstep BB b1
          replace BR := bstep BR b1
          replace Tu := Tu.keep b1
          clear b1
          cases q
          ·
            go_wp2_with fail
            go_roundw
            case rel => exact ⟨j + 1, by omega, by go_num, Lib.hid (by rw [HS.out]; unfold lostN; rw [HQ.out]; rfl), BB, Tu⟩
            case measure => simp [intOf]; omega
          ·
            obtain ⟨b2, off2, e1, c0, c1, c2, c3, c4⟩ := (HO.out.g.keep BR).gr (Below.refl _ _) (i := k) (by rw [← HO.out.gn]; exact hkt)
            have hin2 : (x.B.G.take (k + 1)).any (lostG u me fr) = (lostG u me fr) (x.B.G.getD k default) := by rw [any_take_succ _ (by rw [← HO.out.gn]; exact hkt), hin.out rfl, Bool.false_or]
            obtain ⟨g', hg'⟩ : ∃ g', x.B.G.getD k default = g' := ⟨_, rfl⟩
            simp only [hg'] at c0 c1 c2 c3 c4 hin2
            have HI2 := Lib.hid hin2
            clear hg' hin2
            obtain ⟨z, hz⟩ : ∃ z, decide (g'.s = u.s ∧ g'.o = u.o) = z := ⟨_, rfl⟩
            have HZ := Lib.hid hz
            have heq := eq_cell g'.s g'.o u.s u.o z hz
            clear hz
            obtain ⟨q1, hq1⟩ : ∃ q1, (g'.p != me) = q1 := ⟨_, rfl⟩
            obtain ⟨q2, hq2⟩ : ∃ q2, decide (fr ≤ g'.u) = q2 := ⟨_, rfl⟩
            obtain ⟨q3, hq3⟩ : ∃ q3, betB g'.t g'.p u.t me = q3 := ⟨_, rfl⟩
            have HE : Hid (lostG u me fr g' = (z && q1 && q2 && q3)) := Lib.hid (lostG_parts HZ.out hq1 hq2 hq3)
            have HB3 := Lib.hid hq3; clear hq3
            obtain rfl : ad = some ⟨b2, off2, none⟩ := HAD.out.symm.trans e1
            clear e1
            have kc0 := cell_regrown c0
            have kc1 := cell_regrown c1
            have kc2 := cell_regrown c2
            have kc3 := cell_regrown c3
            have kc4 := cell_regrown c4
            have u0 := Tu 0 _ rfl
            have u1 := Tu 1 _ rfl
            have u2 := Tu 2 _ rfl
            have u3 := Tu 3 _ rfl
            go_upto_region 8 with (fail)
            clear u0 u1 u2 u3
            cases z
            ·
              have u0 := Tu 0 _ rfl
              have ku0 := cell_regrown u0
              have u1 := Tu 1 _ rfl
              have ku1 := cell_regrown u1
              have u2 := Tu 2 _ rfl
              have ku2 := cell_regrown u2
              have u3 := Tu 3 _ rfl
              have ku3 := cell_regrown u3
              refine wp_region_quiet_below (by kernel_rfl) (by kernel_rfl) ?_
              repeat (go_big_quiet_step (fail))
              refine wpQuiet_nil ?_
              intro _ hw'
              obtain ⟨⟨dq, osq⟩, hw''⟩ := hw'
              subst hw''
              clear u0 ku0 u1 ku1 u2 ku2 u3 ku3
              have bq := below_regrown w2 dq osq
              obtain ⟨V3, hV3⟩ : ∃ V3, grow (redrawn w2 dq) osq = V3 := ⟨_, rfl⟩
              rw [hV3] at bq ⊢
              clear hV3 dq osq
              replace Tu := Tu.keep bq
              replace BB := bstep BB bq
              replace BR := bstep BR bq
              clear bq
              clear heq c0 c1 c2 c3 c4 kc0 kc1 kc2 kc3 kc4 hq1 hq2
              have u0 := Tu 0 _ rfl
              have u1 := Tu 1 _ rfl
              have u2 := Tu 2 _ rfl
              have u3 := Tu 3 _ rfl
              go_wp2_with fail
              clear u0 u1 u2 u3
              go_roundw
              case rel => exact ⟨k + 1, by omega, by go_num, Lib.hid (fun _ => by rw [HI2.out, HE.out]; rfl), BB, BR, Tu⟩
              case measure => simp [intOf]; omega
            ·
              cases q1
              ·
                have u0 := Tu 0 _ rfl
                have ku0 := cell_regrown u0
                have u1 := Tu 1 _ rfl
                have ku1 := cell_regrown u1
                have u2 := Tu 2 _ rfl
                have ku2 := cell_regrown u2
                have u3 := Tu 3 _ rfl
                have ku3 := cell_regrown u3
                refine wp_region_quiet_below (by kernel_rfl) (by kernel_rfl) ?_
                repeat (go_big_quiet_step (fail))
                refine wpQuiet_nil ?_
                intro _ hw'
                obtain ⟨⟨dq, osq⟩, hw''⟩ := hw'
                subst hw''
                clear u0 ku0 u1 ku1 u2 ku2 u3 ku3
                have bq := below_regrown w2 dq osq
                obtain ⟨V3, hV3⟩ : ∃ V3, grow (redrawn w2 dq) osq = V3 := ⟨_, rfl⟩
                rw [hV3] at bq ⊢
                clear hV3 dq osq
                replace Tu := Tu.keep bq
                replace BB := bstep BB bq
                replace BR := bstep BR bq
                clear bq
                clear heq c0 c1 c2 c3 c4 kc0 kc1 kc2 kc3 kc4 hq1 hq2
                have u0 := Tu 0 _ rfl
                have u1 := Tu 1 _ rfl
                have u2 := Tu 2 _ rfl
                have u3 := Tu 3 _ rfl
                go_wp2_with fail
                clear u0 u1 u2 u3
                go_roundw
                case rel => exact ⟨k + 1, by omega, by go_num, Lib.hid (fun _ => by rw [HI2.out, HE.out]; rfl), BB, BR, Tu⟩
                case measure => simp [intOf]; omega
              ·
                cases q2
                ·
                  have u0 := Tu 0 _ rfl
                  have ku0 := cell_regrown u0
                  have u1 := Tu 1 _ rfl
                  have ku1 := cell_regrown u1
                  have u2 := Tu 2 _ rfl
                  have ku2 := cell_regrown u2
                  have u3 := Tu 3 _ rfl
                  have ku3 := cell_regrown u3
                  refine wp_region_quiet_below (by kernel_rfl) (by kernel_rfl) ?_
                  repeat (go_big_quiet_step (fail))
                  refine wpQuiet_nil ?_
                  intro _ hw'
                  obtain ⟨⟨dq, osq⟩, hw''⟩ := hw'
                  subst hw''
                  clear u0 ku0 u1 ku1 u2 ku2 u3 ku3
                  have bq := below_regrown w2 dq osq
                  obtain ⟨V3, hV3⟩ : ∃ V3, grow (redrawn w2 dq) osq = V3 := ⟨_, rfl⟩
                  rw [hV3] at bq ⊢
                  clear hV3 dq osq
                  replace Tu := Tu.keep bq
                  replace BB := bstep BB bq
                  replace BR := bstep BR bq
                  clear bq
                  clear heq c0 c1 c2 c3 c4 kc0 kc1 kc2 kc3 kc4 hq1 hq2
                  have u0 := Tu 0 _ rfl
                  have u1 := Tu 1 _ rfl
                  have u2 := Tu 2 _ rfl
                  have u3 := Tu 3 _ rfl
                  go_wp2_with fail
                  clear u0 u1 u2 u3
                  go_roundw
                  case rel => exact ⟨k + 1, by omega, by go_num, Lib.hid (fun _ => by rw [HI2.out, HE.out]; rfl), BB, BR, Tu⟩
                  case measure => simp [intOf]; omega
                ·
                  have CH : ∀ w', Below w2.heap.size w2 w' → Calls Try.prog 34 #[.int .i64 g'.t, .int .i64 g'.p, .int .i64 u.t, .int .i64 me] w' fun e w'' => e = .returned (.bool q3) ∧ Below w'.heap.size w' w'' := fun w' h => rbetter_at _ _ _ _ q3 w' HB3.out
                  have u0 := Tu 0 _ rfl
                  have ku0 := cell_regrown u0
                  have u1 := Tu 1 _ rfl
                  have ku1 := cell_regrown u1
                  have u2 := Tu 2 _ rfl
                  have ku2 := cell_regrown u2
                  have u3 := Tu 3 _ rfl
                  have ku3 := cell_regrown u3
                  refine wp_region_quiet_below (by kernel_rfl) (by kernel_rfl) ?_
                  repeat (go_big_quiet_step (first
                    | (go_at_call 34; with_reducible exact rg_of CH)))
                  refine wpQuiet_nil ?_
                  intro _ hw'
                  obtain ⟨⟨dq, osq⟩, hw''⟩ := hw'
                  subst hw''
                  clear u0 ku0 u1 ku1 u2 ku2 u3 ku3
                  have bq := below_regrown w2 dq osq
                  obtain ⟨V3, hV3⟩ : ∃ V3, grow (redrawn w2 dq) osq = V3 := ⟨_, rfl⟩
                  rw [hV3] at bq ⊢
                  clear hV3 dq osq
                  replace Tu := Tu.keep bq
                  replace BB := bstep BB bq
                  replace BR := bstep BR bq
                  clear bq
                  clear CH HB3
                  cases q3
                  ·
                    clear heq c0 c1 c2 c3 c4 kc0 kc1 kc2 kc3 kc4 hq1 hq2
                    have u0 := Tu 0 _ rfl
                    have u1 := Tu 1 _ rfl
                    have u2 := Tu 2 _ rfl
                    have u3 := Tu 3 _ rfl
                    go_wp2_with fail
                    clear u0 u1 u2 u3
                    go_roundw
                    case rel => exact ⟨k + 1, by omega, by go_num, Lib.hid (fun _ => by rw [HI2.out, HE.out]; rfl), BB, BR, Tu⟩
                    case measure => simp [intOf]; omega
                  ·
                    clear heq c0 c1 c2 c3 c4 kc0 kc1 kc2 kc3 kc4 hq1 hq2
                    have u0 := Tu 0 _ rfl
                    have u1 := Tu 1 _ rfl
                    have u2 := Tu 2 _ rfl
                    have u3 := Tu 3 _ rfl
                    go_wp2_with fail
                    clear u0 u1 u2 u3
                    go_ret
                    have hres : y = true := by
                      rw [← HR.out]
                      refine any_of_take (k := j + 1) (HS.out.trans ?_)
                      unfold lostN
                      rw [HQ.out, Bool.true_and]
                      refine any_of_take (k := k + 1) (HI2.out.trans ?_)
                      rw [HE.out]; rfl
                    subst hres
                    exact ⟨rfl, BB⟩
        ·
          obtain rfl : x.ng = k := by omega
          have hkt' : ¬ (x.ng : Int) < (x.ng : Int) := by omega
          go_wp2_with fail
          go_roundw
          case rel => exact ⟨j + 1, by omega, by go_num, Lib.hid (by
            rw [HS.out]; unfold lostN; rw [HQ.out]
            cases q
            · rfl
            · rw [Bool.true_and, ← any_len HO.out.gn]; exact hin.out rfl), BB, Tu⟩
          case measure => simp [intOf]; omega
    ·
      obtain rfl : n = j := by omega
      have hlt' : ¬ (n : Int) < (n : Int) := by omega
      go_wp2_with fail
      go_ret
      have hres : y = false := by rw [← HR.out, ← any_len hn.out]; exact hlk.out
      subst hres
      exact ⟨rfl, BB⟩
set_option maxRecDepth 100000 in
set_option maxHeartbeats 4000000 in
theorem void_at (g : Gr) (fr : Int) (N : List Nv) (n : Nat) (a : Option Addr) (cap : Nat) (w : World) (hn : Hid (n = N.length)) (hl : NsAt w a N) (hm : n ≤ maxLen) (y : Bool) (hy : Hid (voidB g fr (nbs N) = y)) :
    Calls Try.prog 28 #[g.v, .slice a n cap, .int .i64 fr] w (Yes y w) := by
  unfold maxLen at hm
  have HR : Hid (N.any (voidN g fr) = y) := Lib.hid (by rw [← hy.out, void_nbs])
  go_enter Try.func28, Try.ntmps28
  go_upto_region 1 with (fail)
  have Tu := CAt.new (w) [.int .i64 g.s, .int .i64 g.o, .int .i64 g.p, .int .i64 g.t, .int .i64 g.u] 63
  have BB : Below w.heap.size w ((w).alloc (.cells #[.int .i64 g.s, .int .i64 g.o, .int .i64 g.p, .int .i64 g.t, .int .i64 g.u] 63)) := ball (Below.refl _ _) _
  obtain ⟨V1, hV1⟩ : ∃ V1, w.alloc (.cells #[.int .i64 g.s, .int .i64 g.o, .int .i64 g.p, .int .i64 g.t, .int .i64 g.u] 63) = V1 := ⟨_, rfl⟩
  rw [hV1] at BB Tu ⊢
  clear hV1
  have u0 := Tu 0 _ rfl
  have u1 := Tu 1 _ rfl
  have u2 := Tu 2 _ rfl
  have u3 := Tu 3 _ rfl
  have u4 := Tu 4 _ rfl
  go_wp2_with fail
  clear u0 u1 u2 u3 u4
  go_loopw [7] (fun i wr => ∃ j : Nat, j ≤ n ∧ i = .int .i64 j ∧ Hid ((N.take j).any (voidN g fr) = false) ∧ Below w.heap.size w wr ∧ CAt wr w.heap.size [.int .i64 g.s, .int .i64 g.o, .int .i64 g.p, .int .i64 g.t, .int .i64 g.u]) (fun i _ => n - (intOf i).toNat)
  case atStart => exact ⟨0, Nat.zero_le _, rfl, Lib.hid rfl, BB, Tu⟩
  case round =>
    clear BB Tu
    obtain ⟨j, hj, rfl, hlk, BB, Tu⟩ := hrel
    by_cases hlt : j < n
    ·
      have hlt' : (j : Int) < (n : Int) := by omega
      have hj0 : (0 : Int) ≤ (j : Int) := by omega
      obtain ⟨b, off, rfl, ho, hc⟩ := hl.at BB (i := j) (by rw [← hn.out]; exact hlt)
      have hsucc : (N.take (j + 1)).any (voidN g fr) = voidN g fr (N.getD j default) := by rw [any_take_succ _ (by rw [← hn.out]; exact hlt), hlk.out, Bool.false_or]
      obtain ⟨x, hx⟩ : ∃ x, N.getD j default = x := ⟨_, rfl⟩
      rw [hx] at hc ho hsucc
      have HS := Lib.hid hsucc
      have HC := Lib.hid hc
      have hom := ho.um; have hoc := ho.uc
      unfold maxLen at hom
      have HO := Lib.hid ho
      clear hsucc hx hc ho
      obtain ⟨q, hq⟩ : ∃ q, latB x.B.f fr = q := ⟨_, rfl⟩
      have HQ := Lib.hid hq; clear hq
      have c11 := HC.out 12 _ rfl
      obtain ⟨ad, had⟩ : ∃ ad, x.ua = ad := ⟨_, rfl⟩
      rw [had] at c11
      have HAD := Lib.hid had
      clear had
      have c1 := HC.out 1 _ rfl
      go_upto_region 7 with (fail)
      clear c11 c1
      obtain ⟨W1, hW1⟩ : ∃ W1, W1 = wr := ⟨_, rfl⟩
      subst hW1
      go_loopw [10] (fun i wr => ∃ k : Nat, k ≤ x.nu ∧ i = .int .i64 k ∧ Hid (q = true → (x.B.U.take k).any (voidU g x.B.h) = false) ∧ Below w.heap.size w wr ∧ Below W1.heap.size W1 wr ∧ CAt wr w.heap.size [.int .i64 g.s, .int .i64 g.o, .int .i64 g.p, .int .i64 g.t, .int .i64 g.u]) (fun i _ => x.nu - (intOf i).toNat)
      case atStart => exact ⟨0, Nat.zero_le _, rfl, Lib.hid (fun _ => rfl), BB, Below.refl _ _, Tu⟩
      case round =>
        clear BB Tu
        obtain ⟨k, hk, rfl, hin, BB, BR, Tu⟩ := hrel
        by_cases hkt : k < x.nu
        ·
          have hkt' : (k : Int) < (x.nu : Int) := by omega
          have hk0 : (0 : Int) ≤ (k : Int) := by omega
          have hc : ∀ j' v, x.cs[j']? = some v → wr.cell? ⟨b, off + j * 31 + j', none⟩ = some v := fun j' v hv => keep1 BR (HC.out j' v hv)
          have hld := run_load61 (o := off + j * 31) x hc
          clear hc
          go_wp2_with fail
          clear hld
          refine (rlately_at x fr q _ HQ.out).mono ?_
          rintro e w2 ⟨rfl, b1⟩
          replace BB := bstep BB b1
          replace BR := bstep BR b1
          replace Tu := Tu.keep b1
          clear b1
          cases q
          ·
            go_wp2_with fail
            go_roundw
            case rel => exact ⟨j + 1, by omega, by go_num, Lib.hid (by rw [HS.out]; unfold voidN; rw [HQ.out]; rfl), BB, Tu⟩
            case measure => simp [intOf]; omega
          ·
            obtain ⟨b2, off2, e1, c0, c1, c2, c3⟩ := (HO.out.u.keep BR).us (Below.refl _ _) (i := k) (by rw [← HO.out.un]; exact hkt)
            have hin2 : (x.B.U.take (k + 1)).any (voidU g x.B.h) = (voidU g x.B.h) (x.B.U.getD k default) := by rw [any_take_succ _ (by rw [← HO.out.un]; exact hkt), hin.out rfl, Bool.false_or]
            obtain ⟨g', hg'⟩ : ∃ g', x.B.U.getD k default = g' := ⟨_, rfl⟩
            simp only [hg'] at c0 c1 c2 c3 hin2
            have HI2 := Lib.hid hin2
            clear hg' hin2
            obtain ⟨z, hz⟩ : ∃ z, decide (g'.s = g.s ∧ g'.o = g.o) = z := ⟨_, rfl⟩
            have HZ := Lib.hid hz
            have heq := eq_cell g'.s g'.o g.s g.o z hz
            clear hz
            obtain ⟨q1, hq1⟩ : ∃ q1, (x.B.h != g.p) = q1 := ⟨_, rfl⟩
            obtain ⟨q3, hq3⟩ : ∃ q3, betB g'.t x.B.h g.t g.p = q3 := ⟨_, rfl⟩
            have HE : Hid (voidU g x.B.h g' = (z && q1 && q3)) := Lib.hid (voidU_parts HZ.out hq1 hq3)
            have HB3 := Lib.hid hq3; clear hq3
            obtain rfl : ad = some ⟨b2, off2, none⟩ := HAD.out.symm.trans e1
            clear e1
            have kc0 := cell_regrown c0
            have kc1 := cell_regrown c1
            have kc2 := cell_regrown c2
            have kc3 := cell_regrown c3
            have u0 := Tu 0 _ rfl
            have u1 := Tu 1 _ rfl
            have u2 := Tu 2 _ rfl
            have u3 := Tu 3 _ rfl
            have u4 := Tu 4 _ rfl
            go_upto_region 9 with (fail)
            clear u0 u1 u2 u3 u4
            cases z
            ·
              have u0 := Tu 0 _ rfl
              have ku0 := cell_regrown u0
              have u1 := Tu 1 _ rfl
              have ku1 := cell_regrown u1
              have u2 := Tu 2 _ rfl
              have ku2 := cell_regrown u2
              have u3 := Tu 3 _ rfl
              have ku3 := cell_regrown u3
              have u4 := Tu 4 _ rfl
              have ku4 := cell_regrown u4
              refine wp_region_quiet_below (by kernel_rfl) (by kernel_rfl) ?_
              repeat (go_big_quiet_step (fail))
              refine wpQuiet_nil ?_
              intro _ hw'
              obtain ⟨⟨dq, osq⟩, hw''⟩ := hw'
              subst hw''
              clear u0 ku0 u1 ku1 u2 ku2 u3 ku3 u4 ku4
              have bq := below_regrown w2 dq osq
              obtain ⟨V3, hV3⟩ : ∃ V3, grow (redrawn w2 dq) osq = V3 := ⟨_, rfl⟩
              rw [hV3] at bq ⊢
              clear hV3 dq osq
              replace Tu := Tu.keep bq
              replace BB := bstep BB bq
              replace BR := bstep BR bq
              clear bq
              clear heq c0 c1 c2 c3 kc0 kc1 kc2 kc3 hq1
              have u0 := Tu 0 _ rfl
              have u1 := Tu 1 _ rfl
              have u2 := Tu 2 _ rfl
              have u3 := Tu 3 _ rfl
              have u4 := Tu 4 _ rfl
              go_wp2_with fail
              clear u0 u1 u2 u3 u4
              go_roundw
              case rel => exact ⟨k + 1, by omega, by go_num, Lib.hid (fun _ => by rw [HI2.out, HE.out]; rfl), BB, BR, Tu⟩
              case measure => simp [intOf]; omega
            ·
              cases q1
              ·
                have u0 := Tu 0 _ rfl
                have ku0 := cell_regrown u0
                have u1 := Tu 1 _ rfl
                have ku1 := cell_regrown u1
                have u2 := Tu 2 _ rfl
                have ku2 := cell_regrown u2
                have u3 := Tu 3 _ rfl
                have ku3 := cell_regrown u3
                have u4 := Tu 4 _ rfl
                have ku4 := cell_regrown u4
                refine wp_region_quiet_below (by kernel_rfl) (by kernel_rfl) ?_
                repeat (go_big_quiet_step (fail))
                refine wpQuiet_nil ?_
                intro _ hw'
                obtain ⟨⟨dq, osq⟩, hw''⟩ := hw'
                subst hw''
                clear u0 ku0 u1 ku1 u2 ku2 u3 ku3 u4 ku4
                have bq := below_regrown w2 dq osq
                obtain ⟨V3, hV3⟩ : ∃ V3, grow (redrawn w2 dq) osq = V3 := ⟨_, rfl⟩
                rw [hV3] at bq ⊢
                clear hV3 dq osq
                replace Tu := Tu.keep bq
                replace BB := bstep BB bq
                replace BR := bstep BR bq
                clear bq
                clear heq c0 c1 c2 c3 kc0 kc1 kc2 kc3 hq1
                have u0 := Tu 0 _ rfl
                have u1 := Tu 1 _ rfl
                have u2 := Tu 2 _ rfl
                have u3 := Tu 3 _ rfl
                have u4 := Tu 4 _ rfl
                go_wp2_with fail
                clear u0 u1 u2 u3 u4
                go_roundw
                case rel => exact ⟨k + 1, by omega, by go_num, Lib.hid (fun _ => by rw [HI2.out, HE.out]; rfl), BB, BR, Tu⟩
                case measure => simp [intOf]; omega
              ·
                have CH : ∀ w', Below w2.heap.size w2 w' → Calls Try.prog 34 #[.int .i64 g'.t, .int .i64 x.B.h, .int .i64 g.t, .int .i64 g.p] w' fun e w'' => e = .returned (.bool q3) ∧ Below w'.heap.size w' w'' := fun w' h => rbetter_at _ _ _ _ q3 w' HB3.out
                have u0 := Tu 0 _ rfl
                have ku0 := cell_regrown u0
                have u1 := Tu 1 _ rfl
                have ku1 := cell_regrown u1
                have u2 := Tu 2 _ rfl
                have ku2 := cell_regrown u2
                have u3 := Tu 3 _ rfl
                have ku3 := cell_regrown u3
                have u4 := Tu 4 _ rfl
                have ku4 := cell_regrown u4
                refine wp_region_quiet_below (by kernel_rfl) (by kernel_rfl) ?_
                repeat (go_big_quiet_step (first
                  | (go_at_call 34; with_reducible exact rg_of CH)))
                refine wpQuiet_nil ?_
                intro _ hw'
                obtain ⟨⟨dq, osq⟩, hw''⟩ := hw'
                subst hw''
                clear u0 ku0 u1 ku1 u2 ku2 u3 ku3 u4 ku4
                have bq := below_regrown w2 dq osq
                obtain ⟨V3, hV3⟩ : ∃ V3, grow (redrawn w2 dq) osq = V3 := ⟨_, rfl⟩
                rw [hV3] at bq ⊢
                clear hV3 dq osq
                replace Tu := Tu.keep bq
                replace BB := bstep BB bq
                replace BR := bstep BR bq
                clear bq
                clear CH HB3
                cases q3
                ·
                  clear heq c0 c1 c2 c3 kc0 kc1 kc2 kc3 hq1
                  have u0 := Tu 0 _ rfl
                  have u1 := Tu 1 _ rfl
                  have u2 := Tu 2 _ rfl
                  have u3 := Tu 3 _ rfl
                  have u4 := Tu 4 _ rfl
                  go_wp2_with fail
                  clear u0 u1 u2 u3 u4
                  go_roundw
                  case rel => exact ⟨k + 1, by omega, by go_num, Lib.hid (fun _ => by rw [HI2.out, HE.out]; rfl), BB, BR, Tu⟩
                  case measure => simp [intOf]; omega
                ·
                  clear heq c0 c1 c2 c3 kc0 kc1 kc2 kc3 hq1
                  have u0 := Tu 0 _ rfl
                  have u1 := Tu 1 _ rfl
                  have u2 := Tu 2 _ rfl
                  have u3 := Tu 3 _ rfl
                  have u4 := Tu 4 _ rfl
                  go_wp2_with fail
                  clear u0 u1 u2 u3 u4
                  go_ret
                  have hres : y = true := by
                    rw [← HR.out]
                    refine any_of_take (k := j + 1) (HS.out.trans ?_)
                    unfold voidN
                    rw [HQ.out, Bool.true_and]
                    refine any_of_take (k := k + 1) (HI2.out.trans ?_)
                    rw [HE.out]; rfl
                  subst hres
                  exact ⟨rfl, BB⟩
        ·
          obtain rfl : x.nu = k := by omega
          have hkt' : ¬ (x.nu : Int) < (x.nu : Int) := by omega
          go_wp2_with fail
          go_roundw
          case rel => exact ⟨j + 1, by omega, by go_num, Lib.hid (by
            rw [HS.out]; unfold voidN; rw [HQ.out]
            cases q
            · rfl
            · rw [Bool.true_and, ← any_len HO.out.un]; exact hin.out rfl), BB, Tu⟩
          case measure => simp [intOf]; omega
    ·
      obtain rfl : n = j := by omega
      have hlt' : ¬ (n : Int) < (n : Int) := by omega
      go_wp2_with fail
      go_ret
      have hres : y = false := by rw [← HR.out, ← any_len hn.out]; exact hlk.out
      subst hres
      exact ⟨rfl, BB⟩
end Go.Proofs.Ytleenbfldkmcaaa
