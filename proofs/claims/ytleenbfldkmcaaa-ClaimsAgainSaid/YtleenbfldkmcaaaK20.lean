/- Proved: what the helper holds of the statements returns. Conditions: the table lies in memory. -/
import Derived.Test.YtleenbfldkmcaaaK16
namespace Go.Proofs.Ytleenbfldkmcaaa
open Go.RowKit Go.Sort Go.BigFrame
set_option linter.unusedVariables false
set_option linter.unusedSimpArgs false
attribute [local go_sem] cell_alloc_old

set_option maxRecDepth 100000 in
set_option maxHeartbeats 4000000 in
theorem holdsU_at (t : Tv) (u : Us) (g : Gr) (w : World) (ht : Hid (t.ok w)) (y : Bool) (hy : Hid (decide (u ∈ t.T.U) = y)) : Calls Try.prog 22 #[t.v, u.v, g.v, .bool true] w (Yes y w) := by
  obtain ⟨⟨U, G, A⟩, ua, nu, uc, ga, ng, gc, aa, na, ac⟩ := t
  have hu := ht.out.um; have hu2 := ht.out.uc
  unfold maxLen at hu
  simp only at hu hu2 ⊢
  go_enter Try.func22, Try.ntmps22
  go_upto_region 1 with (fail)
  have Ta := CAt.new (w) [.slice ua nu uc, .slice ga ng gc, .slice aa na ac] 26
  have BB : Below w.heap.size w ((w).alloc (.cells #[.slice ua nu uc, .slice ga ng gc, .slice aa na ac] 26)) := ball (Below.refl _ _) _
  have Tu := CAt.new (w.alloc (.cells #[.slice ua nu uc, .slice ga ng gc, .slice aa na ac] 26)) [.int .i64 u.s, .int .i64 u.o, .int .i64 u.p, .int .i64 u.t] 43
  replace Ta := Ta.alloc (.cells #[.int .i64 u.s, .int .i64 u.o, .int .i64 u.p, .int .i64 u.t] 43)
  replace BB := ball BB (.cells #[.int .i64 u.s, .int .i64 u.o, .int .i64 u.p, .int .i64 u.t] 43)
  have Tg := CAt.new ((w.alloc (.cells #[.slice ua nu uc, .slice ga ng gc, .slice aa na ac] 26)).alloc (.cells #[.int .i64 u.s, .int .i64 u.o, .int .i64 u.p, .int .i64 u.t] 43)) [.int .i64 g.s, .int .i64 g.o, .int .i64 g.p, .int .i64 g.t, .int .i64 g.u] 63
  replace Ta := Ta.alloc (.cells #[.int .i64 g.s, .int .i64 g.o, .int .i64 g.p, .int .i64 g.t, .int .i64 g.u] 63)
  replace Tu := Tu.alloc (.cells #[.int .i64 g.s, .int .i64 g.o, .int .i64 g.p, .int .i64 g.t, .int .i64 g.u] 63)
  replace BB := ball BB (.cells #[.int .i64 g.s, .int .i64 g.o, .int .i64 g.p, .int .i64 g.t, .int .i64 g.u] 63)
  simp only [World.size_alloc, Nat.add_assoc, Nat.reduceAdd] at Tu Tg
  obtain ⟨V1, hV1⟩ : ∃ V1, ((w.alloc (.cells #[.slice ua nu uc, .slice ga ng gc, .slice aa na ac] 26)).alloc (.cells #[.int .i64 u.s, .int .i64 u.o, .int .i64 u.p, .int .i64 u.t] 43)).alloc (.cells #[.int .i64 g.s, .int .i64 g.o, .int .i64 g.p, .int .i64 g.t, .int .i64 g.u] 63) = V1 := ⟨_, rfl⟩
  rw [hV1] at BB Ta Tu Tg ⊢
  clear hV1
  have a0 := Ta 0 _ rfl
  have a1 := Ta 1 _ rfl
  have a2 := Ta 2 _ rfl
  have u0 := Tu 0 _ rfl
  have u1 := Tu 1 _ rfl
  have u2 := Tu 2 _ rfl
  have u3 := Tu 3 _ rfl
  have g0 := Tg 0 _ rfl
  have g1 := Tg 1 _ rfl
  have g2 := Tg 2 _ rfl
  have g3 := Tg 3 _ rfl
  have g4 := Tg 4 _ rfl
  go_wp2_with fail
  clear a0 a1 a2 u0 u1 u2 u3 g0 g1 g2 g3 g4
  go_loopw [17] (fun i wr => ∃ k : Nat, k ≤ nu ∧ i = .int .i64 k ∧ Hid (∀ j, j < k → U.getD j default ≠ u) ∧ Below w.heap.size w wr ∧ CAt wr w.heap.size [.slice ua nu uc, .slice ga ng gc, .slice aa na ac] ∧ CAt wr (w.heap.size + 1) [.int .i64 u.s, .int .i64 u.o, .int .i64 u.p, .int .i64 u.t] ∧ CAt wr (w.heap.size + 2) [.int .i64 g.s, .int .i64 g.o, .int .i64 g.p, .int .i64 g.t, .int .i64 g.u]) (fun i _ => nu - (intOf i).toNat)
  case atStart => exact ⟨0, Nat.zero_le _, rfl, Lib.hid (fun j hj => by omega), BB, Ta, Tu, Tg⟩
  case round =>
    clear BB Ta Tu Tg
    obtain ⟨k, hk, rfl, hlk, BB, Ta, Tu, Tg⟩ := hrel
    by_cases hlt : k < nu
    ·
      have hlt' : (k : Int) < (nu : Int) := by omega
      have hk0 : (0 : Int) ≤ (k : Int) := by omega
      obtain ⟨b, off, e1, c0, c1, c2, c3⟩ := ht.out.u.us BB (i := k) (by have := ht.out.un; simp only at this ⊢; omega)
      have hxm : U.getD k default ∈ U := getD_mem (by have := ht.out.un; simp only at this; omega)
      simp only at e1
      obtain ⟨x, hx⟩ : ∃ x, U.getD k default = x := ⟨_, rfl⟩
      simp only [hx] at c0 c1 c2 c3
      rw [hx] at hxm
      have HXM := Lib.hid hxm; have HX := Lib.hid hx
      subst e1
      clear hx hxm
      obtain ⟨z, hz⟩ : ∃ z, decide (x.s = u.s ∧ x.o = u.o ∧ x.p = u.p ∧ x.t = u.t) = z := ⟨_, rfl⟩
      have HZ : Hid (z = decide (x = u)) := Lib.hid (by rw [← hz]; cases x; cases u; simp)
      have hne := eq_us x.s u.s x.o u.o x.p u.p x.t u.t z hz
      clear hz
      have a0 := Ta 0 _ rfl
      have a1 := Ta 1 _ rfl
      have a2 := Ta 2 _ rfl
      have u0 := Tu 0 _ rfl
      have u1 := Tu 1 _ rfl
      have u2 := Tu 2 _ rfl
      have u3 := Tu 3 _ rfl
      have g0 := Tg 0 _ rfl
      have g1 := Tg 1 _ rfl
      have g2 := Tg 2 _ rfl
      have g3 := Tg 3 _ rfl
      have g4 := Tg 4 _ rfl
      go_upto_region 5 with (fail)
      clear a0 a1 a2 u0 u1 u2 u3 g0 g1 g2 g3 g4
      have bs2 : w.heap.size ≤ wr.heap.size := BB.size
      have lt2a : w.heap.size < wr.heap.size := World.block_lt_of_cell? wr ⟨w.heap.size, 0, none⟩ (Ta 0 _ rfl)
      have lt2u : w.heap.size + 1 < wr.heap.size := World.block_lt_of_cell? wr ⟨w.heap.size + 1, 0, none⟩ (Tu 0 _ rfl)
      have lt2g : w.heap.size + 2 < wr.heap.size := World.block_lt_of_cell? wr ⟨w.heap.size + 2, 0, none⟩ (Tg 0 _ rfl)
      have Tx := CAt.new (wr) [.int .i64 x.s, .int .i64 x.o, .int .i64 x.p, .int .i64 x.t] 43
      replace Ta := Ta.alloc (.cells #[.int .i64 x.s, .int .i64 x.o, .int .i64 x.p, .int .i64 x.t] 43)
      replace Tu := Tu.alloc (.cells #[.int .i64 x.s, .int .i64 x.o, .int .i64 x.p, .int .i64 x.t] 43)
      replace Tg := Tg.alloc (.cells #[.int .i64 x.s, .int .i64 x.o, .int .i64 x.p, .int .i64 x.t] 43)
      replace BB := ball BB (.cells #[.int .i64 x.s, .int .i64 x.o, .int .i64 x.p, .int .i64 x.t] 43)
      obtain ⟨V2, hV2⟩ : ∃ V2, wr.alloc (.cells #[.int .i64 x.s, .int .i64 x.o, .int .i64 x.p, .int .i64 x.t] 43) = V2 := ⟨_, rfl⟩
      rw [hV2] at BB Ta Tu Tg Tx ⊢
      clear hV2
      obtain ⟨k2, hk2⟩ : ∃ k2, wr.heap.size = k2 := ⟨_, rfl⟩
      rw [hk2] at Tx bs2 lt2a lt2u lt2g ⊢
      clear hk2
      clear c0 c1 c2 c3
      cases z
      ·
        have a0 := Ta 0 _ rfl
        have a1 := Ta 1 _ rfl
        have a2 := Ta 2 _ rfl
        have u0 := Tu 0 _ rfl
        have u1 := Tu 1 _ rfl
        have u2 := Tu 2 _ rfl
        have u3 := Tu 3 _ rfl
        have g0 := Tg 0 _ rfl
        have g1 := Tg 1 _ rfl
        have g2 := Tg 2 _ rfl
        have g3 := Tg 3 _ rfl
        have g4 := Tg 4 _ rfl
        have x0 := Tx 0 _ rfl
        have x1 := Tx 1 _ rfl
        have x2 := Tx 2 _ rfl
        have x3 := Tx 3 _ rfl
        go_wp2_with fail
        clear a0 a1 a2 u0 u1 u2 u3 g0 g1 g2 g3 g4 x0 x1 x2 x3
        go_roundw
        case rel => exact ⟨k + 1, by omega, by go_num, Lib.hid (fun j hj => by
          by_cases e : j = k
          · rw [e, HX.out]; exact of_decide_eq_false HZ.out.symm
          · exact hlk.out j (by omega)), BB, Ta, Tu, Tg⟩
        case measure => simp [intOf]; omega
      ·
        have a0 := Ta 0 _ rfl
        have a1 := Ta 1 _ rfl
        have a2 := Ta 2 _ rfl
        have u0 := Tu 0 _ rfl
        have u1 := Tu 1 _ rfl
        have u2 := Tu 2 _ rfl
        have u3 := Tu 3 _ rfl
        have g0 := Tg 0 _ rfl
        have g1 := Tg 1 _ rfl
        have g2 := Tg 2 _ rfl
        have g3 := Tg 3 _ rfl
        have g4 := Tg 4 _ rfl
        have x0 := Tx 0 _ rfl
        have x1 := Tx 1 _ rfl
        have x2 := Tx 2 _ rfl
        have x3 := Tx 3 _ rfl
        go_wp2_with fail
        clear a0 a1 a2 u0 u1 u2 u3 g0 g1 g2 g3 g4 x0 x1 x2 x3
        go_ret
        have hres : y = true := by
          rw [← hy.out, decide_eq_true_eq, ← of_decide_eq_true HZ.out.symm]; exact HXM.out
        subst hres
        exact ⟨rfl, BB⟩
    ·
      obtain rfl : nu = k := by omega
      have hlt' : ¬ (nu : Int) < (nu : Int) := by omega
      have a0 := Ta 0 _ rfl
      have a1 := Ta 1 _ rfl
      have a2 := Ta 2 _ rfl
      have u0 := Tu 0 _ rfl
      have u1 := Tu 1 _ rfl
      have u2 := Tu 2 _ rfl
      have u3 := Tu 3 _ rfl
      have g0 := Tg 0 _ rfl
      have g1 := Tg 1 _ rfl
      have g2 := Tg 2 _ rfl
      have g3 := Tg 3 _ rfl
      have g4 := Tg 4 _ rfl
      go_wp2_with fail
      clear a0 a1 a2 u0 u1 u2 u3 g0 g1 g2 g3 g4
      go_ret
      have hres : y = false := by
        rw [← hy.out, decide_eq_false_iff_not]
        intro hu
        obtain ⟨j, hj, e⟩ := List.mem_iff_getElem.1 hu
        have := ht.out.un
        simp only at this hj
        refine hlk.out j (by omega) ?_
        rw [List.getD_eq_getElem?_getD, List.getElem?_eq_getElem hj, Option.getD_some, e]
      subst hres
      exact ⟨rfl, BB⟩
set_option maxRecDepth 100000 in
set_option maxHeartbeats 4000000 in
theorem holdsG_at (t : Tv) (u : Us) (g : Gr) (w : World) (ht : Hid (t.ok w)) (y : Bool) (hy : Hid (decide (g ∈ t.T.G) = y)) : Calls Try.prog 22 #[t.v, u.v, g.v, .bool false] w (Yes y w) := by
  obtain ⟨⟨U, G, A⟩, ua, nu, uc, ga, ng, gc, aa, na, ac⟩ := t
  have hu := ht.out.gm; have hu2 := ht.out.gc
  unfold maxLen at hu
  simp only at hu hu2 ⊢
  go_enter Try.func22, Try.ntmps22
  go_upto_region 1 with (fail)
  have Ta := CAt.new (w) [.slice ua nu uc, .slice ga ng gc, .slice aa na ac] 26
  have BB : Below w.heap.size w ((w).alloc (.cells #[.slice ua nu uc, .slice ga ng gc, .slice aa na ac] 26)) := ball (Below.refl _ _) _
  have Tu := CAt.new (w.alloc (.cells #[.slice ua nu uc, .slice ga ng gc, .slice aa na ac] 26)) [.int .i64 u.s, .int .i64 u.o, .int .i64 u.p, .int .i64 u.t] 43
  replace Ta := Ta.alloc (.cells #[.int .i64 u.s, .int .i64 u.o, .int .i64 u.p, .int .i64 u.t] 43)
  replace BB := ball BB (.cells #[.int .i64 u.s, .int .i64 u.o, .int .i64 u.p, .int .i64 u.t] 43)
  have Tg := CAt.new ((w.alloc (.cells #[.slice ua nu uc, .slice ga ng gc, .slice aa na ac] 26)).alloc (.cells #[.int .i64 u.s, .int .i64 u.o, .int .i64 u.p, .int .i64 u.t] 43)) [.int .i64 g.s, .int .i64 g.o, .int .i64 g.p, .int .i64 g.t, .int .i64 g.u] 63
  replace Ta := Ta.alloc (.cells #[.int .i64 g.s, .int .i64 g.o, .int .i64 g.p, .int .i64 g.t, .int .i64 g.u] 63)
  replace Tu := Tu.alloc (.cells #[.int .i64 g.s, .int .i64 g.o, .int .i64 g.p, .int .i64 g.t, .int .i64 g.u] 63)
  replace BB := ball BB (.cells #[.int .i64 g.s, .int .i64 g.o, .int .i64 g.p, .int .i64 g.t, .int .i64 g.u] 63)
  simp only [World.size_alloc, Nat.add_assoc, Nat.reduceAdd] at Tu Tg
  obtain ⟨V1, hV1⟩ : ∃ V1, ((w.alloc (.cells #[.slice ua nu uc, .slice ga ng gc, .slice aa na ac] 26)).alloc (.cells #[.int .i64 u.s, .int .i64 u.o, .int .i64 u.p, .int .i64 u.t] 43)).alloc (.cells #[.int .i64 g.s, .int .i64 g.o, .int .i64 g.p, .int .i64 g.t, .int .i64 g.u] 63) = V1 := ⟨_, rfl⟩
  rw [hV1] at BB Ta Tu Tg ⊢
  clear hV1
  have a0 := Ta 0 _ rfl
  have a1 := Ta 1 _ rfl
  have a2 := Ta 2 _ rfl
  have u0 := Tu 0 _ rfl
  have u1 := Tu 1 _ rfl
  have u2 := Tu 2 _ rfl
  have u3 := Tu 3 _ rfl
  have g0 := Tg 0 _ rfl
  have g1 := Tg 1 _ rfl
  have g2 := Tg 2 _ rfl
  have g3 := Tg 3 _ rfl
  have g4 := Tg 4 _ rfl
  go_wp2_with fail
  clear a0 a1 a2 u0 u1 u2 u3 g0 g1 g2 g3 g4
  go_loopw [28] (fun i wr => ∃ k : Nat, k ≤ ng ∧ i = .int .i64 k ∧ Hid (∀ j, j < k → G.getD j default ≠ g) ∧ Below w.heap.size w wr ∧ CAt wr w.heap.size [.slice ua nu uc, .slice ga ng gc, .slice aa na ac] ∧ CAt wr (w.heap.size + 1) [.int .i64 u.s, .int .i64 u.o, .int .i64 u.p, .int .i64 u.t] ∧ CAt wr (w.heap.size + 2) [.int .i64 g.s, .int .i64 g.o, .int .i64 g.p, .int .i64 g.t, .int .i64 g.u]) (fun i _ => ng - (intOf i).toNat)
  case atStart => exact ⟨0, Nat.zero_le _, rfl, Lib.hid (fun j hj => by omega), BB, Ta, Tu, Tg⟩
  case round =>
    clear BB Ta Tu Tg
    obtain ⟨k, hk, rfl, hlk, BB, Ta, Tu, Tg⟩ := hrel
    by_cases hlt : k < ng
    ·
      have hlt' : (k : Int) < (ng : Int) := by omega
      have hk0 : (0 : Int) ≤ (k : Int) := by omega
      obtain ⟨b, off, e1, c0, c1, c2, c3, c4⟩ := ht.out.g.gr BB (i := k) (by have := ht.out.gn; simp only at this ⊢; omega)
      have hxm : G.getD k default ∈ G := getD_mem (by have := ht.out.gn; simp only at this; omega)
      simp only at e1
      obtain ⟨x, hx⟩ : ∃ x, G.getD k default = x := ⟨_, rfl⟩
      simp only [hx] at c0 c1 c2 c3 c4
      rw [hx] at hxm
      have HXM := Lib.hid hxm; have HX := Lib.hid hx
      subst e1
      clear hx hxm
      obtain ⟨z, hz⟩ : ∃ z, decide (x.s = g.s ∧ x.o = g.o ∧ x.p = g.p ∧ x.t = g.t ∧ x.u = g.u) = z := ⟨_, rfl⟩
      have HZ : Hid (z = decide (x = g)) := Lib.hid (by rw [← hz]; cases x; cases g; simp)
      have hne := eq_gr x.s g.s x.o g.o x.p g.p x.t g.t x.u g.u z hz
      clear hz
      have a0 := Ta 0 _ rfl
      have a1 := Ta 1 _ rfl
      have a2 := Ta 2 _ rfl
      have u0 := Tu 0 _ rfl
      have u1 := Tu 1 _ rfl
      have u2 := Tu 2 _ rfl
      have u3 := Tu 3 _ rfl
      have g0 := Tg 0 _ rfl
      have g1 := Tg 1 _ rfl
      have g2 := Tg 2 _ rfl
      have g3 := Tg 3 _ rfl
      have g4 := Tg 4 _ rfl
      go_upto_region 12 with (fail)
      clear a0 a1 a2 u0 u1 u2 u3 g0 g1 g2 g3 g4
      have bs2 : w.heap.size ≤ wr.heap.size := BB.size
      have lt2a : w.heap.size < wr.heap.size := World.block_lt_of_cell? wr ⟨w.heap.size, 0, none⟩ (Ta 0 _ rfl)
      have lt2u : w.heap.size + 1 < wr.heap.size := World.block_lt_of_cell? wr ⟨w.heap.size + 1, 0, none⟩ (Tu 0 _ rfl)
      have lt2g : w.heap.size + 2 < wr.heap.size := World.block_lt_of_cell? wr ⟨w.heap.size + 2, 0, none⟩ (Tg 0 _ rfl)
      have Tx := CAt.new (wr) [.int .i64 x.s, .int .i64 x.o, .int .i64 x.p, .int .i64 x.t, .int .i64 x.u] 63
      replace Ta := Ta.alloc (.cells #[.int .i64 x.s, .int .i64 x.o, .int .i64 x.p, .int .i64 x.t, .int .i64 x.u] 63)
      replace Tu := Tu.alloc (.cells #[.int .i64 x.s, .int .i64 x.o, .int .i64 x.p, .int .i64 x.t, .int .i64 x.u] 63)
      replace Tg := Tg.alloc (.cells #[.int .i64 x.s, .int .i64 x.o, .int .i64 x.p, .int .i64 x.t, .int .i64 x.u] 63)
      replace BB := ball BB (.cells #[.int .i64 x.s, .int .i64 x.o, .int .i64 x.p, .int .i64 x.t, .int .i64 x.u] 63)
      obtain ⟨V2, hV2⟩ : ∃ V2, wr.alloc (.cells #[.int .i64 x.s, .int .i64 x.o, .int .i64 x.p, .int .i64 x.t, .int .i64 x.u] 63) = V2 := ⟨_, rfl⟩
      rw [hV2] at BB Ta Tu Tg Tx ⊢
      clear hV2
      obtain ⟨k2, hk2⟩ : ∃ k2, wr.heap.size = k2 := ⟨_, rfl⟩
      rw [hk2] at Tx bs2 lt2a lt2u lt2g ⊢
      clear hk2
      clear c0 c1 c2 c3 c4
      cases z
      ·
        have a0 := Ta 0 _ rfl
        have a1 := Ta 1 _ rfl
        have a2 := Ta 2 _ rfl
        have u0 := Tu 0 _ rfl
        have u1 := Tu 1 _ rfl
        have u2 := Tu 2 _ rfl
        have u3 := Tu 3 _ rfl
        have g0 := Tg 0 _ rfl
        have g1 := Tg 1 _ rfl
        have g2 := Tg 2 _ rfl
        have g3 := Tg 3 _ rfl
        have g4 := Tg 4 _ rfl
        have x0 := Tx 0 _ rfl
        have x1 := Tx 1 _ rfl
        have x2 := Tx 2 _ rfl
        have x3 := Tx 3 _ rfl
        have x4 := Tx 4 _ rfl
        go_wp2_with fail
        clear a0 a1 a2 u0 u1 u2 u3 g0 g1 g2 g3 g4 x0 x1 x2 x3 x4
        go_roundw
        case rel => exact ⟨k + 1, by omega, by go_num, Lib.hid (fun j hj => by
          by_cases e : j = k
          · rw [e, HX.out]; exact of_decide_eq_false HZ.out.symm
          · exact hlk.out j (by omega)), BB, Ta, Tu, Tg⟩
        case measure => simp [intOf]; omega
      ·
        have a0 := Ta 0 _ rfl
        have a1 := Ta 1 _ rfl
        have a2 := Ta 2 _ rfl
        have u0 := Tu 0 _ rfl
        have u1 := Tu 1 _ rfl
        have u2 := Tu 2 _ rfl
        have u3 := Tu 3 _ rfl
        have g0 := Tg 0 _ rfl
        have g1 := Tg 1 _ rfl
        have g2 := Tg 2 _ rfl
        have g3 := Tg 3 _ rfl
        have g4 := Tg 4 _ rfl
        have x0 := Tx 0 _ rfl
        have x1 := Tx 1 _ rfl
        have x2 := Tx 2 _ rfl
        have x3 := Tx 3 _ rfl
        have x4 := Tx 4 _ rfl
        go_wp2_with fail
        clear a0 a1 a2 u0 u1 u2 u3 g0 g1 g2 g3 g4 x0 x1 x2 x3 x4
        go_ret
        have hres : y = true := by
          rw [← hy.out, decide_eq_true_eq, ← of_decide_eq_true HZ.out.symm]; exact HXM.out
        subst hres
        exact ⟨rfl, BB⟩
    ·
      obtain rfl : ng = k := by omega
      have hlt' : ¬ (ng : Int) < (ng : Int) := by omega
      have a0 := Ta 0 _ rfl
      have a1 := Ta 1 _ rfl
      have a2 := Ta 2 _ rfl
      have u0 := Tu 0 _ rfl
      have u1 := Tu 1 _ rfl
      have u2 := Tu 2 _ rfl
      have u3 := Tu 3 _ rfl
      have g0 := Tg 0 _ rfl
      have g1 := Tg 1 _ rfl
      have g2 := Tg 2 _ rfl
      have g3 := Tg 3 _ rfl
      have g4 := Tg 4 _ rfl
      go_wp2_with fail
      clear a0 a1 a2 u0 u1 u2 u3 g0 g1 g2 g3 g4
      go_ret
      have hres : y = false := by
        rw [← hy.out, decide_eq_false_iff_not]
        intro hu
        obtain ⟨j, hj, e⟩ := List.mem_iff_getElem.1 hu
        have := ht.out.gn
        simp only at this hj
        refine hlk.out j (by omega) ?_
        rw [List.getD_eq_getElem?_getD, List.getElem?_eq_getElem hj, Option.getD_some, e]
      subst hres
      exact ⟨rfl, BB⟩
end Go.Proofs.Ytleenbfldkmcaaa
