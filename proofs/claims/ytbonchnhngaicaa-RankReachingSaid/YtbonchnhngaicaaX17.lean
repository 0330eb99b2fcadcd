/- Proved: that the law RankChoice of the statements returns true for every input. Conditions: the list lies in memory. -/
import Derived.Test.YtbonchnhngaicaaX16
namespace Go.Proofs.Ytbonchnhngaicaa
open Go.RowKit Go.Sort Go.BigFrame
set_option linter.unusedVariables false
set_option linter.unusedSimpArgs false
attribute [local go_sem] cell_alloc_old
attribute [local go_sem ↓] Go.wp_at_zero Go.wp_at_succ

theorem info40 : (Try.prog.info? 40).map (fun i => (i.zero, i.size, i.bytes)) = some (some (.agg #[.int .i64 0, .int .i64 0, .int .i64 0, .int .i64 0]), 4, 32) := by kernel_rfl

set_option maxRecDepth 100000 in
set_option maxHeartbeats 4000000 in
theorem choice_0 (r : Rt) (t u : Int) (ht : 0 ≤ t) (ht2 : t ≤ 255) (hu : 0 ≤ u) (hu2 : u ≤ 255) (n : Nat) (a : Option Addr) (cap : Nat) (l : List Ofr) (w : World) (hn : Hid (n = l.length)) (hl : OfAt w a l) (hm : Hid (l.length ≤ maxLen)) (hnc : n ≤ cap) (hcm : cap ≤ maxLen) (h80 : (80 : Int) < n) : Calls Try.prog 6 #[r.v, .slice a n cap, .int .u8 t, .int .u8 u] w (Yes true w) := by
  go_enter Try.func6, Try.ntmps6
  go_wp2_with fail
  have Tr := CAt.new (w) [.int .i64 r.o.s, .int .i64 r.o.r, .int .i64 r.l.s, .int .i64 r.l.r, .int .i64 r.p] 25
  replace hl := hl.keep (Below.alloc (Below.refl _ (w)) (Nat.le_refl _) (.cells #[.int .i64 r.o.s, .int .i64 r.o.r, .int .i64 r.l.s, .int .i64 r.l.r, .int .i64 r.p] 25))
  have BB : Below w.heap.size w ((w).alloc (.cells #[.int .i64 r.o.s, .int .i64 r.o.r, .int .i64 r.l.s, .int .i64 r.l.r, .int .i64 r.p] 25)) := ball (Below.refl _ _) _
  obtain ⟨V1, hV1⟩ : ∃ V1, w.alloc (.cells #[.int .i64 r.o.s, .int .i64 r.o.r, .int .i64 r.l.s, .int .i64 r.l.r, .int .i64 r.p] 25) = V1 := ⟨_, rfl⟩
  rw [hV1] at BB Tr hl ⊢
  clear hV1
  refine (head_any V1).mono ?_
  rintro e w2 ⟨rfl, b2⟩
  replace Tr := Tr.keep b2
  replace hl := hl.keep b2
  replace BB := bstep BB b2
  clear b2
  have r0 := Tr 0 _ rfl
  have r1 := Tr 1 _ rfl
  have r2 := Tr 2 _ rfl
  have r3 := Tr 3 _ rfl
  have r4 := Tr 4 _ rfl
  go_wp2_with fail
  go_ret
  exact ⟨rfl, BB⟩
set_option maxRecDepth 100000 in
set_option maxHeartbeats 4000000 in
theorem choice_1 (r : Rt) (t u : Int) (ht : 0 ≤ t) (ht2 : t ≤ 255) (hu : 0 ≤ u) (hu2 : u ≤ 255) (n : Nat) (a : Option Addr) (cap : Nat) (l : List Ofr) (w : World) (hn : Hid (n = l.length)) (hl : OfAt w a l) (hm : Hid (l.length ≤ maxLen)) (hnc : n ≤ cap) (hcm : cap ≤ maxLen) (h80 : ¬ (80 : Int) < n) (hv : Hid (validR r = false)) : Calls Try.prog 6 #[r.v, .slice a n cap, .int .u8 t, .int .u8 u] w (Yes true w) := by
  go_enter Try.func6, Try.ntmps6
  go_wp2_with fail
  have Tr := CAt.new (w) [.int .i64 r.o.s, .int .i64 r.o.r, .int .i64 r.l.s, .int .i64 r.l.r, .int .i64 r.p] 25
  replace hl := hl.keep (Below.alloc (Below.refl _ (w)) (Nat.le_refl _) (.cells #[.int .i64 r.o.s, .int .i64 r.o.r, .int .i64 r.l.s, .int .i64 r.l.r, .int .i64 r.p] 25))
  have BB : Below w.heap.size w ((w).alloc (.cells #[.int .i64 r.o.s, .int .i64 r.o.r, .int .i64 r.l.s, .int .i64 r.l.r, .int .i64 r.p] 25)) := ball (Below.refl _ _) _
  obtain ⟨V1, hV1⟩ : ∃ V1, w.alloc (.cells #[.int .i64 r.o.s, .int .i64 r.o.r, .int .i64 r.l.s, .int .i64 r.l.r, .int .i64 r.p] 25) = V1 := ⟨_, rfl⟩
  rw [hV1] at BB Tr hl ⊢
  clear hV1
  refine (head_any V1).mono ?_
  rintro e w2 ⟨rfl, b2⟩
  replace Tr := Tr.keep b2
  replace hl := hl.keep b2
  replace BB := bstep BB b2
  clear b2
  have r0 := Tr 0 _ rfl
  have r1 := Tr 1 _ rfl
  have r2 := Tr 2 _ rfl
  have r3 := Tr 3 _ rfl
  have r4 := Tr 4 _ rfl
  go_wp2_with fail
  refine (rvalid_at r _ _ hv.out).mono ?_
  clear r0 r1 r2 r3 r4
  rintro e w3 ⟨rfl, b3⟩
  replace Tr := Tr.keep b3
  replace hl := hl.keep b3
  replace BB := bstep BB b3
  clear b3
  have r0 := Tr 0 _ rfl
  have r1 := Tr 1 _ rfl
  have r2 := Tr 2 _ rfl
  have r3 := Tr 3 _ rfl
  have r4 := Tr 4 _ rfl
  go_wp2_with fail
  go_ret
  exact ⟨rfl, BB⟩
set_option maxRecDepth 100000 in
set_option maxHeartbeats 4000000 in
theorem choice_2 (r : Rt) (t u : Int) (ht : 0 ≤ t) (ht2 : t ≤ 255) (hu : 0 ≤ u) (hu2 : u ≤ 255) (n : Nat) (a : Option Addr) (cap : Nat) (l : List Ofr) (w : World) (hn : Hid (n = l.length)) (hl : OfAt w a l) (hm : Hid (l.length ≤ maxLen)) (hnc : n ≤ cap) (hcm : cap ≤ maxLen) (h80 : ¬ (80 : Int) < n) (hv : Hid (validR r = true)) (ho : Hid (offsB l = false)) : Calls Try.prog 6 #[r.v, .slice a n cap, .int .u8 t, .int .u8 u] w (Yes true w) := by
  go_enter Try.func6, Try.ntmps6
  go_wp2_with fail
  have Tr := CAt.new (w) [.int .i64 r.o.s, .int .i64 r.o.r, .int .i64 r.l.s, .int .i64 r.l.r, .int .i64 r.p] 25
  replace hl := hl.keep (Below.alloc (Below.refl _ (w)) (Nat.le_refl _) (.cells #[.int .i64 r.o.s, .int .i64 r.o.r, .int .i64 r.l.s, .int .i64 r.l.r, .int .i64 r.p] 25))
  have BB : Below w.heap.size w ((w).alloc (.cells #[.int .i64 r.o.s, .int .i64 r.o.r, .int .i64 r.l.s, .int .i64 r.l.r, .int .i64 r.p] 25)) := ball (Below.refl _ _) _
  obtain ⟨V1, hV1⟩ : ∃ V1, w.alloc (.cells #[.int .i64 r.o.s, .int .i64 r.o.r, .int .i64 r.l.s, .int .i64 r.l.r, .int .i64 r.p] 25) = V1 := ⟨_, rfl⟩
  rw [hV1] at BB Tr hl ⊢
  clear hV1
  refine (head_any V1).mono ?_
  rintro e w2 ⟨rfl, b2⟩
  replace Tr := Tr.keep b2
  replace hl := hl.keep b2
  replace BB := bstep BB b2
  clear b2
  have r0 := Tr 0 _ rfl
  have r1 := Tr 1 _ rfl
  have r2 := Tr 2 _ rfl
  have r3 := Tr 3 _ rfl
  have r4 := Tr 4 _ rfl
  go_wp2_with fail
  refine (rvalid_at r _ _ hv.out).mono ?_
  clear r0 r1 r2 r3 r4
  rintro e w3 ⟨rfl, b3⟩
  replace Tr := Tr.keep b3
  replace hl := hl.keep b3
  replace BB := bstep BB b3
  clear b3
  have r0 := Tr 0 _ rfl
  have r1 := Tr 1 _ rfl
  have r2 := Tr 2 _ rfl
  have r3 := Tr 3 _ rfl
  have r4 := Tr 4 _ rfl
  go_wp2_with fail
  refine (roffers_at n a cap l false _ hn.out hl hm.out ho.out).mono ?_
  clear r0 r1 r2 r3 r4
  rintro e w4 ⟨rfl, b4⟩
  replace Tr := Tr.keep b4
  replace hl := hl.keep b4
  replace BB := bstep BB b4
  clear b4
  have r0 := Tr 0 _ rfl
  have r1 := Tr 1 _ rfl
  have r2 := Tr 2 _ rfl
  have r3 := Tr 3 _ rfl
  have r4 := Tr 4 _ rfl
  go_wp2_with fail
  go_ret
  exact ⟨rfl, BB⟩
set_option maxRecDepth 100000 in
set_option maxHeartbeats 4000000 in
theorem choice_3 (r : Rt) (t u : Int) (ht : 0 ≤ t) (ht2 : t ≤ 255) (hu : 0 ≤ u) (hu2 : u ≤ 255) (n : Nat) (a : Option Addr) (cap : Nat) (l : List Ofr) (w : World) (hn : Hid (n = l.length)) (hl : OfAt w a l) (hm : Hid (l.length ≤ maxLen)) (hnc : n ≤ cap) (hcm : cap ≤ maxLen) (h80 : ¬ (80 : Int) < n) (hv : Hid (validR r = true)) (ho : Hid (offsB l = true)) (hn0 : ((n : Int) == 0) = true) : Calls Try.prog 6 #[r.v, .slice a n cap, .int .u8 t, .int .u8 u] w (Yes true w) := by
  go_enter Try.func6, Try.ntmps6
  go_wp2_with fail
  have Tr := CAt.new (w) [.int .i64 r.o.s, .int .i64 r.o.r, .int .i64 r.l.s, .int .i64 r.l.r, .int .i64 r.p] 25
  replace hl := hl.keep (Below.alloc (Below.refl _ (w)) (Nat.le_refl _) (.cells #[.int .i64 r.o.s, .int .i64 r.o.r, .int .i64 r.l.s, .int .i64 r.l.r, .int .i64 r.p] 25))
  have BB : Below w.heap.size w ((w).alloc (.cells #[.int .i64 r.o.s, .int .i64 r.o.r, .int .i64 r.l.s, .int .i64 r.l.r, .int .i64 r.p] 25)) := ball (Below.refl _ _) _
  obtain ⟨V1, hV1⟩ : ∃ V1, w.alloc (.cells #[.int .i64 r.o.s, .int .i64 r.o.r, .int .i64 r.l.s, .int .i64 r.l.r, .int .i64 r.p] 25) = V1 := ⟨_, rfl⟩
  rw [hV1] at BB Tr hl ⊢
  clear hV1
  refine (head_any V1).mono ?_
  rintro e w2 ⟨rfl, b2⟩
  replace Tr := Tr.keep b2
  replace hl := hl.keep b2
  replace BB := bstep BB b2
  clear b2
  have r0 := Tr 0 _ rfl
  have r1 := Tr 1 _ rfl
  have r2 := Tr 2 _ rfl
  have r3 := Tr 3 _ rfl
  have r4 := Tr 4 _ rfl
  go_wp2_with fail
  refine (rvalid_at r _ _ hv.out).mono ?_
  clear r0 r1 r2 r3 r4
  rintro e w3 ⟨rfl, b3⟩
  replace Tr := Tr.keep b3
  replace hl := hl.keep b3
  replace BB := bstep BB b3
  clear b3
  have r0 := Tr 0 _ rfl
  have r1 := Tr 1 _ rfl
  have r2 := Tr 2 _ rfl
  have r3 := Tr 3 _ rfl
  have r4 := Tr 4 _ rfl
  go_wp2_with fail
  refine (roffers_at n a cap l true _ hn.out hl hm.out ho.out).mono ?_
  clear r0 r1 r2 r3 r4
  rintro e w4 ⟨rfl, b4⟩
  replace Tr := Tr.keep b4
  replace hl := hl.keep b4
  replace BB := bstep BB b4
  clear b4
  have r0 := Tr 0 _ rfl
  have r1 := Tr 1 _ rfl
  have r2 := Tr 2 _ rfl
  have r3 := Tr 3 _ rfl
  have r4 := Tr 4 _ rfl
  go_wp2_with fail
  go_ret
  exact ⟨rfl, BB⟩
set_option maxRecDepth 100000 in
set_option maxHeartbeats 4000000 in
theorem choice_4 (r : Rt) (t u : Int) (ht : 0 ≤ t) (ht2 : t ≤ 255) (hu : 0 ≤ u) (hu2 : u ≤ 255) (n : Nat) (a : Option Addr) (cap : Nat) (l : List Ofr) (w : World) (hn : Hid (n = l.length)) (hl : OfAt w a l) (hm : Hid (l.length ≤ maxLen)) (hnc : n ≤ cap) (hcm : cap ≤ maxLen) (h80 : ¬ (80 : Int) < n) (hv : Hid (validR r = true)) (ho : Hid (offsB l = true)) (hn0 : ((n : Int) == 0) = false) (c : Rt) (HC : Hid (chooseV r l = c)) : Calls Try.prog 6 #[r.v, .slice a n cap, .int .u8 t, .int .u8 u] w (Yes true w) := by
  go_enter Try.func6, Try.ntmps6
  go_wp2_with fail
  have Tr := CAt.new (w) [.int .i64 r.o.s, .int .i64 r.o.r, .int .i64 r.l.s, .int .i64 r.l.r, .int .i64 r.p] 25
  replace hl := hl.keep (Below.alloc (Below.refl _ (w)) (Nat.le_refl _) (.cells #[.int .i64 r.o.s, .int .i64 r.o.r, .int .i64 r.l.s, .int .i64 r.l.r, .int .i64 r.p] 25))
  have BB : Below w.heap.size w ((w).alloc (.cells #[.int .i64 r.o.s, .int .i64 r.o.r, .int .i64 r.l.s, .int .i64 r.l.r, .int .i64 r.p] 25)) := ball (Below.refl _ _) _
  obtain ⟨V1, hV1⟩ : ∃ V1, w.alloc (.cells #[.int .i64 r.o.s, .int .i64 r.o.r, .int .i64 r.l.s, .int .i64 r.l.r, .int .i64 r.p] 25) = V1 := ⟨_, rfl⟩
  rw [hV1] at BB Tr hl ⊢
  clear hV1
  refine (head_any V1).mono ?_
  rintro e w2 ⟨rfl, b2⟩
  replace Tr := Tr.keep b2
  replace hl := hl.keep b2
  replace BB := bstep BB b2
  clear b2
  have r0 := Tr 0 _ rfl
  have r1 := Tr 1 _ rfl
  have r2 := Tr 2 _ rfl
  have r3 := Tr 3 _ rfl
  have r4 := Tr 4 _ rfl
  go_wp2_with fail
  refine (rvalid_at r _ _ hv.out).mono ?_
  clear r0 r1 r2 r3 r4
  rintro e w3 ⟨rfl, b3⟩
  replace Tr := Tr.keep b3
  replace hl := hl.keep b3
  replace BB := bstep BB b3
  clear b3
  have r0 := Tr 0 _ rfl
  have r1 := Tr 1 _ rfl
  have r2 := Tr 2 _ rfl
  have r3 := Tr 3 _ rfl
  have r4 := Tr 4 _ rfl
  go_wp2_with fail
  refine (roffers_at n a cap l true _ hn.out hl hm.out ho.out).mono ?_
  clear r0 r1 r2 r3 r4
  rintro e w4 ⟨rfl, b4⟩
  replace Tr := Tr.keep b4
  replace hl := hl.keep b4
  replace BB := bstep BB b4
  clear b4
  have r0 := Tr 0 _ rfl
  have r1 := Tr 1 _ rfl
  have r2 := Tr 2 _ rfl
  have r3 := Tr 3 _ rfl
  have r4 := Tr 4 _ rfl
  go_wp2_with fail
  refine (choose_at r c n a cap l _ hn.out hl hm.out HC.out).mono ?_
  clear r0 r1 r2 r3 r4
  rintro e w5 ⟨rfl, b5⟩
  replace Tr := Tr.keep b5
  replace hl := hl.keep b5
  replace BB := bstep BB b5
  clear b5
  go_upto_region 5 with (fail)
  have bs6 : w.heap.size ≤ w5.heap.size := BB.size
  have lt6r : w.heap.size < w5.heap.size := World.block_lt_of_cell? w5 ⟨w.heap.size, 0, none⟩ (Tr 0 _ rfl)
  have Tc := CAt.new (w5) [.int .i64 c.o.s, .int .i64 c.o.r, .int .i64 c.l.s, .int .i64 c.l.r, .int .i64 c.p] 25
  replace Tr := Tr.alloc (.cells #[.int .i64 c.o.s, .int .i64 c.o.r, .int .i64 c.l.s, .int .i64 c.l.r, .int .i64 c.p] 25)
  replace hl := hl.keep (Below.alloc (Below.refl _ (w5)) (Nat.le_refl _) (.cells #[.int .i64 c.o.s, .int .i64 c.o.r, .int .i64 c.l.s, .int .i64 c.l.r, .int .i64 c.p] 25))
  replace BB := ball BB (.cells #[.int .i64 c.o.s, .int .i64 c.o.r, .int .i64 c.l.s, .int .i64 c.l.r, .int .i64 c.p] 25)
  obtain ⟨V6, hV6⟩ : ∃ V6, w5.alloc (.cells #[.int .i64 c.o.s, .int .i64 c.o.r, .int .i64 c.l.s, .int .i64 c.l.r, .int .i64 c.p] 25) = V6 := ⟨_, rfl⟩
  rw [hV6] at BB Tr Tc hl ⊢
  clear hV6
  obtain ⟨k6, hk6⟩ : ∃ k6, w5.heap.size = k6 := ⟨_, rfl⟩
  rw [hk6] at Tc bs6 lt6r ⊢
  clear hk6
  have r0 := Tr 0 _ rfl
  have r1 := Tr 1 _ rfl
  have r2 := Tr 2 _ rfl
  have r3 := Tr 3 _ rfl
  have r4 := Tr 4 _ rfl
  have c0 := Tc 0 _ rfl
  have c1 := Tc 1 _ rfl
  have c2 := Tc 2 _ rfl
  have c3 := Tc 3 _ rfl
  have c4 := Tc 4 _ rfl
  go_wp2_with fail
  go_loopw [11, 45] (fun g i wr => ∃ k : Nat, k ≤ n ∧ g = .bool ((l.take k).any (fun o => o.p == c.p)) ∧ i = .int .i64 k ∧ Below w.heap.size w wr ∧ CAt wr w.heap.size [.int .i64 r.o.s, .int .i64 r.o.r, .int .i64 r.l.s, .int .i64 r.l.r, .int .i64 r.p] ∧ CAt wr k6 [.int .i64 c.o.s, .int .i64 c.o.r, .int .i64 c.l.s, .int .i64 c.l.r, .int .i64 c.p] ∧ OfAt wr a l) (fun _ i _ => n - (intOf i).toNat)
  case atStart => exact ⟨0, Nat.zero_le _, rfl, rfl, BB, Tr, Tc, hl⟩
  case round =>
    clear BB Tr Tc hl
    obtain ⟨k, hk, rfl, rfl, BB, Tr, Tc, hl⟩ := hrel
    obtain ⟨g, hg⟩ : ∃ g, (l.take k).any (fun o => o.p == c.p) = g := ⟨_, rfl⟩
    rw [hg]
    have HG := Lib.hid hg; clear hg
    by_cases hlt : k < n
    ·
      have hlt' : (k : Int) < (n : Int) := by omega
      have hk0 : (0 : Int) ≤ (k : Int) := by omega
      have hnx := any_take (fun o : Ofr => o.p == c.p) l (k := k) (by rw [← hn.out]; exact hlt)
      obtain ⟨db, doff, dha, dhc⟩ := hl.at (i := k) (by rw [← hn.out]; assumption)
      obtain ⟨d0, d1, d2, d3⟩ := dhc k (by rw [← hn.out]; assumption)
      have dhm : l.getD k default ∈ l := by
        rw [List.getD_eq_getElem?_getD, List.getElem?_eq_getElem (by rw [← hn.out]; assumption)]; exact List.getElem_mem _
      have dho := off_bd (offs_mem ho.out _ dhm)
      obtain ⟨x, hx⟩ : ∃ x, l.getD k default = x := ⟨_, rfl⟩
      rw [hx] at d0 d1 d2 d3 dho hnx dhm
      rw [HG.out] at hnx
      have HNX := Lib.hid hnx
      have HXM := Lib.hid dhm
      obtain ⟨dp0, dp1, _, _, dx0, dx1, dx2, dx3⟩ := dho
      subst dha
      clear hx dhc hnx dhm
      have r0 := Tr 0 _ rfl
      have r1 := Tr 1 _ rfl
      have r2 := Tr 2 _ rfl
      have r3 := Tr 3 _ rfl
      have r4 := Tr 4 _ rfl
      have c0 := Tc 0 _ rfl
      have c1 := Tc 1 _ rfl
      have c2 := Tc 2 _ rfl
      have c3 := Tc 3 _ rfl
      have c4 := Tc 4 _ rfl
      go_upto_region 9 with (fail)
      clear r0 r1 r2 r3 r4 c0 c1 c2 c3 c4
      have bs7 : w.heap.size ≤ wr.heap.size := BB.size
      have lt7r : w.heap.size < wr.heap.size := World.block_lt_of_cell? wr ⟨w.heap.size, 0, none⟩ (Tr 0 _ rfl)
      have lt7c : k6 < wr.heap.size := World.block_lt_of_cell? wr ⟨k6, 0, none⟩ (Tc 0 _ rfl)
      have Tx := CAt.new (wr) [.int .i64 x.p, .int .i64 x.t.s, .int .i64 x.t.r, .int .i64 x.c] 40
      replace Tr := Tr.alloc (.cells #[.int .i64 x.p, .int .i64 x.t.s, .int .i64 x.t.r, .int .i64 x.c] 40)
      replace Tc := Tc.alloc (.cells #[.int .i64 x.p, .int .i64 x.t.s, .int .i64 x.t.r, .int .i64 x.c] 40)
      replace hl := hl.keep (Below.alloc (Below.refl _ (wr)) (Nat.le_refl _) (.cells #[.int .i64 x.p, .int .i64 x.t.s, .int .i64 x.t.r, .int .i64 x.c] 40))
      replace BB := ball BB (.cells #[.int .i64 x.p, .int .i64 x.t.s, .int .i64 x.t.r, .int .i64 x.c] 40)
      obtain ⟨V7, hV7⟩ : ∃ V7, wr.alloc (.cells #[.int .i64 x.p, .int .i64 x.t.s, .int .i64 x.t.r, .int .i64 x.c] 40) = V7 := ⟨_, rfl⟩
      rw [hV7] at BB Tr Tc Tx hl ⊢
      clear hV7
      obtain ⟨k7, hk7⟩ : ∃ k7, wr.heap.size = k7 := ⟨_, rfl⟩
      rw [hk7] at Tx bs7 lt7r lt7c ⊢
      clear hk7
      clear d0 d1 d2 d3
      have r0 := Tr 0 _ rfl
      have r1 := Tr 1 _ rfl
      have r2 := Tr 2 _ rfl
      have r3 := Tr 3 _ rfl
      have r4 := Tr 4 _ rfl
      have c0 := Tc 0 _ rfl
      have c1 := Tc 1 _ rfl
      have c2 := Tc 2 _ rfl
      have c3 := Tc 3 _ rfl
      have c4 := Tc 4 _ rfl
      have x0 := Tx 0 _ rfl
      have x1 := Tx 1 _ rfl
      have x2 := Tx 2 _ rfl
      have x3 := Tx 3 _ rfl
      by_cases he : x.p = c.p
      ·
        have heb : (x.p == c.p) = true := by simp [he]
        obtain ⟨hp1, hp2, hp3⟩ := choice_of hv.out ho.out HXM.out (by rw [HC.out]; exact he)
        rw [HC.out] at hp2
        have hs1 : c.o.s = x.t.s := by rw [hp2]; rfl
        have hs2 : c.o.r = x.t.r + x.c := by rw [hp2]; rfl
        have hse : (c.o.s == x.t.s) = true := by simp [hs1]
        have hre : (c.o.r == x.t.r + x.c) = true := by simp [hs2]
        have HP1 := Lib.hid hp1; have HP3 := Lib.hid hp3; have HE := Lib.hid he
        clear hp1 hp2 hp3 hs1 hs2 he
        go_wp2_with fail
        refine (rposs_at r x true _ dx0 dx1 dx2 dx3 HP1.out).mono ?_
        clear r0 r1 r2 r3 r4 c0 c1 c2 c3 c4 x0 x1 x2 x3
        rintro e w8 ⟨rfl, b8⟩
        replace Tr := Tr.keep b8
        replace Tc := Tc.keep b8
        replace Tx := Tx.keep b8
        replace hl := hl.keep b8
        replace BB := bstep BB b8
        clear b8
        have r0 := Tr 0 _ rfl
        have r1 := Tr 1 _ rfl
        have r2 := Tr 2 _ rfl
        have r3 := Tr 3 _ rfl
        have r4 := Tr 4 _ rfl
        have c0 := Tc 0 _ rfl
        have c1 := Tc 1 _ rfl
        have c2 := Tc 2 _ rfl
        have c3 := Tc 3 _ rfl
        have c4 := Tc 4 _ rfl
        have x0 := Tx 0 _ rfl
        have x1 := Tx 1 _ rfl
        have x2 := Tx 2 _ rfl
        have x3 := Tx 3 _ rfl
        go_wp2_with fail
        clear r0 r1 r2 r3 r4 c0 c1 c2 c3 c4 x0 x1 x2 x3
        clear hse hre
        go_loopw [75] (fun i wr => ∃ j : Nat, j ≤ n ∧ i = .int .i64 j ∧ Below w.heap.size w wr ∧ CAt wr w.heap.size [.int .i64 r.o.s, .int .i64 r.o.r, .int .i64 r.l.s, .int .i64 r.l.r, .int .i64 r.p] ∧ CAt wr k6 [.int .i64 c.o.s, .int .i64 c.o.r, .int .i64 c.l.s, .int .i64 c.l.r, .int .i64 c.p] ∧ OfAt wr (some ⟨db, doff, none⟩) l ∧ CAt wr k7 [.int .i64 x.p, .int .i64 x.t.s, .int .i64 x.t.r, .int .i64 x.c]) (fun i _ => n - (intOf i).toNat)
        case atStart => exact ⟨0, Nat.zero_le _, rfl, BB, Tr, Tc, hl, Tx⟩
        case round =>
          clear BB Tr Tc hl Tx
          obtain ⟨j, hj, rfl, BB, Tr, Tc, hl, Tx⟩ := hrel
          by_cases hlt2 : j < n
          ·
            have hlt2' : (j : Int) < (n : Int) := by omega
            have hj0 : (0 : Int) ≤ (j : Int) := by omega
            obtain ⟨eb, eoff, eha, ehc⟩ := hl.at (i := j) (by rw [← hn.out]; assumption)
            obtain ⟨e0, e1, e2, e3⟩ := ehc j (by rw [← hn.out]; assumption)
            have ehm : l.getD j default ∈ l := by
              rw [List.getD_eq_getElem?_getD, List.getElem?_eq_getElem (by rw [← hn.out]; assumption)]; exact List.getElem_mem _
            have eho := off_bd (offs_mem ho.out _ ehm)
            obtain ⟨y, hy⟩ : ∃ y, l.getD j default = y := ⟨_, rfl⟩
            rw [hy] at e0 e1 e2 e3 eho ehm
            have hpb := HP3.out y ehm
            obtain ⟨ep0, ep1, _, _, ey0, ey1, ey2, ey3⟩ := eho
            obtain ⟨rfl, rfl⟩ : db = eb ∧ doff = eoff := by simpa using eha
            clear eha hy ehc ehm
            have r0 := Tr 0 _ rfl
            have r1 := Tr 1 _ rfl
            have r2 := Tr 2 _ rfl
            have r3 := Tr 3 _ rfl
            have r4 := Tr 4 _ rfl
            have c0 := Tc 0 _ rfl
            have c1 := Tc 1 _ rfl
            have c2 := Tc 2 _ rfl
            have c3 := Tc 3 _ rfl
            have c4 := Tc 4 _ rfl
            have x0 := Tx 0 _ rfl
            have x1 := Tx 1 _ rfl
            have x2 := Tx 2 _ rfl
            have x3 := Tx 3 _ rfl
            go_upto_region 16 with (fail)
            clear r0 r1 r2 r3 r4 c0 c1 c2 c3 c4 x0 x1 x2 x3
            have bs9 : w.heap.size ≤ wr.heap.size := BB.size
            have lt9r : w.heap.size < wr.heap.size := World.block_lt_of_cell? wr ⟨w.heap.size, 0, none⟩ (Tr 0 _ rfl)
            have lt9c : k6 < wr.heap.size := World.block_lt_of_cell? wr ⟨k6, 0, none⟩ (Tc 0 _ rfl)
            have lt9x : k7 < wr.heap.size := World.block_lt_of_cell? wr ⟨k7, 0, none⟩ (Tx 0 _ rfl)
            have Ty := CAt.new (wr) [.int .i64 y.p, .int .i64 y.t.s, .int .i64 y.t.r, .int .i64 y.c] 40
            replace Tr := Tr.alloc (.cells #[.int .i64 y.p, .int .i64 y.t.s, .int .i64 y.t.r, .int .i64 y.c] 40)
            replace Tc := Tc.alloc (.cells #[.int .i64 y.p, .int .i64 y.t.s, .int .i64 y.t.r, .int .i64 y.c] 40)
            replace Tx := Tx.alloc (.cells #[.int .i64 y.p, .int .i64 y.t.s, .int .i64 y.t.r, .int .i64 y.c] 40)
            replace hl := hl.keep (Below.alloc (Below.refl _ (wr)) (Nat.le_refl _) (.cells #[.int .i64 y.p, .int .i64 y.t.s, .int .i64 y.t.r, .int .i64 y.c] 40))
            replace BB := ball BB (.cells #[.int .i64 y.p, .int .i64 y.t.s, .int .i64 y.t.r, .int .i64 y.c] 40)
            obtain ⟨V9, hV9⟩ : ∃ V9, wr.alloc (.cells #[.int .i64 y.p, .int .i64 y.t.s, .int .i64 y.t.r, .int .i64 y.c] 40) = V9 := ⟨_, rfl⟩
            rw [hV9] at BB Tr Tc Tx Ty hl ⊢
            clear hV9
            obtain ⟨k9, hk9⟩ : ∃ k9, wr.heap.size = k9 := ⟨_, rfl⟩
            rw [hk9] at Ty bs9 lt9r lt9c lt9x ⊢
            clear hk9
            clear e0 e1 e2 e3
            have r0 := Tr 0 _ rfl
            have r1 := Tr 1 _ rfl
            have r2 := Tr 2 _ rfl
            have r3 := Tr 3 _ rfl
            have r4 := Tr 4 _ rfl
            have c0 := Tc 0 _ rfl
            have c1 := Tc 1 _ rfl
            have c2 := Tc 2 _ rfl
            have c3 := Tc 3 _ rfl
            have c4 := Tc 4 _ rfl
            have x0 := Tx 0 _ rfl
            have x1 := Tx 1 _ rfl
            have x2 := Tx 2 _ rfl
            have x3 := Tx 3 _ rfl
            have y0 := Ty 0 _ rfl
            have y1 := Ty 1 _ rfl
            have y2 := Ty 2 _ rfl
            have y3 := Ty 3 _ rfl
            cases hpy : possB r y
            ·
              have HPY := Lib.hid hpy; clear hpy hpb
              go_wp2_with fail
              refine (rposs_at r y false _ ey0 ey1 ey2 ey3 HPY.out).mono ?_
              clear r0 r1 r2 r3 r4 c0 c1 c2 c3 c4 x0 x1 x2 x3 y0 y1 y2 y3
              rintro e w10 ⟨rfl, b10⟩
              replace Tr := Tr.keep b10
              replace Tc := Tc.keep b10
              replace Tx := Tx.keep b10
              replace Ty := Ty.keep b10
              replace hl := hl.keep b10
              replace BB := bstep BB b10
              clear b10
              have r0 := Tr 0 _ rfl
              have r1 := Tr 1 _ rfl
              have r2 := Tr 2 _ rfl
              have r3 := Tr 3 _ rfl
              have r4 := Tr 4 _ rfl
              have c0 := Tc 0 _ rfl
              have c1 := Tc 1 _ rfl
              have c2 := Tc 2 _ rfl
              have c3 := Tc 3 _ rfl
              have c4 := Tc 4 _ rfl
              have x0 := Tx 0 _ rfl
              have x1 := Tx 1 _ rfl
              have x2 := Tx 2 _ rfl
              have x3 := Tx 3 _ rfl
              have y0 := Ty 0 _ rfl
              have y1 := Ty 1 _ rfl
              have y2 := Ty 2 _ rfl
              have y3 := Ty 3 _ rfl
              go_wp2_with fail
              go_roundw
              case rel => exact ⟨j + 1, by omega, by go_num, BB, Tr, Tc, hl, Tx⟩
              case measure => simp [intOf]; omega
            ·
              rw [hpy, Bool.true_and] at hpb
              have HPY := Lib.hid hpy; have HPB := Lib.hid hpb; clear hpy hpb
              go_wp2_with fail
              refine (rposs_at r y true _ ey0 ey1 ey2 ey3 HPY.out).mono ?_
              clear r0 r1 r2 r3 r4 c0 c1 c2 c3 c4 x0 x1 x2 x3 y0 y1 y2 y3
              rintro e w10 ⟨rfl, b10⟩
              replace Tr := Tr.keep b10
              replace Tc := Tc.keep b10
              replace Tx := Tx.keep b10
              replace Ty := Ty.keep b10
              replace hl := hl.keep b10
              replace BB := bstep BB b10
              clear b10
              have r0 := Tr 0 _ rfl
              have r1 := Tr 1 _ rfl
              have r2 := Tr 2 _ rfl
              have r3 := Tr 3 _ rfl
              have r4 := Tr 4 _ rfl
              have c0 := Tc 0 _ rfl
              have c1 := Tc 1 _ rfl
              have c2 := Tc 2 _ rfl
              have c3 := Tc 3 _ rfl
              have c4 := Tc 4 _ rfl
              have x0 := Tx 0 _ rfl
              have x1 := Tx 1 _ rfl
              have x2 := Tx 2 _ rfl
              have x3 := Tx 3 _ rfl
              have y0 := Ty 0 _ rfl
              have y1 := Ty 1 _ rfl
              have y2 := Ty 2 _ rfl
              have y3 := Ty 3 _ rfl
              go_wp2_with fail
              refine (rbefore_at y x false _ ey0 ey1 ey2 ey3 dx0 dx1 dx2 dx3 HPB.out).mono ?_
              clear r0 r1 r2 r3 r4 c0 c1 c2 c3 c4 x0 x1 x2 x3 y0 y1 y2 y3
              rintro e w11 ⟨rfl, b11⟩
              replace Tr := Tr.keep b11
              replace Tc := Tc.keep b11
              replace Tx := Tx.keep b11
              replace Ty := Ty.keep b11
              replace hl := hl.keep b11
              replace BB := bstep BB b11
              clear b11
              have r0 := Tr 0 _ rfl
              have r1 := Tr 1 _ rfl
              have r2 := Tr 2 _ rfl
              have r3 := Tr 3 _ rfl
              have r4 := Tr 4 _ rfl
              have c0 := Tc 0 _ rfl
              have c1 := Tc 1 _ rfl
              have c2 := Tc 2 _ rfl
              have c3 := Tc 3 _ rfl
              have c4 := Tc 4 _ rfl
              have x0 := Tx 0 _ rfl
              have x1 := Tx 1 _ rfl
              have x2 := Tx 2 _ rfl
              have x3 := Tx 3 _ rfl
              have y0 := Ty 0 _ rfl
              have y1 := Ty 1 _ rfl
              have y2 := Ty 2 _ rfl
              have y3 := Ty 3 _ rfl
              go_wp2_with fail
              go_roundw
              case rel => exact ⟨j + 1, by omega, by go_num, BB, Tr, Tc, hl, Tx⟩
              case measure => simp [intOf]; omega
          ·
            have hjn : n = j := by omega
            have heb2 := heb
            go_wp2_with fail
            go_roundw
            case rel => exact ⟨k + 1, by omega, by rw [HNX.out]; simp [*], by go_num, BB, Tr, Tc, hl⟩
            case measure => simp [intOf]; omega
      ·
        have heb : (x.p == c.p) = false := by simp [he]
        clear he
        go_wp2_with fail
        go_roundw
        case rel => exact ⟨k + 1, by omega, by rw [HNX.out]; simp [*], by go_num, BB, Tr, Tc, hl⟩
        case measure => simp [intOf]; omega
    ·
      have hkn : n = k := by omega
      subst hkn
      have hch := choice_parent hv.out ho.out
      rw [HC.out] at hch
      have hg : l.any (fun o => o.p == c.p) = g := by have := HG.out; rwa [hn.out, List.take_length] at this
      have hgp : g = decide (0 ≤ c.p) := by
        rw [← hg, Bool.eq_iff_iff, List.any_eq_true, decide_eq_true_eq, hch]
        simp
      have HGP := Lib.hid hgp
      obtain ⟨b, off, rfl, hc⟩ := hl.at (i := 0) (by rw [← hn.out]; simp at hn0; omega)
      have hcells := cells_of hc
      have hbw := World.block_lt_of_cell? wr ⟨b, off + 0 * 4, none⟩ (hc 0 (by rw [← hn.out]; simp at hn0; omega)).1
      simp only at hbw
      have hnp : 0 < n := by simp at hn0; omega
      obtain ⟨k, hk⟩ : ∃ k : Nat, t.tmod n = k := ⟨(t.tmod n).toNat, by rw [Int.tmod_eq_emod_of_nonneg ht]; have := Int.emod_nonneg t (b := (n : Int)) (by omega); omega⟩
      have hkn : k < n := by
        rw [Int.tmod_eq_emod_of_nonneg ht] at hk; have := Int.emod_lt_of_pos t (b := (n : Int)) (by omega); omega
      obtain ⟨i, hi9⟩ : ∃ i : Nat, u.tmod n = i := ⟨(u.tmod n).toNat, by rw [Int.tmod_eq_emod_of_nonneg hu]; have := Int.emod_nonneg u (b := (n : Int)) (by omega); omega⟩
      have hin : i < n := by
        rw [Int.tmod_eq_emod_of_nonneg hu] at hi9; have := Int.emod_lt_of_pos u (b := (n : Int)) (by omega); omega
      have hkn1 : (k : Int) ≤ (n : Int) := by omega
      have hkn2 : (k : Int) < (n : Int) := by omega
      have hkc : (k : Int) ≤ (cap : Int) := by omega
      have hnc' : (n : Int) ≤ (cap : Int) := by omega
      have hck : ¬ cap = k := by omega
      have hck' : ¬ (cap : Int) = (k : Int) := by omega
      have hsub : (n : Int) - (k : Int) = ((n - k : Nat) : Int) := by omega
      have CD := Lib.hid (hcells.drop (k := k) (by rw [← hn.out]; omega))
      have CT := Lib.hid (hcells.take (k := k))
      have CD2 := Lib.hid (hcells.drop (k := i + 1) (by rw [← hn.out]; omega))
      have CT2 := Lib.hid (hcells.take (k := i))
      have HB := Lib.hid hbw
      have EL := Lib.hid (hc i (by rw [← hn.out]; exact hin)).1
      clear hch hg hgp hcells hc hbw
      obtain ⟨i0, hi, hz0, hz1, hz2⟩ := info_parts info40
      have hgd : g = true → 0 ≤ c.p := fun h => by have := HGP.out; rw [h] at this; simpa using this.symm
      have hgd2 : g = false → ¬ 0 ≤ c.p := fun h => by have := HGP.out; rw [h] at this; simpa using this.symm
      obtain ⟨V, hV⟩ : ∃ V, wr = V := ⟨_, rfl⟩
      rw [hV] at BB Tr Tc hl CD CT CD2 CT2 HB EL ⊢
      clear hV

      have r0 := Tr 0 _ rfl
      have r1 := Tr 1 _ rfl
      have r2 := Tr 2 _ rfl
      have r3 := Tr 3 _ rfl
      have r4 := Tr 4 _ rfl
      have c0 := Tc 0 _ rfl
      have c1 := Tc 1 _ rfl
      have c2 := Tc 2 _ rfl
      have c3 := Tc 3 _ rfl
      have c4 := Tc 4 _ rfl
      by_cases hcp : 0 ≤ c.p
      ·
        have hgt : g = true := by rw [HGP.out]; simp [hcp]
        subst hgt
        clear hgd hgd2
        go_wp2_with fail
        go_region_law (first
          | (refine step_append_rest rfl (.tmp 99) (.tmp 102) 26 rfl V.heap.size 40 i0 _ 4 32 Try.underlying26 hi hz0 hz1 hz2 rfl (by decide) (.slice (some ⟨V.heap.size, 0, none⟩) 0 0) 0 [] (by rfl) (World.ownsRow_made V #[] 0 (Nat.le_refl _) (by decide) rfl) (some ⟨b, off + k * 4, none⟩) (n - k) (cap - k) (flat (l.drop k)) (by rfl) (by rw [flat_len, List.length_drop, ← hn.out]) (.inr ⟨_, _, rfl, fun j u hj => old1 (CD.out j u hj) _⟩) (flat_one _) (by unfold maxLen; omega) (by omega) (by simp) ?_; intro v1 w2 hown1 hgrow1)
          | (refine step_append_rest rfl (.tmp 103) (.tmp 106) 26 rfl V.heap.size 40 i0 _ 4 32 Try.underlying26 hi hz0 hz1 hz2 rfl (by decide) v1 (0 + (n - k)) _ (by rfl) hown1 (some ⟨b, off, none⟩) k cap (flat (l.take k)) (by rfl) (by rw [flat_len, List.length_take, ← hn.out, Nat.min_eq_left (by omega)]) (.inr ⟨_, _, rfl, fun j u hj => (hgrow1.cell (p := ⟨b, off + j, none⟩) HB.out).trans (old1 (CT.out j u hj) _)⟩) (flat_one _) (by unfold maxLen; omega) (by omega) (by have := hgrow1.size; simp at this; omega) ?_; intro v2 w3 hown3 hgrow3))
        have B3 := ((Below.drew (ball (Below.refl _ V) _)).trans hgrow1).trans hgrow3
        have e3 : 0 + (n - k) + k = n := by omega
        rw [e3] at hown3
        obtain ⟨a3, qq3, rfl, hl3, hn3, hm3⟩ := owns_offers (ls := l.drop k ++ l.take k) (by rw [flat_append]; simpa using hown3) (by rw [List.length_append, List.length_drop, List.length_take, ← hn.out, Nat.min_eq_left (by omega)]; omega)
        clear hown3 hgrow3 hgrow1 hown1 e3
        replace CD2 := Lib.hid (CD2.out.keep B3); replace CT2 := Lib.hid (CT2.out.keep B3); replace EL := Lib.hid (keep1 B3 EL.out)
        have HB3 : b < w3.heap.size := by have := B3.size; have := HB.out; omega
        replace hl := hl.keep B3; replace Tr := Tr.keep B3; replace Tc := Tc.keep B3
        replace BB := bstep BB B3
        clear B3
        clear r0 r1 r2 r3 r4 c0 c1 c2 c3 c4
        obtain ⟨j, hj⟩ : ∃ j, j = i + 1 := ⟨_, rfl⟩
        have hij : (i : Int) + 1 = (j : Int) := by omega
        have hin1 : (i : Int) ≤ (n : Int) := by omega
        have hin2 : (i : Int) < (n : Int) := by omega
        have hi0 : (0 : Int) ≤ (i : Int) := by omega
        have hic : (i : Int) ≤ (cap : Int) := by omega
        have hjn1 : (j : Int) ≤ (n : Int) := by omega
        have hjc : (j : Int) ≤ (cap : Int) := by omega
        have hwj : IntKind.i64.wrap (j : Int) = (j : Int) := IntWalk.i64_in _ (by omega)
        have hjsub : (n : Int) - (j : Int) = ((n - j : Nat) : Int) := by omega
        have hjk : i < n := hin
        have HJ := Lib.hid hj; clear hj
        by_cases hce : cap = j
        ·
          have hce2 : (cap : Int) = (j : Int) := by omega
          have hnj : n = j := by have := HJ.out; omega
          subst hce; subst hnj
          have r0 := Tr 0 _ rfl
          have r1 := Tr 1 _ rfl
          have r2 := Tr 2 _ rfl
          have r3 := Tr 3 _ rfl
          have r4 := Tr 4 _ rfl
          have c0 := Tc 0 _ rfl
          have c1 := Tc 1 _ rfl
          have c2 := Tc 2 _ rfl
          have c3 := Tc 3 _ rfl
          have c4 := Tc 4 _ rfl
          go_wp2_with fail
          go_region_law (first
            | (refine step_append_rest rfl (.tmp 113) (.tmp 116) 26 rfl w3.heap.size 40 i0 _ 4 32 Try.underlying26 hi hz0 hz1 hz2 rfl (by decide) (.slice (some ⟨w3.heap.size, 0, none⟩) 0 0) 0 [] (by rfl) (World.ownsRow_made w3 #[] 0 (Nat.le_refl _) (by decide) rfl) (some ⟨b, off, none⟩) i n (flat (l.take i)) (by rfl) (by rw [flat_len, List.length_take, ← hn.out, Nat.min_eq_left (by omega)]) (.inr ⟨_, _, rfl, fun j u hj => old1 (CT2.out j u hj) _⟩) (flat_one _) (by unfold maxLen; omega) (by omega) (by simp) ?_; intro v4 w4 hown4 hgrow4)
            | (refine step_append_rest rfl (.tmp 117) (.tmp 121) 26 rfl w3.heap.size 40 i0 _ 4 32 Try.underlying26 hi hz0 hz1 hz2 rfl (by decide) v4 (0 + i) _ (by rfl) hown4 (some ⟨b, off, none⟩) 0 0 (flat (l.drop (i + 1))) (by rfl) (by rw [flat_len, List.length_drop, ← hn.out, ← HJ.out]; omega) (.inl rfl) (flat_one _) (by unfold maxLen; omega) (by omega) (by have := hgrow4.size; simp at this; omega) ?_; intro v5 w5 hown5 hgrow5))
          have B5 := ((Below.drew (ball (Below.refl _ w3) _)).trans hgrow4).trans hgrow5
          obtain ⟨m5, hm5⟩ : ∃ m5, m5 = 0 + i + 0 := ⟨_, rfl⟩
          rw [← hm5] at hown5
          obtain ⟨a5, qq5, rfl, hl5, hn5, hcm5⟩ := owns_offers (ls := l.take i ++ l.drop (i + 1)) (by rw [flat_append]; simpa using hown5) (by have := HJ.out; rw [List.length_append, List.length_drop, List.length_take, ← hn.out, Nat.min_eq_left (by omega)]; omega)
          have HM5 := Lib.hid hm5
          clear hown5 hgrow4 hgrow5 hown4 hm5
          replace EL := Lib.hid (keep1 B5 EL.out)
          replace hl3 := hl3.keep B5; replace Tr := Tr.keep B5; replace Tc := Tc.keep B5
          replace BB := bstep BB B5
          clear B5 hl
          have el := EL.out
          obtain ⟨q, hq⟩ : ∃ q, (l.getD i default).p = q := ⟨_, rfl⟩
          rw [hq] at el
          have HQ := Lib.hid hq; clear hq
          clear r0 r1 r2 r3 r4 c0 c1 c2 c3 c4
          by_cases hqc : q = c.p
          ·
            have hqb : (q == c.p) = true := by simp [hqc]
            clear hqc
            have kel := cell_regrown el
            go_upto_region 26 with (fail)
            simp only [List.getElem_toArray, List.getElem_cons_succ, List.getElem_cons_zero, Act.put, List.setIfInBounds_toArray, List.set_cons_succ, List.set_cons_zero]
            have CH3 : ∀ w', Below w5.heap.size w5 w' → Calls Try.prog 18 #[r.v, .slice a3 n qq3] w' fun e w'' => e = .returned c.v ∧ Below w'.heap.size w' w'' := fun w' h =>
              choose_at r c n a3 qq3 (l.drop k ++ l.take k) w' (by rw [List.length_append, List.length_drop, List.length_take, ← hn.out, Nat.min_eq_left (by omega)]; omega) (hl3.keep h) (by rw [List.length_append, List.length_drop, List.length_take, ← hn.out, Nat.min_eq_left (by omega)]; unfold maxLen; omega) (by rw [choose_turned hv.out ho.out, HC.out])
            have r0 := Tr 0 _ rfl
            have kr0 := cell_regrown r0
            have r1 := Tr 1 _ rfl
            have kr1 := cell_regrown r1
            have r2 := Tr 2 _ rfl
            have kr2 := cell_regrown r2
            have r3 := Tr 3 _ rfl
            have kr3 := cell_regrown r3
            have r4 := Tr 4 _ rfl
            have kr4 := cell_regrown r4
            have c0 := Tc 0 _ rfl
            have kc0 := cell_regrown c0
            have c1 := Tc 1 _ rfl
            have kc1 := cell_regrown c1
            have c2 := Tc 2 _ rfl
            have kc2 := cell_regrown c2
            have c3 := Tc 3 _ rfl
            have kc3 := cell_regrown c3
            have c4 := Tc 4 _ rfl
            have kc4 := cell_regrown c4
            refine wp_region_quiet_below (by kernel_rfl) (by kernel_rfl) ?_
            repeat (go_big_quiet_step (first
              | (go_at_call 18; with_reducible exact rg_of CH3)))
            refine wpQuiet_nil ?_
            intro _ hw'
            obtain ⟨⟨dq, osq⟩, hw''⟩ := hw'
            subst hw''
            clear r0 kr0 r1 kr1 r2 kr2 r3 kr3 r4 kr4 c0 kc0 c1 kc1 c2 kc2 c3 kc3 c4 kc4
            have bq := below_regrown w5 dq osq
            obtain ⟨V7, hV7⟩ : ∃ V7, grow (redrawn w5 dq) osq = V7 := ⟨_, rfl⟩
            rw [hV7] at bq ⊢
            clear hV7 dq osq
            replace Tr := Tr.keep bq
            replace Tc := Tc.keep bq
            replace BB := bstep BB bq
            clear bq
            go_wp2_with fail
            go_ret
            exact ⟨by simp, BB⟩
          ·
            have hqb : (q == c.p) = false := by simp [hqc]
            have HQC := Lib.hid hqc; clear hqc
            have kel := cell_regrown el
            go_upto_region 26 with (fail)
            simp only [List.getElem_toArray, List.getElem_cons_succ, List.getElem_cons_zero, Act.put, List.setIfInBounds_toArray, List.set_cons_succ, List.set_cons_zero]
            have CH3 : ∀ w', Below w5.heap.size w5 w' → Calls Try.prog 18 #[r.v, .slice a3 n qq3] w' fun e w'' => e = .returned c.v ∧ Below w'.heap.size w' w'' := fun w' h =>
              choose_at r c n a3 qq3 (l.drop k ++ l.take k) w' (by rw [List.length_append, List.length_drop, List.length_take, ← hn.out, Nat.min_eq_left (by omega)]; omega) (hl3.keep h) (by rw [List.length_append, List.length_drop, List.length_take, ← hn.out, Nat.min_eq_left (by omega)]; unfold maxLen; omega) (by rw [choose_turned hv.out ho.out, HC.out])
            have CH5 : ∀ w', Below w5.heap.size w5 w' → Calls Try.prog 18 #[r.v, .slice a5 m5 qq5] w' fun e w'' => e = .returned c.v ∧ Below w'.heap.size w' w'' := fun w' h =>
              choose_at r c m5 a5 qq5 (l.take i ++ l.drop (i + 1)) w' (by have := HJ.out; have := HM5.out; rw [List.length_append, List.length_drop, List.length_take, ← hn.out, Nat.min_eq_left (by omega)]; omega) (hl5.keep h) (by have := HJ.out; rw [List.length_append, List.length_drop, List.length_take, ← hn.out, Nat.min_eq_left (by omega)]; unfold maxLen; omega) (by rw [choose_left hv.out ho.out (by rw [← hn.out]; exact hjk) (by rw [HC.out, HQ.out]; exact HQC.out), HC.out])
            have r0 := Tr 0 _ rfl
            have kr0 := cell_regrown r0
            have r1 := Tr 1 _ rfl
            have kr1 := cell_regrown r1
            have r2 := Tr 2 _ rfl
            have kr2 := cell_regrown r2
            have r3 := Tr 3 _ rfl
            have kr3 := cell_regrown r3
            have r4 := Tr 4 _ rfl
            have kr4 := cell_regrown r4
            have c0 := Tc 0 _ rfl
            have kc0 := cell_regrown c0
            have c1 := Tc 1 _ rfl
            have kc1 := cell_regrown c1
            have c2 := Tc 2 _ rfl
            have kc2 := cell_regrown c2
            have c3 := Tc 3 _ rfl
            have kc3 := cell_regrown c3
            have c4 := Tc 4 _ rfl
            have kc4 := cell_regrown c4
            refine wp_region_quiet_below (by kernel_rfl) (by kernel_rfl) ?_
            repeat (go_big_quiet_step (first
              | (go_at_call 18; with_reducible exact rg_of CH3)
              | (go_at_call 18; with_reducible exact rg_of CH5)))
            refine wpQuiet_nil ?_
            intro _ hw'
            obtain ⟨⟨dq, osq⟩, hw''⟩ := hw'
            subst hw''
            clear r0 kr0 r1 kr1 r2 kr2 r3 kr3 r4 kr4 c0 kc0 c1 kc1 c2 kc2 c3 kc3 c4 kc4
            have bq := below_regrown w5 dq osq
            obtain ⟨V7, hV7⟩ : ∃ V7, grow (redrawn w5 dq) osq = V7 := ⟨_, rfl⟩
            rw [hV7] at bq ⊢
            clear hV7 dq osq
            replace Tr := Tr.keep bq
            replace Tc := Tc.keep bq
            replace BB := bstep BB bq
            clear bq
            go_wp2_with fail
            go_ret
            exact ⟨by simp, BB⟩
        ·
          have hce2 : ¬ (cap : Int) = (j : Int) := by omega
          have r0 := Tr 0 _ rfl
          have r1 := Tr 1 _ rfl
          have r2 := Tr 2 _ rfl
          have r3 := Tr 3 _ rfl
          have r4 := Tr 4 _ rfl
          have c0 := Tc 0 _ rfl
          have c1 := Tc 1 _ rfl
          have c2 := Tc 2 _ rfl
          have c3 := Tc 3 _ rfl
          have c4 := Tc 4 _ rfl
          go_wp2_with fail
          go_region_law (first
            | (refine step_append_rest rfl (.tmp 113) (.tmp 116) 26 rfl w3.heap.size 40 i0 _ 4 32 Try.underlying26 hi hz0 hz1 hz2 rfl (by decide) (.slice (some ⟨w3.heap.size, 0, none⟩) 0 0) 0 [] (by rfl) (World.ownsRow_made w3 #[] 0 (Nat.le_refl _) (by decide) rfl) (some ⟨b, off, none⟩) i cap (flat (l.take i)) (by rfl) (by rw [flat_len, List.length_take, ← hn.out, Nat.min_eq_left (by omega)]) (.inr ⟨_, _, rfl, fun j u hj => old1 (CT2.out j u hj) _⟩) (flat_one _) (by unfold maxLen; omega) (by omega) (by simp) ?_; intro v4 w4 hown4 hgrow4)
            | (refine step_append_rest rfl (.tmp 117) (.tmp 121) 26 rfl w3.heap.size 40 i0 _ 4 32 Try.underlying26 hi hz0 hz1 hz2 rfl (by decide) v4 (0 + i) _ (by rfl) hown4 (some ⟨b, off + j * 4, none⟩) (n - j) (cap - j) (flat (l.drop (i + 1))) (by rfl) (by rw [flat_len, List.length_drop, ← hn.out, ← HJ.out]) (.inr ⟨_, _, rfl, fun q u hq => (hgrow4.cell (p := ⟨b, off + j * 4 + q, none⟩) HB3).trans (old1 (by rw [HJ.out]; exact CD2.out q u hq) _)⟩) (flat_one _) (by unfold maxLen; omega) (by omega) (by have := hgrow4.size; simp at this; omega) ?_; intro v5 w5 hown5 hgrow5))
          have B5 := ((Below.drew (ball (Below.refl _ w3) _)).trans hgrow4).trans hgrow5
          obtain ⟨m5, hm5⟩ : ∃ m5, m5 = 0 + i + (n - j) := ⟨_, rfl⟩
          rw [← hm5] at hown5
          obtain ⟨a5, qq5, rfl, hl5, hn5, hcm5⟩ := owns_offers (ls := l.take i ++ l.drop (i + 1)) (by rw [flat_append]; simpa using hown5) (by have := HJ.out; rw [List.length_append, List.length_drop, List.length_take, ← hn.out, Nat.min_eq_left (by omega)]; omega)
          have HM5 := Lib.hid hm5
          clear hown5 hgrow4 hgrow5 hown4 hm5
          replace EL := Lib.hid (keep1 B5 EL.out)
          replace hl3 := hl3.keep B5; replace Tr := Tr.keep B5; replace Tc := Tc.keep B5
          replace BB := bstep BB B5
          clear B5 hl
          have el := EL.out
          obtain ⟨q, hq⟩ : ∃ q, (l.getD i default).p = q := ⟨_, rfl⟩
          rw [hq] at el
          have HQ := Lib.hid hq; clear hq
          clear r0 r1 r2 r3 r4 c0 c1 c2 c3 c4
          by_cases hqc : q = c.p
          ·
            have hqb : (q == c.p) = true := by simp [hqc]
            clear hqc
            have kel := cell_regrown el
            go_upto_region 26 with (fail)
            simp only [List.getElem_toArray, List.getElem_cons_succ, List.getElem_cons_zero, Act.put, List.setIfInBounds_toArray, List.set_cons_succ, List.set_cons_zero]
            have CH3 : ∀ w', Below w5.heap.size w5 w' → Calls Try.prog 18 #[r.v, .slice a3 n qq3] w' fun e w'' => e = .returned c.v ∧ Below w'.heap.size w' w'' := fun w' h =>
              choose_at r c n a3 qq3 (l.drop k ++ l.take k) w' (by rw [List.length_append, List.length_drop, List.length_take, ← hn.out, Nat.min_eq_left (by omega)]; omega) (hl3.keep h) (by rw [List.length_append, List.length_drop, List.length_take, ← hn.out, Nat.min_eq_left (by omega)]; unfold maxLen; omega) (by rw [choose_turned hv.out ho.out, HC.out])
            have r0 := Tr 0 _ rfl
            have kr0 := cell_regrown r0
            have r1 := Tr 1 _ rfl
            have kr1 := cell_regrown r1
            have r2 := Tr 2 _ rfl
            have kr2 := cell_regrown r2
            have r3 := Tr 3 _ rfl
            have kr3 := cell_regrown r3
            have r4 := Tr 4 _ rfl
            have kr4 := cell_regrown r4
            have c0 := Tc 0 _ rfl
            have kc0 := cell_regrown c0
            have c1 := Tc 1 _ rfl
            have kc1 := cell_regrown c1
            have c2 := Tc 2 _ rfl
            have kc2 := cell_regrown c2
            have c3 := Tc 3 _ rfl
            have kc3 := cell_regrown c3
            have c4 := Tc 4 _ rfl
            have kc4 := cell_regrown c4
            refine wp_region_quiet_below (by kernel_rfl) (by kernel_rfl) ?_
            repeat (go_big_quiet_step (first
              | (go_at_call 18; with_reducible exact rg_of CH3)))
            refine wpQuiet_nil ?_
            intro _ hw'
            obtain ⟨⟨dq, osq⟩, hw''⟩ := hw'
            subst hw''
            clear r0 kr0 r1 kr1 r2 kr2 r3 kr3 r4 kr4 c0 kc0 c1 kc1 c2 kc2 c3 kc3 c4 kc4
            have bq := below_regrown w5 dq osq
            obtain ⟨V7, hV7⟩ : ∃ V7, grow (redrawn w5 dq) osq = V7 := ⟨_, rfl⟩
            rw [hV7] at bq ⊢
            clear hV7 dq osq
            replace Tr := Tr.keep bq
            replace Tc := Tc.keep bq
            replace BB := bstep BB bq
            clear bq
            go_wp2_with fail
            go_ret
            exact ⟨by simp, BB⟩
          ·
            have hqb : (q == c.p) = false := by simp [hqc]
            have HQC := Lib.hid hqc; clear hqc
            have kel := cell_regrown el
            go_upto_region 26 with (fail)
            simp only [List.getElem_toArray, List.getElem_cons_succ, List.getElem_cons_zero, Act.put, List.setIfInBounds_toArray, List.set_cons_succ, List.set_cons_zero]
            have CH3 : ∀ w', Below w5.heap.size w5 w' → Calls Try.prog 18 #[r.v, .slice a3 n qq3] w' fun e w'' => e = .returned c.v ∧ Below w'.heap.size w' w'' := fun w' h =>
              choose_at r c n a3 qq3 (l.drop k ++ l.take k) w' (by rw [List.length_append, List.length_drop, List.length_take, ← hn.out, Nat.min_eq_left (by omega)]; omega) (hl3.keep h) (by rw [List.length_append, List.length_drop, List.length_take, ← hn.out, Nat.min_eq_left (by omega)]; unfold maxLen; omega) (by rw [choose_turned hv.out ho.out, HC.out])
            have CH5 : ∀ w', Below w5.heap.size w5 w' → Calls Try.prog 18 #[r.v, .slice a5 m5 qq5] w' fun e w'' => e = .returned c.v ∧ Below w'.heap.size w' w'' := fun w' h =>
              choose_at r c m5 a5 qq5 (l.take i ++ l.drop (i + 1)) w' (by have := HJ.out; have := HM5.out; rw [List.length_append, List.length_drop, List.length_take, ← hn.out, Nat.min_eq_left (by omega)]; omega) (hl5.keep h) (by have := HJ.out; rw [List.length_append, List.length_drop, List.length_take, ← hn.out, Nat.min_eq_left (by omega)]; unfold maxLen; omega) (by rw [choose_left hv.out ho.out (by rw [← hn.out]; exact hjk) (by rw [HC.out, HQ.out]; exact HQC.out), HC.out])
            have r0 := Tr 0 _ rfl
            have kr0 := cell_regrown r0
            have r1 := Tr 1 _ rfl
            have kr1 := cell_regrown r1
            have r2 := Tr 2 _ rfl
            have kr2 := cell_regrown r2
            have r3 := Tr 3 _ rfl
            have kr3 := cell_regrown r3
            have r4 := Tr 4 _ rfl
            have kr4 := cell_regrown r4
            have c0 := Tc 0 _ rfl
            have kc0 := cell_regrown c0
            have c1 := Tc 1 _ rfl
            have kc1 := cell_regrown c1
            have c2 := Tc 2 _ rfl
            have kc2 := cell_regrown c2
            have c3 := Tc 3 _ rfl
            have kc3 := cell_regrown c3
            have c4 := Tc 4 _ rfl
            have kc4 := cell_regrown c4
            refine wp_region_quiet_below (by kernel_rfl) (by kernel_rfl) ?_
            repeat (go_big_quiet_step (first
              | (go_at_call 18; with_reducible exact rg_of CH3)
              | (go_at_call 18; with_reducible exact rg_of CH5)))
            refine wpQuiet_nil ?_
            intro _ hw'
            obtain ⟨⟨dq, osq⟩, hw''⟩ := hw'
            subst hw''
            clear r0 kr0 r1 kr1 r2 kr2 r3 kr3 r4 kr4 c0 kc0 c1 kc1 c2 kc2 c3 kc3 c4 kc4
            have bq := below_regrown w5 dq osq
            obtain ⟨V7, hV7⟩ : ∃ V7, grow (redrawn w5 dq) osq = V7 := ⟨_, rfl⟩
            rw [hV7] at bq ⊢
            clear hV7 dq osq
            replace Tr := Tr.keep bq
            replace Tc := Tc.keep bq
            replace BB := bstep BB bq
            clear bq
            go_wp2_with fail
            go_ret
            exact ⟨by simp, BB⟩
      ·
        have hgt : g = false := by rw [HGP.out]; simp [hcp]
        subst hgt
        clear hgd hgd2
        go_wp2_with fail
        go_region_law (first
          | (refine step_append_rest rfl (.tmp 99) (.tmp 102) 26 rfl V.heap.size 40 i0 _ 4 32 Try.underlying26 hi hz0 hz1 hz2 rfl (by decide) (.slice (some ⟨V.heap.size, 0, none⟩) 0 0) 0 [] (by rfl) (World.ownsRow_made V #[] 0 (Nat.le_refl _) (by decide) rfl) (some ⟨b, off + k * 4, none⟩) (n - k) (cap - k) (flat (l.drop k)) (by rfl) (by rw [flat_len, List.length_drop, ← hn.out]) (.inr ⟨_, _, rfl, fun j u hj => old1 (CD.out j u hj) _⟩) (flat_one _) (by unfold maxLen; omega) (by omega) (by simp) ?_; intro v1 w2 hown1 hgrow1)
          | (refine step_append_rest rfl (.tmp 103) (.tmp 106) 26 rfl V.heap.size 40 i0 _ 4 32 Try.underlying26 hi hz0 hz1 hz2 rfl (by decide) v1 (0 + (n - k)) _ (by rfl) hown1 (some ⟨b, off, none⟩) k cap (flat (l.take k)) (by rfl) (by rw [flat_len, List.length_take, ← hn.out, Nat.min_eq_left (by omega)]) (.inr ⟨_, _, rfl, fun j u hj => (hgrow1.cell (p := ⟨b, off + j, none⟩) HB.out).trans (old1 (CT.out j u hj) _)⟩) (flat_one _) (by unfold maxLen; omega) (by omega) (by have := hgrow1.size; simp at this; omega) ?_; intro v2 w3 hown3 hgrow3))
        have B3 := ((Below.drew (ball (Below.refl _ V) _)).trans hgrow1).trans hgrow3
        have e3 : 0 + (n - k) + k = n := by omega
        rw [e3] at hown3
        obtain ⟨a3, qq3, rfl, hl3, hn3, hm3⟩ := owns_offers (ls := l.drop k ++ l.take k) (by rw [flat_append]; simpa using hown3) (by rw [List.length_append, List.length_drop, List.length_take, ← hn.out, Nat.min_eq_left (by omega)]; omega)
        clear hown3 hgrow3 hgrow1 hown1 e3
        replace CD2 := Lib.hid (CD2.out.keep B3); replace CT2 := Lib.hid (CT2.out.keep B3); replace EL := Lib.hid (keep1 B3 EL.out)
        have HB3 : b < w3.heap.size := by have := B3.size; have := HB.out; omega
        replace hl := hl.keep B3; replace Tr := Tr.keep B3; replace Tc := Tc.keep B3
        replace BB := bstep BB B3
        clear B3
        clear r0 r1 r2 r3 r4 c0 c1 c2 c3 c4
        obtain ⟨j, hj⟩ : ∃ j, j = i + 1 := ⟨_, rfl⟩
        have hij : (i : Int) + 1 = (j : Int) := by omega
        have hin1 : (i : Int) ≤ (n : Int) := by omega
        have hin2 : (i : Int) < (n : Int) := by omega
        have hi0 : (0 : Int) ≤ (i : Int) := by omega
        have hic : (i : Int) ≤ (cap : Int) := by omega
        have hjn1 : (j : Int) ≤ (n : Int) := by omega
        have hjc : (j : Int) ≤ (cap : Int) := by omega
        have hwj : IntKind.i64.wrap (j : Int) = (j : Int) := IntWalk.i64_in _ (by omega)
        have hjsub : (n : Int) - (j : Int) = ((n - j : Nat) : Int) := by omega
        have hjk : i < n := hin
        have HJ := Lib.hid hj; clear hj
        by_cases hce : cap = j
        ·
          have hce2 : (cap : Int) = (j : Int) := by omega
          have hnj : n = j := by have := HJ.out; omega
          subst hce; subst hnj
          have r0 := Tr 0 _ rfl
          have r1 := Tr 1 _ rfl
          have r2 := Tr 2 _ rfl
          have r3 := Tr 3 _ rfl
          have r4 := Tr 4 _ rfl
          have c0 := Tc 0 _ rfl
          have c1 := Tc 1 _ rfl
          have c2 := Tc 2 _ rfl
          have c3 := Tc 3 _ rfl
          have c4 := Tc 4 _ rfl
          go_wp2_with fail
          go_region_law (first
            | (refine step_append_rest rfl (.tmp 113) (.tmp 116) 26 rfl w3.heap.size 40 i0 _ 4 32 Try.underlying26 hi hz0 hz1 hz2 rfl (by decide) (.slice (some ⟨w3.heap.size, 0, none⟩) 0 0) 0 [] (by rfl) (World.ownsRow_made w3 #[] 0 (Nat.le_refl _) (by decide) rfl) (some ⟨b, off, none⟩) i n (flat (l.take i)) (by rfl) (by rw [flat_len, List.length_take, ← hn.out, Nat.min_eq_left (by omega)]) (.inr ⟨_, _, rfl, fun j u hj => old1 (CT2.out j u hj) _⟩) (flat_one _) (by unfold maxLen; omega) (by omega) (by simp) ?_; intro v4 w4 hown4 hgrow4)
            | (refine step_append_rest rfl (.tmp 117) (.tmp 121) 26 rfl w3.heap.size 40 i0 _ 4 32 Try.underlying26 hi hz0 hz1 hz2 rfl (by decide) v4 (0 + i) _ (by rfl) hown4 (some ⟨b, off, none⟩) 0 0 (flat (l.drop (i + 1))) (by rfl) (by rw [flat_len, List.length_drop, ← hn.out, ← HJ.out]; omega) (.inl rfl) (flat_one _) (by unfold maxLen; omega) (by omega) (by have := hgrow4.size; simp at this; omega) ?_; intro v5 w5 hown5 hgrow5))
          have B5 := ((Below.drew (ball (Below.refl _ w3) _)).trans hgrow4).trans hgrow5
          obtain ⟨m5, hm5⟩ : ∃ m5, m5 = 0 + i + 0 := ⟨_, rfl⟩
          rw [← hm5] at hown5
          obtain ⟨a5, qq5, rfl, hl5, hn5, hcm5⟩ := owns_offers (ls := l.take i ++ l.drop (i + 1)) (by rw [flat_append]; simpa using hown5) (by have := HJ.out; rw [List.length_append, List.length_drop, List.length_take, ← hn.out, Nat.min_eq_left (by omega)]; omega)
          have HM5 := Lib.hid hm5
          clear hown5 hgrow4 hgrow5 hown4 hm5
          replace EL := Lib.hid (keep1 B5 EL.out)
          replace hl3 := hl3.keep B5; replace Tr := Tr.keep B5; replace Tc := Tc.keep B5
          replace BB := bstep BB B5
          clear B5 hl
          have el := EL.out
          obtain ⟨q, hq⟩ : ∃ q, (l.getD i default).p = q := ⟨_, rfl⟩
          rw [hq] at el
          have HQ := Lib.hid hq; clear hq
          clear r0 r1 r2 r3 r4 c0 c1 c2 c3 c4
          by_cases hqc : q = c.p
          ·
            have hqb : (q == c.p) = true := by simp [hqc]
            clear hqc
            have kel := cell_regrown el
            go_upto_region 26 with (fail)
            simp only [List.getElem_toArray, List.getElem_cons_succ, List.getElem_cons_zero, Act.put, List.setIfInBounds_toArray, List.set_cons_succ, List.set_cons_zero]
            have CH3 : ∀ w', Below w5.heap.size w5 w' → Calls Try.prog 18 #[r.v, .slice a3 n qq3] w' fun e w'' => e = .returned c.v ∧ Below w'.heap.size w' w'' := fun w' h =>
              choose_at r c n a3 qq3 (l.drop k ++ l.take k) w' (by rw [List.length_append, List.length_drop, List.length_take, ← hn.out, Nat.min_eq_left (by omega)]; omega) (hl3.keep h) (by rw [List.length_append, List.length_drop, List.length_take, ← hn.out, Nat.min_eq_left (by omega)]; unfold maxLen; omega) (by rw [choose_turned hv.out ho.out, HC.out])
            have r0 := Tr 0 _ rfl
            have kr0 := cell_regrown r0
            have r1 := Tr 1 _ rfl
            have kr1 := cell_regrown r1
            have r2 := Tr 2 _ rfl
            have kr2 := cell_regrown r2
            have r3 := Tr 3 _ rfl
            have kr3 := cell_regrown r3
            have r4 := Tr 4 _ rfl
            have kr4 := cell_regrown r4
            have c0 := Tc 0 _ rfl
            have kc0 := cell_regrown c0
            have c1 := Tc 1 _ rfl
            have kc1 := cell_regrown c1
            have c2 := Tc 2 _ rfl
            have kc2 := cell_regrown c2
            have c3 := Tc 3 _ rfl
            have kc3 := cell_regrown c3
            have c4 := Tc 4 _ rfl
            have kc4 := cell_regrown c4
            refine wp_region_quiet_below (by kernel_rfl) (by kernel_rfl) ?_
            repeat (go_big_quiet_step (first
              | (go_at_call 18; with_reducible exact rg_of CH3)))
            refine wpQuiet_nil ?_
            intro _ hw'
            obtain ⟨⟨dq, osq⟩, hw''⟩ := hw'
            subst hw''
            clear r0 kr0 r1 kr1 r2 kr2 r3 kr3 r4 kr4 c0 kc0 c1 kc1 c2 kc2 c3 kc3 c4 kc4
            have bq := below_regrown w5 dq osq
            obtain ⟨V7, hV7⟩ : ∃ V7, grow (redrawn w5 dq) osq = V7 := ⟨_, rfl⟩
            rw [hV7] at bq ⊢
            clear hV7 dq osq
            replace Tr := Tr.keep bq
            replace Tc := Tc.keep bq
            replace BB := bstep BB bq
            clear bq
            go_wp2_with fail
            go_ret
            exact ⟨by simp, BB⟩
          ·
            have hqb : (q == c.p) = false := by simp [hqc]
            have HQC := Lib.hid hqc; clear hqc
            have kel := cell_regrown el
            go_upto_region 26 with (fail)
            simp only [List.getElem_toArray, List.getElem_cons_succ, List.getElem_cons_zero, Act.put, List.setIfInBounds_toArray, List.set_cons_succ, List.set_cons_zero]
            have CH3 : ∀ w', Below w5.heap.size w5 w' → Calls Try.prog 18 #[r.v, .slice a3 n qq3] w' fun e w'' => e = .returned c.v ∧ Below w'.heap.size w' w'' := fun w' h =>
              choose_at r c n a3 qq3 (l.drop k ++ l.take k) w' (by rw [List.length_append, List.length_drop, List.length_take, ← hn.out, Nat.min_eq_left (by omega)]; omega) (hl3.keep h) (by rw [List.length_append, List.length_drop, List.length_take, ← hn.out, Nat.min_eq_left (by omega)]; unfold maxLen; omega) (by rw [choose_turned hv.out ho.out, HC.out])
            have CH5 : ∀ w', Below w5.heap.size w5 w' → Calls Try.prog 18 #[r.v, .slice a5 m5 qq5] w' fun e w'' => e = .returned c.v ∧ Below w'.heap.size w' w'' := fun w' h =>
              choose_at r c m5 a5 qq5 (l.take i ++ l.drop (i + 1)) w' (by have := HJ.out; have := HM5.out; rw [List.length_append, List.length_drop, List.length_take, ← hn.out, Nat.min_eq_left (by omega)]; omega) (hl5.keep h) (by have := HJ.out; rw [List.length_append, List.length_drop, List.length_take, ← hn.out, Nat.min_eq_left (by omega)]; unfold maxLen; omega) (by rw [choose_left hv.out ho.out (by rw [← hn.out]; exact hjk) (by rw [HC.out, HQ.out]; exact HQC.out), HC.out])
            have r0 := Tr 0 _ rfl
            have kr0 := cell_regrown r0
            have r1 := Tr 1 _ rfl
            have kr1 := cell_regrown r1
            have r2 := Tr 2 _ rfl
            have kr2 := cell_regrown r2
            have r3 := Tr 3 _ rfl
            have kr3 := cell_regrown r3
            have r4 := Tr 4 _ rfl
            have kr4 := cell_regrown r4
            have c0 := Tc 0 _ rfl
            have kc0 := cell_regrown c0
            have c1 := Tc 1 _ rfl
            have kc1 := cell_regrown c1
            have c2 := Tc 2 _ rfl
            have kc2 := cell_regrown c2
            have c3 := Tc 3 _ rfl
            have kc3 := cell_regrown c3
            have c4 := Tc 4 _ rfl
            have kc4 := cell_regrown c4
            refine wp_region_quiet_below (by kernel_rfl) (by kernel_rfl) ?_
            repeat (go_big_quiet_step (first
              | (go_at_call 18; with_reducible exact rg_of CH3)
              | (go_at_call 18; with_reducible exact rg_of CH5)))
            refine wpQuiet_nil ?_
            intro _ hw'
            obtain ⟨⟨dq, osq⟩, hw''⟩ := hw'
            subst hw''
            clear r0 kr0 r1 kr1 r2 kr2 r3 kr3 r4 kr4 c0 kc0 c1 kc1 c2 kc2 c3 kc3 c4 kc4
            have bq := below_regrown w5 dq osq
            obtain ⟨V7, hV7⟩ : ∃ V7, grow (redrawn w5 dq) osq = V7 := ⟨_, rfl⟩
            rw [hV7] at bq ⊢
            clear hV7 dq osq
            replace Tr := Tr.keep bq
            replace Tc := Tc.keep bq
            replace BB := bstep BB bq
            clear bq
            go_wp2_with fail
            go_ret
            exact ⟨by simp, BB⟩
        ·
          have hce2 : ¬ (cap : Int) = (j : Int) := by omega
          have r0 := Tr 0 _ rfl
          have r1 := Tr 1 _ rfl
          have r2 := Tr 2 _ rfl
          have r3 := Tr 3 _ rfl
          have r4 := Tr 4 _ rfl
          have c0 := Tc 0 _ rfl
          have c1 := Tc 1 _ rfl
          have c2 := Tc 2 _ rfl
          have c3 := Tc 3 _ rfl
          have c4 := Tc 4 _ rfl
          go_wp2_with fail
          go_region_law (first
            | (refine step_append_rest rfl (.tmp 113) (.tmp 116) 26 rfl w3.heap.size 40 i0 _ 4 32 Try.underlying26 hi hz0 hz1 hz2 rfl (by decide) (.slice (some ⟨w3.heap.size, 0, none⟩) 0 0) 0 [] (by rfl) (World.ownsRow_made w3 #[] 0 (Nat.le_refl _) (by decide) rfl) (some ⟨b, off, none⟩) i cap (flat (l.take i)) (by rfl) (by rw [flat_len, List.length_take, ← hn.out, Nat.min_eq_left (by omega)]) (.inr ⟨_, _, rfl, fun j u hj => old1 (CT2.out j u hj) _⟩) (flat_one _) (by unfold maxLen; omega) (by omega) (by simp) ?_; intro v4 w4 hown4 hgrow4)
            | (refine step_append_rest rfl (.tmp 117) (.tmp 121) 26 rfl w3.heap.size 40 i0 _ 4 32 Try.underlying26 hi hz0 hz1 hz2 rfl (by decide) v4 (0 + i) _ (by rfl) hown4 (some ⟨b, off + j * 4, none⟩) (n - j) (cap - j) (flat (l.drop (i + 1))) (by rfl) (by rw [flat_len, List.length_drop, ← hn.out, ← HJ.out]) (.inr ⟨_, _, rfl, fun q u hq => (hgrow4.cell (p := ⟨b, off + j * 4 + q, none⟩) HB3).trans (old1 (by rw [HJ.out]; exact CD2.out q u hq) _)⟩) (flat_one _) (by unfold maxLen; omega) (by omega) (by have := hgrow4.size; simp at this; omega) ?_; intro v5 w5 hown5 hgrow5))
          have B5 := ((Below.drew (ball (Below.refl _ w3) _)).trans hgrow4).trans hgrow5
          obtain ⟨m5, hm5⟩ : ∃ m5, m5 = 0 + i + (n - j) := ⟨_, rfl⟩
          rw [← hm5] at hown5
          obtain ⟨a5, qq5, rfl, hl5, hn5, hcm5⟩ := owns_offers (ls := l.take i ++ l.drop (i + 1)) (by rw [flat_append]; simpa using hown5) (by have := HJ.out; rw [List.length_append, List.length_drop, List.length_take, ← hn.out, Nat.min_eq_left (by omega)]; omega)
          have HM5 := Lib.hid hm5
          clear hown5 hgrow4 hgrow5 hown4 hm5
          replace EL := Lib.hid (keep1 B5 EL.out)
          replace hl3 := hl3.keep B5; replace Tr := Tr.keep B5; replace Tc := Tc.keep B5
          replace BB := bstep BB B5
          clear B5 hl
          have el := EL.out
          obtain ⟨q, hq⟩ : ∃ q, (l.getD i default).p = q := ⟨_, rfl⟩
          rw [hq] at el
          have HQ := Lib.hid hq; clear hq
          clear r0 r1 r2 r3 r4 c0 c1 c2 c3 c4
          by_cases hqc : q = c.p
          ·
            have hqb : (q == c.p) = true := by simp [hqc]
            clear hqc
            have kel := cell_regrown el
            go_upto_region 26 with (fail)
            simp only [List.getElem_toArray, List.getElem_cons_succ, List.getElem_cons_zero, Act.put, List.setIfInBounds_toArray, List.set_cons_succ, List.set_cons_zero]
            have CH3 : ∀ w', Below w5.heap.size w5 w' → Calls Try.prog 18 #[r.v, .slice a3 n qq3] w' fun e w'' => e = .returned c.v ∧ Below w'.heap.size w' w'' := fun w' h =>
              choose_at r c n a3 qq3 (l.drop k ++ l.take k) w' (by rw [List.length_append, List.length_drop, List.length_take, ← hn.out, Nat.min_eq_left (by omega)]; omega) (hl3.keep h) (by rw [List.length_append, List.length_drop, List.length_take, ← hn.out, Nat.min_eq_left (by omega)]; unfold maxLen; omega) (by rw [choose_turned hv.out ho.out, HC.out])
            have r0 := Tr 0 _ rfl
            have kr0 := cell_regrown r0
            have r1 := Tr 1 _ rfl
            have kr1 := cell_regrown r1
            have r2 := Tr 2 _ rfl
            have kr2 := cell_regrown r2
            have r3 := Tr 3 _ rfl
            have kr3 := cell_regrown r3
            have r4 := Tr 4 _ rfl
            have kr4 := cell_regrown r4
            have c0 := Tc 0 _ rfl
            have kc0 := cell_regrown c0
            have c1 := Tc 1 _ rfl
            have kc1 := cell_regrown c1
            have c2 := Tc 2 _ rfl
            have kc2 := cell_regrown c2
            have c3 := Tc 3 _ rfl
            have kc3 := cell_regrown c3
            have c4 := Tc 4 _ rfl
            have kc4 := cell_regrown c4
            refine wp_region_quiet_below (by kernel_rfl) (by kernel_rfl) ?_
            repeat (go_big_quiet_step (first
              | (go_at_call 18; with_reducible exact rg_of CH3)))
            refine wpQuiet_nil ?_
            intro _ hw'
            obtain ⟨⟨dq, osq⟩, hw''⟩ := hw'
            subst hw''
            clear r0 kr0 r1 kr1 r2 kr2 r3 kr3 r4 kr4 c0 kc0 c1 kc1 c2 kc2 c3 kc3 c4 kc4
            have bq := below_regrown w5 dq osq
            obtain ⟨V7, hV7⟩ : ∃ V7, grow (redrawn w5 dq) osq = V7 := ⟨_, rfl⟩
            rw [hV7] at bq ⊢
            clear hV7 dq osq
            replace Tr := Tr.keep bq
            replace Tc := Tc.keep bq
            replace BB := bstep BB bq
            clear bq
            go_wp2_with fail
            go_ret
            exact ⟨by simp, BB⟩
          ·
            have hqb : (q == c.p) = false := by simp [hqc]
            have HQC := Lib.hid hqc; clear hqc
            have kel := cell_regrown el
            go_upto_region 26 with (fail)
            simp only [List.getElem_toArray, List.getElem_cons_succ, List.getElem_cons_zero, Act.put, List.setIfInBounds_toArray, List.set_cons_succ, List.set_cons_zero]
            have CH3 : ∀ w', Below w5.heap.size w5 w' → Calls Try.prog 18 #[r.v, .slice a3 n qq3] w' fun e w'' => e = .returned c.v ∧ Below w'.heap.size w' w'' := fun w' h =>
              choose_at r c n a3 qq3 (l.drop k ++ l.take k) w' (by rw [List.length_append, List.length_drop, List.length_take, ← hn.out, Nat.min_eq_left (by omega)]; omega) (hl3.keep h) (by rw [List.length_append, List.length_drop, List.length_take, ← hn.out, Nat.min_eq_left (by omega)]; unfold maxLen; omega) (by rw [choose_turned hv.out ho.out, HC.out])
            have CH5 : ∀ w', Below w5.heap.size w5 w' → Calls Try.prog 18 #[r.v, .slice a5 m5 qq5] w' fun e w'' => e = .returned c.v ∧ Below w'.heap.size w' w'' := fun w' h =>
              choose_at r c m5 a5 qq5 (l.take i ++ l.drop (i + 1)) w' (by have := HJ.out; have := HM5.out; rw [List.length_append, List.length_drop, List.length_take, ← hn.out, Nat.min_eq_left (by omega)]; omega) (hl5.keep h) (by have := HJ.out; rw [List.length_append, List.length_drop, List.length_take, ← hn.out, Nat.min_eq_left (by omega)]; unfold maxLen; omega) (by rw [choose_left hv.out ho.out (by rw [← hn.out]; exact hjk) (by rw [HC.out, HQ.out]; exact HQC.out), HC.out])
            have r0 := Tr 0 _ rfl
            have kr0 := cell_regrown r0
            have r1 := Tr 1 _ rfl
            have kr1 := cell_regrown r1
            have r2 := Tr 2 _ rfl
            have kr2 := cell_regrown r2
            have r3 := Tr 3 _ rfl
            have kr3 := cell_regrown r3
            have r4 := Tr 4 _ rfl
            have kr4 := cell_regrown r4
            have c0 := Tc 0 _ rfl
            have kc0 := cell_regrown c0
            have c1 := Tc 1 _ rfl
            have kc1 := cell_regrown c1
            have c2 := Tc 2 _ rfl
            have kc2 := cell_regrown c2
            have c3 := Tc 3 _ rfl
            have kc3 := cell_regrown c3
            have c4 := Tc 4 _ rfl
            have kc4 := cell_regrown c4
            refine wp_region_quiet_below (by kernel_rfl) (by kernel_rfl) ?_
            repeat (go_big_quiet_step (first
              | (go_at_call 18; with_reducible exact rg_of CH3)
              | (go_at_call 18; with_reducible exact rg_of CH5)))
            refine wpQuiet_nil ?_
            intro _ hw'
            obtain ⟨⟨dq, osq⟩, hw''⟩ := hw'
            subst hw''
            clear r0 kr0 r1 kr1 r2 kr2 r3 kr3 r4 kr4 c0 kc0 c1 kc1 c2 kc2 c3 kc3 c4 kc4
            have bq := below_regrown w5 dq osq
            obtain ⟨V7, hV7⟩ : ∃ V7, grow (redrawn w5 dq) osq = V7 := ⟨_, rfl⟩
            rw [hV7] at bq ⊢
            clear hV7 dq osq
            replace Tr := Tr.keep bq
            replace Tc := Tc.keep bq
            replace BB := bstep BB bq
            clear bq
            go_wp2_with fail
            go_ret
            exact ⟨by simp, BB⟩
theorem lawChoice (r : Rt) (t u : Int) (ht : 0 ≤ t) (ht2 : t ≤ 255) (hu : 0 ≤ u) (hu2 : u ≤ 255) (a : Option Addr) (cap : Nat) (l : List Ofr) (w : World) (hl : OfAt w a l) (hm : l.length ≤ maxLen) (hnc : l.length ≤ cap) (hcm : cap ≤ maxLen) : Calls Try.prog 6 #[r.v, .slice a l.length cap, .int .u8 t, .int .u8 u] w (Yes true w) := by
  by_cases h80 : (80 : Int) < (l.length : Int)
  · exact choice_0 r t u ht ht2 hu hu2 _ a cap l w (Lib.hid rfl) hl (Lib.hid hm) hnc hcm h80
  cases hv : validR r
  · exact choice_1 r t u ht ht2 hu hu2 _ a cap l w (Lib.hid rfl) hl (Lib.hid hm) hnc hcm h80 (Lib.hid hv)
  cases ho : offsB l
  · exact choice_2 r t u ht ht2 hu hu2 _ a cap l w (Lib.hid rfl) hl (Lib.hid hm) hnc hcm h80 (Lib.hid hv) (Lib.hid ho)
  cases h0 : ((l.length : Int) == 0)
  · exact choice_4 r t u ht ht2 hu hu2 _ a cap l w (Lib.hid rfl) hl (Lib.hid hm) hnc hcm h80 (Lib.hid hv) (Lib.hid ho) h0 _ (Lib.hid rfl)
  · exact choice_3 r t u ht ht2 hu hu2 _ a cap l w (Lib.hid rfl) hl (Lib.hid hm) hnc hcm h80 (Lib.hid hv) (Lib.hid ho) h0
end Go.Proofs.Ytbonchnhngaicaa
