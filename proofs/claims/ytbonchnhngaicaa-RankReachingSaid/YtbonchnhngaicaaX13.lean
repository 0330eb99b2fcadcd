/- Proved: that the law RankDownhill of the statements returns true for every input. Conditions: the list lies in memory. -/
import Derived.Test.YtbonchnhngaicaaX12
namespace Go.Proofs.Ytbonchnhngaicaa
open Go.RowKit Go.Sort Go.BigFrame
set_option linter.unusedVariables false
set_option linter.unusedSimpArgs false
attribute [local go_sem] cell_alloc_old
attribute [local go_sem ↓] Go.wp_at_zero Go.wp_at_succ

set_option maxRecDepth 100000 in
set_option maxHeartbeats 1000000 in
theorem downhill_0 (r : Rt) (d : Ds) (n : Nat) (a : Option Addr) (cap : Nat) (l : List Ofr) (w : World) (hn : Hid (n = l.length)) (hl : OfAt w a l) (hm : Hid (l.length ≤ maxLen)) (h80 : (80 : Int) < n) : Calls Try.prog 7 #[r.v, .slice a n cap, d.v] w (Yes true w) := by
  go_enter Try.func7, Try.ntmps7
  go_wp2_with fail
  have Tr := CAt.new (w) [.int .i64 r.o.s, .int .i64 r.o.r, .int .i64 r.l.s, .int .i64 r.l.r, .int .i64 r.p] 25
  replace hl := hl.keep (Below.alloc (Below.refl _ (w)) (Nat.le_refl _) (.cells #[.int .i64 r.o.s, .int .i64 r.o.r, .int .i64 r.l.s, .int .i64 r.l.r, .int .i64 r.p] 25))
  have BB : Below w.heap.size w ((w).alloc (.cells #[.int .i64 r.o.s, .int .i64 r.o.r, .int .i64 r.l.s, .int .i64 r.l.r, .int .i64 r.p] 25)) := ball (Below.refl _ _) _
  have Td := CAt.new (w.alloc (.cells #[.int .i64 r.o.s, .int .i64 r.o.r, .int .i64 r.l.s, .int .i64 r.l.r, .int .i64 r.p] 25)) [.int .i64 d.s, .int .i64 d.r] 23
  replace Tr := Tr.alloc (.cells #[.int .i64 d.s, .int .i64 d.r] 23)
  replace hl := hl.keep (Below.alloc (Below.refl _ (w.alloc (.cells #[.int .i64 r.o.s, .int .i64 r.o.r, .int .i64 r.l.s, .int .i64 r.l.r, .int .i64 r.p] 25))) (Nat.le_refl _) (.cells #[.int .i64 d.s, .int .i64 d.r] 23))
  replace BB := ball BB (.cells #[.int .i64 d.s, .int .i64 d.r] 23)
  simp only [World.size_alloc, Nat.add_assoc, Nat.reduceAdd] at Td
  obtain ⟨V1, hV1⟩ : ∃ V1, (w.alloc (.cells #[.int .i64 r.o.s, .int .i64 r.o.r, .int .i64 r.l.s, .int .i64 r.l.r, .int .i64 r.p] 25)).alloc (.cells #[.int .i64 d.s, .int .i64 d.r] 23) = V1 := ⟨_, rfl⟩
  rw [hV1] at BB Tr Td hl ⊢
  clear hV1
  refine (head_any V1).mono ?_
  rintro e w2 ⟨rfl, b2⟩
  replace Tr := Tr.keep b2
  replace Td := Td.keep b2
  replace hl := hl.keep b2
  replace BB := bstep BB b2
  clear b2
  have r0 := Tr 0 _ rfl
  have r1 := Tr 1 _ rfl
  have r2 := Tr 2 _ rfl
  have r3 := Tr 3 _ rfl
  have r4 := Tr 4 _ rfl
  have d0 := Td 0 _ rfl
  have d1 := Td 1 _ rfl
  go_wp2_with fail
  go_ret
  exact ⟨rfl, BB⟩
set_option maxRecDepth 100000 in
set_option maxHeartbeats 1000000 in
theorem downhill_1 (r : Rt) (d : Ds) (n : Nat) (a : Option Addr) (cap : Nat) (l : List Ofr) (w : World) (hn : Hid (n = l.length)) (hl : OfAt w a l) (hm : Hid (l.length ≤ maxLen)) (h80 : ¬ (80 : Int) < n) (hv : Hid (validR r = false)) : Calls Try.prog 7 #[r.v, .slice a n cap, d.v] w (Yes true w) := by
  go_enter Try.func7, Try.ntmps7
  go_wp2_with fail
  have Tr := CAt.new (w) [.int .i64 r.o.s, .int .i64 r.o.r, .int .i64 r.l.s, .int .i64 r.l.r, .int .i64 r.p] 25
  replace hl := hl.keep (Below.alloc (Below.refl _ (w)) (Nat.le_refl _) (.cells #[.int .i64 r.o.s, .int .i64 r.o.r, .int .i64 r.l.s, .int .i64 r.l.r, .int .i64 r.p] 25))
  have BB : Below w.heap.size w ((w).alloc (.cells #[.int .i64 r.o.s, .int .i64 r.o.r, .int .i64 r.l.s, .int .i64 r.l.r, .int .i64 r.p] 25)) := ball (Below.refl _ _) _
  have Td := CAt.new (w.alloc (.cells #[.int .i64 r.o.s, .int .i64 r.o.r, .int .i64 r.l.s, .int .i64 r.l.r, .int .i64 r.p] 25)) [.int .i64 d.s, .int .i64 d.r] 23
  replace Tr := Tr.alloc (.cells #[.int .i64 d.s, .int .i64 d.r] 23)
  replace hl := hl.keep (Below.alloc (Below.refl _ (w.alloc (.cells #[.int .i64 r.o.s, .int .i64 r.o.r, .int .i64 r.l.s, .int .i64 r.l.r, .int .i64 r.p] 25))) (Nat.le_refl _) (.cells #[.int .i64 d.s, .int .i64 d.r] 23))
  replace BB := ball BB (.cells #[.int .i64 d.s, .int .i64 d.r] 23)
  simp only [World.size_alloc, Nat.add_assoc, Nat.reduceAdd] at Td
  obtain ⟨V1, hV1⟩ : ∃ V1, (w.alloc (.cells #[.int .i64 r.o.s, .int .i64 r.o.r, .int .i64 r.l.s, .int .i64 r.l.r, .int .i64 r.p] 25)).alloc (.cells #[.int .i64 d.s, .int .i64 d.r] 23) = V1 := ⟨_, rfl⟩
  rw [hV1] at BB Tr Td hl ⊢
  clear hV1
  refine (head_any V1).mono ?_
  rintro e w2 ⟨rfl, b2⟩
  replace Tr := Tr.keep b2
  replace Td := Td.keep b2
  replace hl := hl.keep b2
  replace BB := bstep BB b2
  clear b2
  have r0 := Tr 0 _ rfl
  have r1 := Tr 1 _ rfl
  have r2 := Tr 2 _ rfl
  have r3 := Tr 3 _ rfl
  have r4 := Tr 4 _ rfl
  have d0 := Td 0 _ rfl
  have d1 := Td 1 _ rfl
  go_wp2_with fail
  refine (rvalid_at r _ _ hv.out).mono ?_
  clear r0 r1 r2 r3 r4 d0 d1
  rintro e w3 ⟨rfl, b3⟩
  replace Tr := Tr.keep b3
  replace Td := Td.keep b3
  replace hl := hl.keep b3
  replace BB := bstep BB b3
  clear b3
  have r0 := Tr 0 _ rfl
  have r1 := Tr 1 _ rfl
  have r2 := Tr 2 _ rfl
  have r3 := Tr 3 _ rfl
  have r4 := Tr 4 _ rfl
  have d0 := Td 0 _ rfl
  have d1 := Td 1 _ rfl
  go_wp2_with fail
  go_ret
  exact ⟨rfl, BB⟩
set_option maxRecDepth 100000 in
set_option maxHeartbeats 1000000 in
theorem downhill_2 (r : Rt) (d : Ds) (n : Nat) (a : Option Addr) (cap : Nat) (l : List Ofr) (w : World) (hn : Hid (n = l.length)) (hl : OfAt w a l) (hm : Hid (l.length ≤ maxLen)) (h80 : ¬ (80 : Int) < n) (hv : Hid (validR r = true)) (ho : Hid (offsB l = false)) : Calls Try.prog 7 #[r.v, .slice a n cap, d.v] w (Yes true w) := by
  go_enter Try.func7, Try.ntmps7
  go_wp2_with fail
  have Tr := CAt.new (w) [.int .i64 r.o.s, .int .i64 r.o.r, .int .i64 r.l.s, .int .i64 r.l.r, .int .i64 r.p] 25
  replace hl := hl.keep (Below.alloc (Below.refl _ (w)) (Nat.le_refl _) (.cells #[.int .i64 r.o.s, .int .i64 r.o.r, .int .i64 r.l.s, .int .i64 r.l.r, .int .i64 r.p] 25))
  have BB : Below w.heap.size w ((w).alloc (.cells #[.int .i64 r.o.s, .int .i64 r.o.r, .int .i64 r.l.s, .int .i64 r.l.r, .int .i64 r.p] 25)) := ball (Below.refl _ _) _
  have Td := CAt.new (w.alloc (.cells #[.int .i64 r.o.s, .int .i64 r.o.r, .int .i64 r.l.s, .int .i64 r.l.r, .int .i64 r.p] 25)) [.int .i64 d.s, .int .i64 d.r] 23
  replace Tr := Tr.alloc (.cells #[.int .i64 d.s, .int .i64 d.r] 23)
  replace hl := hl.keep (Below.alloc (Below.refl _ (w.alloc (.cells #[.int .i64 r.o.s, .int .i64 r.o.r, .int .i64 r.l.s, .int .i64 r.l.r, .int .i64 r.p] 25))) (Nat.le_refl _) (.cells #[.int .i64 d.s, .int .i64 d.r] 23))
  replace BB := ball BB (.cells #[.int .i64 d.s, .int .i64 d.r] 23)
  simp only [World.size_alloc, Nat.add_assoc, Nat.reduceAdd] at Td
  obtain ⟨V1, hV1⟩ : ∃ V1, (w.alloc (.cells #[.int .i64 r.o.s, .int .i64 r.o.r, .int .i64 r.l.s, .int .i64 r.l.r, .int .i64 r.p] 25)).alloc (.cells #[.int .i64 d.s, .int .i64 d.r] 23) = V1 := ⟨_, rfl⟩
  rw [hV1] at BB Tr Td hl ⊢
  clear hV1
  refine (head_any V1).mono ?_
  rintro e w2 ⟨rfl, b2⟩
  replace Tr := Tr.keep b2
  replace Td := Td.keep b2
  replace hl := hl.keep b2
  replace BB := bstep BB b2
  clear b2
  have r0 := Tr 0 _ rfl
  have r1 := Tr 1 _ rfl
  have r2 := Tr 2 _ rfl
  have r3 := Tr 3 _ rfl
  have r4 := Tr 4 _ rfl
  have d0 := Td 0 _ rfl
  have d1 := Td 1 _ rfl
  go_wp2_with fail
  refine (rvalid_at r _ _ hv.out).mono ?_
  clear r0 r1 r2 r3 r4 d0 d1
  rintro e w3 ⟨rfl, b3⟩
  replace Tr := Tr.keep b3
  replace Td := Td.keep b3
  replace hl := hl.keep b3
  replace BB := bstep BB b3
  clear b3
  have r0 := Tr 0 _ rfl
  have r1 := Tr 1 _ rfl
  have r2 := Tr 2 _ rfl
  have r3 := Tr 3 _ rfl
  have r4 := Tr 4 _ rfl
  have d0 := Td 0 _ rfl
  have d1 := Td 1 _ rfl
  go_wp2_with fail
  refine (roffers_at n a cap l false _ hn.out hl hm.out ho.out).mono ?_
  clear r0 r1 r2 r3 r4 d0 d1
  rintro e w4 ⟨rfl, b4⟩
  replace Tr := Tr.keep b4
  replace Td := Td.keep b4
  replace hl := hl.keep b4
  replace BB := bstep BB b4
  clear b4
  have r0 := Tr 0 _ rfl
  have r1 := Tr 1 _ rfl
  have r2 := Tr 2 _ rfl
  have r3 := Tr 3 _ rfl
  have r4 := Tr 4 _ rfl
  have d0 := Td 0 _ rfl
  have d1 := Td 1 _ rfl
  go_wp2_with fail
  go_ret
  exact ⟨rfl, BB⟩
set_option maxRecDepth 100000 in
set_option maxHeartbeats 1000000 in
theorem downhill_3 (r : Rt) (d : Ds) (n : Nat) (a : Option Addr) (cap : Nat) (l : List Ofr) (w : World) (hn : Hid (n = l.length)) (hl : OfAt w a l) (hm : Hid (l.length ≤ maxLen)) (h80 : ¬ (80 : Int) < n) (hv : Hid (validR r = true)) (ho : Hid (offsB l = true)) (c : Rt) (HC : Hid (chooseV r l = c)) : Calls Try.prog 7 #[r.v, .slice a n cap, d.v] w (Yes true w) := by
  go_enter Try.func7, Try.ntmps7
  go_wp2_with fail
  have Tr := CAt.new (w) [.int .i64 r.o.s, .int .i64 r.o.r, .int .i64 r.l.s, .int .i64 r.l.r, .int .i64 r.p] 25
  replace hl := hl.keep (Below.alloc (Below.refl _ (w)) (Nat.le_refl _) (.cells #[.int .i64 r.o.s, .int .i64 r.o.r, .int .i64 r.l.s, .int .i64 r.l.r, .int .i64 r.p] 25))
  have BB : Below w.heap.size w ((w).alloc (.cells #[.int .i64 r.o.s, .int .i64 r.o.r, .int .i64 r.l.s, .int .i64 r.l.r, .int .i64 r.p] 25)) := ball (Below.refl _ _) _
  have Td := CAt.new (w.alloc (.cells #[.int .i64 r.o.s, .int .i64 r.o.r, .int .i64 r.l.s, .int .i64 r.l.r, .int .i64 r.p] 25)) [.int .i64 d.s, .int .i64 d.r] 23
  replace Tr := Tr.alloc (.cells #[.int .i64 d.s, .int .i64 d.r] 23)
  replace hl := hl.keep (Below.alloc (Below.refl _ (w.alloc (.cells #[.int .i64 r.o.s, .int .i64 r.o.r, .int .i64 r.l.s, .int .i64 r.l.r, .int .i64 r.p] 25))) (Nat.le_refl _) (.cells #[.int .i64 d.s, .int .i64 d.r] 23))
  replace BB := ball BB (.cells #[.int .i64 d.s, .int .i64 d.r] 23)
  simp only [World.size_alloc, Nat.add_assoc, Nat.reduceAdd] at Td
  obtain ⟨V1, hV1⟩ : ∃ V1, (w.alloc (.cells #[.int .i64 r.o.s, .int .i64 r.o.r, .int .i64 r.l.s, .int .i64 r.l.r, .int .i64 r.p] 25)).alloc (.cells #[.int .i64 d.s, .int .i64 d.r] 23) = V1 := ⟨_, rfl⟩
  rw [hV1] at BB Tr Td hl ⊢
  clear hV1
  refine (head_any V1).mono ?_
  rintro e w2 ⟨rfl, b2⟩
  replace Tr := Tr.keep b2
  replace Td := Td.keep b2
  replace hl := hl.keep b2
  replace BB := bstep BB b2
  clear b2
  have r0 := Tr 0 _ rfl
  have r1 := Tr 1 _ rfl
  have r2 := Tr 2 _ rfl
  have r3 := Tr 3 _ rfl
  have r4 := Tr 4 _ rfl
  have d0 := Td 0 _ rfl
  have d1 := Td 1 _ rfl
  go_wp2_with fail
  refine (rvalid_at r _ _ hv.out).mono ?_
  clear r0 r1 r2 r3 r4 d0 d1
  rintro e w3 ⟨rfl, b3⟩
  replace Tr := Tr.keep b3
  replace Td := Td.keep b3
  replace hl := hl.keep b3
  replace BB := bstep BB b3
  clear b3
  have r0 := Tr 0 _ rfl
  have r1 := Tr 1 _ rfl
  have r2 := Tr 2 _ rfl
  have r3 := Tr 3 _ rfl
  have r4 := Tr 4 _ rfl
  have d0 := Td 0 _ rfl
  have d1 := Td 1 _ rfl
  go_wp2_with fail
  refine (roffers_at n a cap l true _ hn.out hl hm.out ho.out).mono ?_
  clear r0 r1 r2 r3 r4 d0 d1
  rintro e w4 ⟨rfl, b4⟩
  replace Tr := Tr.keep b4
  replace Td := Td.keep b4
  replace hl := hl.keep b4
  replace BB := bstep BB b4
  clear b4
  have r0 := Tr 0 _ rfl
  have r1 := Tr 1 _ rfl
  have r2 := Tr 2 _ rfl
  have r3 := Tr 3 _ rfl
  have r4 := Tr 4 _ rfl
  have d0 := Td 0 _ rfl
  have d1 := Td 1 _ rfl
  go_wp2_with fail
  refine (choose_at r c n a cap l _ hn.out hl hm.out HC.out).mono ?_
  clear r0 r1 r2 r3 r4 d0 d1
  rintro e w5 ⟨rfl, b5⟩
  replace Tr := Tr.keep b5
  replace Td := Td.keep b5
  replace hl := hl.keep b5
  replace BB := bstep BB b5
  clear b5
  go_wp2_with fail
  have bs6 : w.heap.size ≤ w5.heap.size := BB.size
  have lt6r : w.heap.size < w5.heap.size := World.block_lt_of_cell? w5 ⟨w.heap.size, 0, none⟩ (Tr 0 _ rfl)
  have lt6d : w.heap.size + 1 < w5.heap.size := World.block_lt_of_cell? w5 ⟨w.heap.size + 1, 0, none⟩ (Td 0 _ rfl)
  have Tc := CAt.new (w5) [.int .i64 c.o.s, .int .i64 c.o.r, .int .i64 c.l.s, .int .i64 c.l.r, .int .i64 c.p] 25
  replace Tr := Tr.alloc (.cells #[.int .i64 c.o.s, .int .i64 c.o.r, .int .i64 c.l.s, .int .i64 c.l.r, .int .i64 c.p] 25)
  replace Td := Td.alloc (.cells #[.int .i64 c.o.s, .int .i64 c.o.r, .int .i64 c.l.s, .int .i64 c.l.r, .int .i64 c.p] 25)
  replace hl := hl.keep (Below.alloc (Below.refl _ (w5)) (Nat.le_refl _) (.cells #[.int .i64 c.o.s, .int .i64 c.o.r, .int .i64 c.l.s, .int .i64 c.l.r, .int .i64 c.p] 25))
  replace BB := ball BB (.cells #[.int .i64 c.o.s, .int .i64 c.o.r, .int .i64 c.l.s, .int .i64 c.l.r, .int .i64 c.p] 25)
  obtain ⟨V6, hV6⟩ : ∃ V6, w5.alloc (.cells #[.int .i64 c.o.s, .int .i64 c.o.r, .int .i64 c.l.s, .int .i64 c.l.r, .int .i64 c.p] 25) = V6 := ⟨_, rfl⟩
  rw [hV6] at BB Tr Td Tc hl ⊢
  clear hV6
  obtain ⟨k6, hk6⟩ : ∃ k6, w5.heap.size = k6 := ⟨_, rfl⟩
  rw [hk6] at Tc bs6 lt6r lt6d ⊢
  clear hk6
  go_wp2_with fail
  go_loopw [31] (fun i wr => ∃ k : Nat, k ≤ n ∧ i = .int .i64 k ∧ Below w.heap.size w wr ∧ CAt wr w.heap.size [.int .i64 r.o.s, .int .i64 r.o.r, .int .i64 r.l.s, .int .i64 r.l.r, .int .i64 r.p] ∧ CAt wr (w.heap.size + 1) [.int .i64 d.s, .int .i64 d.r] ∧ CAt wr k6 [.int .i64 c.o.s, .int .i64 c.o.r, .int .i64 c.l.s, .int .i64 c.l.r, .int .i64 c.p] ∧ OfAt wr a l) (fun i _ => n - (intOf i).toNat)
  case atStart => exact ⟨0, Nat.zero_le _, rfl, BB, Tr, Td, Tc, hl⟩
  case round =>
    clear BB Tr Td Tc hl
    obtain ⟨k, hk, rfl, BB, Tr, Td, Tc, hl⟩ := hrel
    by_cases hlt : k < n
    ·
      have hlt' : (k : Int) < (n : Int) := by omega
      have hk0 : (0 : Int) ≤ (k : Int) := by omega
      obtain ⟨b, off, rfl, hc⟩ := hl.at (i := k) (by rw [← hn.out]; exact hlt)
      obtain ⟨c0, c1, c2, c3⟩ := hc k (by rw [← hn.out]; exact hlt)
      have hxm : l.getD k default ∈ l := by
        rw [List.getD_eq_getElem?_getD, List.getElem?_eq_getElem (by rw [← hn.out]; exact hlt)]; exact List.getElem_mem _
      obtain ⟨x, hx⟩ : ∃ x, l.getD k default = x := ⟨_, rfl⟩
      rw [hx] at c0 c1 c2 c3 hxm
      have HXM := Lib.hid hxm
      clear hx hxm hc
      have r0 := Tr 0 _ rfl
      have r1 := Tr 1 _ rfl
      have r2 := Tr 2 _ rfl
      have r3 := Tr 3 _ rfl
      have r4 := Tr 4 _ rfl
      have d0 := Td 0 _ rfl
      have d1 := Td 1 _ rfl
      have c0 := Tc 0 _ rfl
      have c1 := Tc 1 _ rfl
      have c2 := Tc 2 _ rfl
      have c3 := Tc 3 _ rfl
      have c4 := Tc 4 _ rfl
      go_upto_region 8 with (fail)
      clear r0 r1 r2 r3 r4 d0 d1 c0 c1 c2 c3 c4
      have bs7 : w.heap.size ≤ wr.heap.size := BB.size
      have lt7r : w.heap.size < wr.heap.size := World.block_lt_of_cell? wr ⟨w.heap.size, 0, none⟩ (Tr 0 _ rfl)
      have lt7d : w.heap.size + 1 < wr.heap.size := World.block_lt_of_cell? wr ⟨w.heap.size + 1, 0, none⟩ (Td 0 _ rfl)
      have lt7c : k6 < wr.heap.size := World.block_lt_of_cell? wr ⟨k6, 0, none⟩ (Tc 0 _ rfl)
      have Tx := CAt.new (wr) [.int .i64 x.p, .int .i64 x.t.s, .int .i64 x.t.r, .int .i64 x.c] 40
      replace Tr := Tr.alloc (.cells #[.int .i64 x.p, .int .i64 x.t.s, .int .i64 x.t.r, .int .i64 x.c] 40)
      replace Td := Td.alloc (.cells #[.int .i64 x.p, .int .i64 x.t.s, .int .i64 x.t.r, .int .i64 x.c] 40)
      replace Tc := Tc.alloc (.cells #[.int .i64 x.p, .int .i64 x.t.s, .int .i64 x.t.r, .int .i64 x.c] 40)
      replace hl := hl.keep (Below.alloc (Below.refl _ (wr)) (Nat.le_refl _) (.cells #[.int .i64 x.p, .int .i64 x.t.s, .int .i64 x.t.r, .int .i64 x.c] 40))
      replace BB := ball BB (.cells #[.int .i64 x.p, .int .i64 x.t.s, .int .i64 x.t.r, .int .i64 x.c] 40)
      obtain ⟨V7, hV7⟩ : ∃ V7, wr.alloc (.cells #[.int .i64 x.p, .int .i64 x.t.s, .int .i64 x.t.r, .int .i64 x.c] 40) = V7 := ⟨_, rfl⟩
      rw [hV7] at BB Tr Td Tc Tx hl ⊢
      clear hV7
      obtain ⟨k7, hk7⟩ : ∃ k7, wr.heap.size = k7 := ⟨_, rfl⟩
      rw [hk7] at Tx bs7 lt7r lt7d lt7c ⊢
      clear hk7
      clear c0 c1 c2 c3
      by_cases he : x.p = c.p
      ·
        have heb : (x.p == c.p) = true := by simp [he]
        have HE := Lib.hid he; clear he
        have r0 := Tr 0 _ rfl
        have r1 := Tr 1 _ rfl
        have r2 := Tr 2 _ rfl
        have r3 := Tr 3 _ rfl
        have r4 := Tr 4 _ rfl
        have d0 := Td 0 _ rfl
        have d1 := Td 1 _ rfl
        have c0 := Tc 0 _ rfl
        have c1 := Tc 1 _ rfl
        have c2 := Tc 2 _ rfl
        have c3 := Tc 3 _ rfl
        have c4 := Tc 4 _ rfl
        have x0 := Tx 0 _ rfl
        have x1 := Tx 1 _ rfl
        have x2 := Tx 2 _ rfl
        have x3 := Tx 3 _ rfl
        cases hy : betterB x.t d
        ·
          have HY := Lib.hid hy; clear hy
          go_wp2_with fail
          refine (better_at x.t d false _ HY.out).mono ?_
          clear r0 r1 r2 r3 r4 d0 d1 c0 c1 c2 c3 c4 x0 x1 x2 x3
          rintro e w8 ⟨rfl, b8⟩
          replace Tr := Tr.keep b8
          replace Td := Td.keep b8
          replace Tc := Tc.keep b8
          replace Tx := Tx.keep b8
          replace hl := hl.keep b8
          replace BB := bstep BB b8
          clear b8
          have r0 := Tr 0 _ rfl
          have r1 := Tr 1 _ rfl
          have r2 := Tr 2 _ rfl
          have r3 := Tr 3 _ rfl
          have r4 := Tr 4 _ rfl
          have d0 := Td 0 _ rfl
          have d1 := Td 1 _ rfl
          have c0 := Tc 0 _ rfl
          have c1 := Tc 1 _ rfl
          have c2 := Tc 2 _ rfl
          have c3 := Tc 3 _ rfl
          have c4 := Tc 4 _ rfl
          have x0 := Tx 0 _ rfl
          have x1 := Tx 1 _ rfl
          have x2 := Tx 2 _ rfl
          have x3 := Tx 3 _ rfl
          by_cases hq : x.p = r.p
          ·
            have hqb : (x.p == r.p) = true := by simp [hq]
            have hqn : (x.p != r.p) = false := by simp [hq]
            cases hy2 : betterB d r.l
            ·
              have HY2 := Lib.hid hy2; clear hy2
              go_wp2_with fail
              refine (better_at d r.l false _ HY2.out).mono ?_
              clear r0 r1 r2 r3 r4 d0 d1 c0 c1 c2 c3 c4 x0 x1 x2 x3
              rintro e w9 ⟨rfl, b9⟩
              replace Tr := Tr.keep b9
              replace Td := Td.keep b9
              replace Tc := Tc.keep b9
              replace Tx := Tx.keep b9
              replace hl := hl.keep b9
              replace BB := bstep BB b9
              clear b9
              have r0 := Tr 0 _ rfl
              have r1 := Tr 1 _ rfl
              have r2 := Tr 2 _ rfl
              have r3 := Tr 3 _ rfl
              have r4 := Tr 4 _ rfl
              have d0 := Td 0 _ rfl
              have d1 := Td 1 _ rfl
              have c0 := Tc 0 _ rfl
              have c1 := Tc 1 _ rfl
              have c2 := Tc 2 _ rfl
              have c3 := Tc 3 _ rfl
              have c4 := Tc 4 _ rfl
              have x0 := Tx 0 _ rfl
              have x1 := Tx 1 _ rfl
              have x2 := Tx 2 _ rfl
              have x3 := Tx 3 _ rfl
              go_wp2_with fail
              go_roundw
              case rel => exact ⟨k + 1, by omega, by go_num, BB, Tr, Td, Tc, hl⟩
              case measure => simp [intOf]; omega
            ·
              have HY2 := Lib.hid hy2; clear hy2
              go_wp2_with fail
              refine (better_at d r.l true _ HY2.out).mono ?_
              clear r0 r1 r2 r3 r4 d0 d1 c0 c1 c2 c3 c4 x0 x1 x2 x3
              rintro e w9 ⟨rfl, b9⟩
              replace Tr := Tr.keep b9
              replace Td := Td.keep b9
              replace Tc := Tc.keep b9
              replace Tx := Tx.keep b9
              replace hl := hl.keep b9
              replace BB := bstep BB b9
              clear b9
              have r0 := Tr 0 _ rfl
              have r1 := Tr 1 _ rfl
              have r2 := Tr 2 _ rfl
              have r3 := Tr 3 _ rfl
              have r4 := Tr 4 _ rfl
              have d0 := Td 0 _ rfl
              have d1 := Td 1 _ rfl
              have c0 := Tc 0 _ rfl
              have c1 := Tc 1 _ rfl
              have c2 := Tc 2 _ rfl
              have c3 := Tc 3 _ rfl
              have c4 := Tc 4 _ rfl
              have x0 := Tx 0 _ rfl
              have x1 := Tx 1 _ rfl
              have x2 := Tx 2 _ rfl
              have x3 := Tx 3 _ rfl
              go_wp2_with fail
              refine (better_at d c.l true _ (by have := downhill hv.out ho.out HXM.out (by rw [HC.out]; exact HE.out) HY.out (.inr HY2.out); rwa [HC.out] at this)).mono ?_
              clear r0 r1 r2 r3 r4 d0 d1 c0 c1 c2 c3 c4 x0 x1 x2 x3
              rintro e w10 ⟨rfl, b10⟩
              replace Tr := Tr.keep b10
              replace Td := Td.keep b10
              replace Tc := Tc.keep b10
              replace Tx := Tx.keep b10
              replace hl := hl.keep b10
              replace BB := bstep BB b10
              clear b10
              have r0 := Tr 0 _ rfl
              have r1 := Tr 1 _ rfl
              have r2 := Tr 2 _ rfl
              have r3 := Tr 3 _ rfl
              have r4 := Tr 4 _ rfl
              have d0 := Td 0 _ rfl
              have d1 := Td 1 _ rfl
              have c0 := Tc 0 _ rfl
              have c1 := Tc 1 _ rfl
              have c2 := Tc 2 _ rfl
              have c3 := Tc 3 _ rfl
              have c4 := Tc 4 _ rfl
              have x0 := Tx 0 _ rfl
              have x1 := Tx 1 _ rfl
              have x2 := Tx 2 _ rfl
              have x3 := Tx 3 _ rfl
              go_wp2_with fail
              go_roundw
              case rel => exact ⟨k + 1, by omega, by go_num, BB, Tr, Td, Tc, hl⟩
              case measure => simp [intOf]; omega
          ·
            have hqb : (x.p == r.p) = false := by simp [hq]
            have hqn : (x.p != r.p) = true := by simp [hq]
            have HQ := Lib.hid hq; clear hq
            go_wp2_with fail
            refine (better_at d c.l true _ (by have := downhill hv.out ho.out HXM.out (by rw [HC.out]; exact HE.out) HY.out (.inl HQ.out); rwa [HC.out] at this)).mono ?_
            clear r0 r1 r2 r3 r4 d0 d1 c0 c1 c2 c3 c4 x0 x1 x2 x3
            rintro e w9 ⟨rfl, b9⟩
            replace Tr := Tr.keep b9
            replace Td := Td.keep b9
            replace Tc := Tc.keep b9
            replace Tx := Tx.keep b9
            replace hl := hl.keep b9
            replace BB := bstep BB b9
            clear b9
            have r0 := Tr 0 _ rfl
            have r1 := Tr 1 _ rfl
            have r2 := Tr 2 _ rfl
            have r3 := Tr 3 _ rfl
            have r4 := Tr 4 _ rfl
            have d0 := Td 0 _ rfl
            have d1 := Td 1 _ rfl
            have c0 := Tc 0 _ rfl
            have c1 := Tc 1 _ rfl
            have c2 := Tc 2 _ rfl
            have c3 := Tc 3 _ rfl
            have c4 := Tc 4 _ rfl
            have x0 := Tx 0 _ rfl
            have x1 := Tx 1 _ rfl
            have x2 := Tx 2 _ rfl
            have x3 := Tx 3 _ rfl
            go_wp2_with fail
            go_roundw
            case rel => exact ⟨k + 1, by omega, by go_num, BB, Tr, Td, Tc, hl⟩
            case measure => simp [intOf]; omega
        ·
          have HY := Lib.hid hy; clear hy
          go_wp2_with fail
          refine (better_at x.t d true _ HY.out).mono ?_
          clear r0 r1 r2 r3 r4 d0 d1 c0 c1 c2 c3 c4 x0 x1 x2 x3
          rintro e w8 ⟨rfl, b8⟩
          replace Tr := Tr.keep b8
          replace Td := Td.keep b8
          replace Tc := Tc.keep b8
          replace Tx := Tx.keep b8
          replace hl := hl.keep b8
          replace BB := bstep BB b8
          clear b8
          have r0 := Tr 0 _ rfl
          have r1 := Tr 1 _ rfl
          have r2 := Tr 2 _ rfl
          have r3 := Tr 3 _ rfl
          have r4 := Tr 4 _ rfl
          have d0 := Td 0 _ rfl
          have d1 := Td 1 _ rfl
          have c0 := Tc 0 _ rfl
          have c1 := Tc 1 _ rfl
          have c2 := Tc 2 _ rfl
          have c3 := Tc 3 _ rfl
          have c4 := Tc 4 _ rfl
          have x0 := Tx 0 _ rfl
          have x1 := Tx 1 _ rfl
          have x2 := Tx 2 _ rfl
          have x3 := Tx 3 _ rfl
          go_wp2_with fail
          go_roundw
          case rel => exact ⟨k + 1, by omega, by go_num, BB, Tr, Td, Tc, hl⟩
          case measure => simp [intOf]; omega
      ·
        have heb : (x.p == c.p) = false := by simp [he]
        clear he
        have r0 := Tr 0 _ rfl
        have r1 := Tr 1 _ rfl
        have r2 := Tr 2 _ rfl
        have r3 := Tr 3 _ rfl
        have r4 := Tr 4 _ rfl
        have d0 := Td 0 _ rfl
        have d1 := Td 1 _ rfl
        have c0 := Tc 0 _ rfl
        have c1 := Tc 1 _ rfl
        have c2 := Tc 2 _ rfl
        have c3 := Tc 3 _ rfl
        have c4 := Tc 4 _ rfl
        have x0 := Tx 0 _ rfl
        have x1 := Tx 1 _ rfl
        have x2 := Tx 2 _ rfl
        have x3 := Tx 3 _ rfl
        go_wp2_with fail
        go_roundw
        case rel => exact ⟨k + 1, by omega, by go_num, BB, Tr, Td, Tc, hl⟩
        case measure => simp [intOf]; omega
    ·
      have hkn : n = k := by omega
      subst hkn
      go_wp2_with fail
      go_ret
      exact ⟨rfl, BB⟩
theorem lawDownhill (r : Rt) (d : Ds) (a : Option Addr) (cap : Nat) (l : List Ofr) (w : World) (hl : OfAt w a l) (hm : l.length ≤ maxLen) : Calls Try.prog 7 #[r.v, .slice a l.length cap, d.v] w (Yes true w) := by
  by_cases h80 : (80 : Int) < (l.length : Int)
  · exact downhill_0 r d _ a cap l w (Lib.hid rfl) hl (Lib.hid hm) h80
  cases hv : validR r
  · exact downhill_1 r d _ a cap l w (Lib.hid rfl) hl (Lib.hid hm) h80 (Lib.hid hv)
  cases ho : offsB l
  · exact downhill_2 r d _ a cap l w (Lib.hid rfl) hl (Lib.hid hm) h80 (Lib.hid hv) (Lib.hid ho)
  exact downhill_3 r d _ a cap l w (Lib.hid rfl) hl (Lib.hid hm) h80 (Lib.hid hv) (Lib.hid ho) _ (Lib.hid rfl)
end Go.Proofs.Ytbonchnhngaicaa
