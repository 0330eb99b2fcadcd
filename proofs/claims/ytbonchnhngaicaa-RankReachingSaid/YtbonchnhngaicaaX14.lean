/- Proved: that the law RankRestart of the statements returns true for every input. Conditions: the list lies in memory. -/
import Derived.Test.YtbonchnhngaicaaX13
namespace Go.Proofs.Ytbonchnhngaicaa
open Go.RowKit Go.Sort Go.BigFrame
set_option linter.unusedVariables false
set_option linter.unusedSimpArgs false
attribute [local go_sem] cell_alloc_old
attribute [local go_sem ↓] Go.wp_at_zero Go.wp_at_succ

theorem any_take {α : Type} [Inhabited α] (f : α → Bool) (l : List α) {k : Nat} (h : k < l.length) : (l.take (k + 1)).any f = ((l.take k).any f || f (l.getD k default)) := by
  rw [List.take_add_one, List.getD_eq_getElem?_getD, List.getElem?_eq_getElem h]
  simp only [List.any_append, Option.toList, List.any_cons, List.any_nil, Bool.or_false, Option.getD_some]

set_option maxRecDepth 100000 in
set_option maxHeartbeats 1000000 in
theorem restart_0 (r : Rt) (n : Nat) (a : Option Addr) (cap : Nat) (l : List Ofr) (w : World) (hn : Hid (n = l.length)) (hl : OfAt w a l) (hm : Hid (l.length ≤ maxLen)) (h80 : (80 : Int) < n) : Calls Try.prog 10 #[r.v, .slice a n cap] w (Yes true w) := by
  go_enter Try.func10, Try.ntmps10
  go_wp2_with fail
  have Tr := CAt.new (w) [.int .i64 r.o.s, .int .i64 r.o.r, .int .i64 r.l.s, .int .i64 r.l.r, .int .i64 r.p] 25
  replace hl := hl.keep (Below.alloc (Below.refl _ (w)) (Nat.le_refl _) (.cells #[.int .i64 r.o.s, .int .i64 r.o.r, .int .i64 r.l.s, .int .i64 r.l.r, .int .i64 r.p] 25))
  have BB : Below w.heap.size w ((w).alloc (.cells #[.int .i64 r.o.s, .int .i64 r.o.r, .int .i64 r.l.s, .int .i64 r.l.r, .int .i64 r.p] 25)) := ball (Below.refl _ _) _
  obtain ⟨V1, hV1⟩ : ∃ V1, w.alloc (.cells #[.int .i64 r.o.s, .int .i64 r.o.r, .int .i64 r.l.s, .int .i64 r.l.r, .int .i64 r.p] 25) = V1 := ⟨_, rfl⟩
  rw [hV1] at BB Tr hl ⊢
  clear hV1
  refine (head_any V1).mono ?_
  rintro e w2 ⟨rfl, b2⟩
  replace Tr := Tr.keep b2
  replace hl := hl.keep b2
  replace BB := bstep BB b2
  clear b2
  have r0 := Tr 0 _ rfl
  have r1 := Tr 1 _ rfl
  have r2 := Tr 2 _ rfl
  have r3 := Tr 3 _ rfl
  have r4 := Tr 4 _ rfl
  go_wp2_with fail
  go_ret
  exact ⟨rfl, BB⟩
set_option maxRecDepth 100000 in
set_option maxHeartbeats 1000000 in
theorem restart_1 (r : Rt) (n : Nat) (a : Option Addr) (cap : Nat) (l : List Ofr) (w : World) (hn : Hid (n = l.length)) (hl : OfAt w a l) (hm : Hid (l.length ≤ maxLen)) (h80 : ¬ (80 : Int) < n) (hv : Hid (validR r = false)) : Calls Try.prog 10 #[r.v, .slice a n cap] w (Yes true w) := by
  go_enter Try.func10, Try.ntmps10
  go_wp2_with fail
  have Tr := CAt.new (w) [.int .i64 r.o.s, .int .i64 r.o.r, .int .i64 r.l.s, .int .i64 r.l.r, .int .i64 r.p] 25
  replace hl := hl.keep (Below.alloc (Below.refl _ (w)) (Nat.le_refl _) (.cells #[.int .i64 r.o.s, .int .i64 r.o.r, .int .i64 r.l.s, .int .i64 r.l.r, .int .i64 r.p] 25))
  have BB : Below w.heap.size w ((w).alloc (.cells #[.int .i64 r.o.s, .int .i64 r.o.r, .int .i64 r.l.s, .int .i64 r.l.r, .int .i64 r.p] 25)) := ball (Below.refl _ _) _
  obtain ⟨V1, hV1⟩ : ∃ V1, w.alloc (.cells #[.int .i64 r.o.s, .int .i64 r.o.r, .int .i64 r.l.s, .int .i64 r.l.r, .int .i64 r.p] 25) = V1 := ⟨_, rfl⟩
  rw [hV1] at BB Tr hl ⊢
  clear hV1
  refine (head_any V1).mono ?_
  rintro e w2 ⟨rfl, b2⟩
  replace Tr := Tr.keep b2
  replace hl := hl.keep b2
  replace BB := bstep BB b2
  clear b2
  have r0 := Tr 0 _ rfl
  have r1 := Tr 1 _ rfl
  have r2 := Tr 2 _ rfl
  have r3 := Tr 3 _ rfl
  have r4 := Tr 4 _ rfl
  go_wp2_with fail
  refine (rvalid_at r _ _ hv.out).mono ?_
  clear r0 r1 r2 r3 r4
  rintro e w3 ⟨rfl, b3⟩
  replace Tr := Tr.keep b3
  replace hl := hl.keep b3
  replace BB := bstep BB b3
  clear b3
  have r0 := Tr 0 _ rfl
  have r1 := Tr 1 _ rfl
  have r2 := Tr 2 _ rfl
  have r3 := Tr 3 _ rfl
  have r4 := Tr 4 _ rfl
  go_wp2_with fail
  go_ret
  exact ⟨rfl, BB⟩
set_option maxRecDepth 100000 in
set_option maxHeartbeats 1000000 in
theorem restart_2 (r : Rt) (n : Nat) (a : Option Addr) (cap : Nat) (l : List Ofr) (w : World) (hn : Hid (n = l.length)) (hl : OfAt w a l) (hm : Hid (l.length ≤ maxLen)) (h80 : ¬ (80 : Int) < n) (hv : Hid (validR r = true)) (ho : Hid (offsB l = false)) : Calls Try.prog 10 #[r.v, .slice a n cap] w (Yes true w) := by
  go_enter Try.func10, Try.ntmps10
  go_wp2_with fail
  have Tr := CAt.new (w) [.int .i64 r.o.s, .int .i64 r.o.r, .int .i64 r.l.s, .int .i64 r.l.r, .int .i64 r.p] 25
  replace hl := hl.keep (Below.alloc (Below.refl _ (w)) (Nat.le_refl _) (.cells #[.int .i64 r.o.s, .int .i64 r.o.r, .int .i64 r.l.s, .int .i64 r.l.r, .int .i64 r.p] 25))
  have BB : Below w.heap.size w ((w).alloc (.cells #[.int .i64 r.o.s, .int .i64 r.o.r, .int .i64 r.l.s, .int .i64 r.l.r, .int .i64 r.p] 25)) := ball (Below.refl _ _) _
  obtain ⟨V1, hV1⟩ : ∃ V1, w.alloc (.cells #[.int .i64 r.o.s, .int .i64 r.o.r, .int .i64 r.l.s, .int .i64 r.l.r, .int .i64 r.p] 25) = V1 := ⟨_, rfl⟩
  rw [hV1] at BB Tr hl ⊢
  clear hV1
  refine (head_any V1).mono ?_
  rintro e w2 ⟨rfl, b2⟩
  replace Tr := Tr.keep b2
  replace hl := hl.keep b2
  replace BB := bstep BB b2
  clear b2
  have r0 := Tr 0 _ rfl
  have r1 := Tr 1 _ rfl
  have r2 := Tr 2 _ rfl
  have r3 := Tr 3 _ rfl
  have r4 := Tr 4 _ rfl
  go_wp2_with fail
  refine (rvalid_at r _ _ hv.out).mono ?_
  clear r0 r1 r2 r3 r4
  rintro e w3 ⟨rfl, b3⟩
  replace Tr := Tr.keep b3
  replace hl := hl.keep b3
  replace BB := bstep BB b3
  clear b3
  have r0 := Tr 0 _ rfl
  have r1 := Tr 1 _ rfl
  have r2 := Tr 2 _ rfl
  have r3 := Tr 3 _ rfl
  have r4 := Tr 4 _ rfl
  go_wp2_with fail
  refine (roffers_at n a cap l false _ hn.out hl hm.out ho.out).mono ?_
  clear r0 r1 r2 r3 r4
  rintro e w4 ⟨rfl, b4⟩
  replace Tr := Tr.keep b4
  replace hl := hl.keep b4
  replace BB := bstep BB b4
  clear b4
  have r0 := Tr 0 _ rfl
  have r1 := Tr 1 _ rfl
  have r2 := Tr 2 _ rfl
  have r3 := Tr 3 _ rfl
  have r4 := Tr 4 _ rfl
  go_wp2_with fail
  go_ret
  exact ⟨rfl, BB⟩
set_option maxRecDepth 100000 in
set_option maxHeartbeats 1000000 in
theorem restart_3 (r : Rt) (n : Nat) (a : Option Addr) (cap : Nat) (l : List Ofr) (w : World) (hn : Hid (n = l.length)) (hl : OfAt w a l) (hm : Hid (l.length ≤ maxLen)) (h80 : ¬ (80 : Int) < n) (hv : Hid (validR r = true)) (ho : Hid (offsB l = true)) (t c : Rt) (HT : Hid (startV false r.o.s = t)) (HC : Hid (chooseV t l = c)) : Calls Try.prog 10 #[r.v, .slice a n cap] w (Yes true w) := by
  go_enter Try.func10, Try.ntmps10
  go_wp2_with fail
  have Tr := CAt.new (w) [.int .i64 r.o.s, .int .i64 r.o.r, .int .i64 r.l.s, .int .i64 r.l.r, .int .i64 r.p] 25
  replace hl := hl.keep (Below.alloc (Below.refl _ (w)) (Nat.le_refl _) (.cells #[.int .i64 r.o.s, .int .i64 r.o.r, .int .i64 r.l.s, .int .i64 r.l.r, .int .i64 r.p] 25))
  have BB : Below w.heap.size w ((w).alloc (.cells #[.int .i64 r.o.s, .int .i64 r.o.r, .int .i64 r.l.s, .int .i64 r.l.r, .int .i64 r.p] 25)) := ball (Below.refl _ _) _
  obtain ⟨V1, hV1⟩ : ∃ V1, w.alloc (.cells #[.int .i64 r.o.s, .int .i64 r.o.r, .int .i64 r.l.s, .int .i64 r.l.r, .int .i64 r.p] 25) = V1 := ⟨_, rfl⟩
  rw [hV1] at BB Tr hl ⊢
  clear hV1
  refine (head_any V1).mono ?_
  rintro e w2 ⟨rfl, b2⟩
  replace Tr := Tr.keep b2
  replace hl := hl.keep b2
  replace BB := bstep BB b2
  clear b2
  have r0 := Tr 0 _ rfl
  have r1 := Tr 1 _ rfl
  have r2 := Tr 2 _ rfl
  have r3 := Tr 3 _ rfl
  have r4 := Tr 4 _ rfl
  go_wp2_with fail
  refine (rvalid_at r _ _ hv.out).mono ?_
  clear r0 r1 r2 r3 r4
  rintro e w3 ⟨rfl, b3⟩
  replace Tr := Tr.keep b3
  replace hl := hl.keep b3
  replace BB := bstep BB b3
  clear b3
  have r0 := Tr 0 _ rfl
  have r1 := Tr 1 _ rfl
  have r2 := Tr 2 _ rfl
  have r3 := Tr 3 _ rfl
  have r4 := Tr 4 _ rfl
  go_wp2_with fail
  refine (roffers_at n a cap l true _ hn.out hl hm.out ho.out).mono ?_
  clear r0 r1 r2 r3 r4
  rintro e w4 ⟨rfl, b4⟩
  replace Tr := Tr.keep b4
  replace hl := hl.keep b4
  replace BB := bstep BB b4
  clear b4
  have r0 := Tr 0 _ rfl
  have r1 := Tr 1 _ rfl
  have r2 := Tr 2 _ rfl
  have r3 := Tr 3 _ rfl
  have r4 := Tr 4 _ rfl
  go_wp2_with fail
  refine (start_at false r.o.s t _ HT.out).mono ?_
  clear r0 r1 r2 r3 r4
  rintro e w5 ⟨rfl, b5⟩
  replace Tr := Tr.keep b5
  replace hl := hl.keep b5
  replace BB := bstep BB b5
  clear b5
  go_upto_region 5 with (fail)
  have bs6 : w.heap.size ≤ w5.heap.size := BB.size
  have lt6r : w.heap.size < w5.heap.size := World.block_lt_of_cell? w5 ⟨w.heap.size, 0, none⟩ (Tr 0 _ rfl)
  have Tt := CAt.new (w5) [.int .i64 t.o.s, .int .i64 t.o.r, .int .i64 t.l.s, .int .i64 t.l.r, .int .i64 t.p] 25
  replace Tr := Tr.alloc (.cells #[.int .i64 t.o.s, .int .i64 t.o.r, .int .i64 t.l.s, .int .i64 t.l.r, .int .i64 t.p] 25)
  replace hl := hl.keep (Below.alloc (Below.refl _ (w5)) (Nat.le_refl _) (.cells #[.int .i64 t.o.s, .int .i64 t.o.r, .int .i64 t.l.s, .int .i64 t.l.r, .int .i64 t.p] 25))
  replace BB := ball BB (.cells #[.int .i64 t.o.s, .int .i64 t.o.r, .int .i64 t.l.s, .int .i64 t.l.r, .int .i64 t.p] 25)
  obtain ⟨V6, hV6⟩ : ∃ V6, w5.alloc (.cells #[.int .i64 t.o.s, .int .i64 t.o.r, .int .i64 t.l.s, .int .i64 t.l.r, .int .i64 t.p] 25) = V6 := ⟨_, rfl⟩
  rw [hV6] at BB Tr Tt hl ⊢
  clear hV6
  obtain ⟨k6, hk6⟩ : ∃ k6, w5.heap.size = k6 := ⟨_, rfl⟩
  rw [hk6] at Tt bs6 lt6r ⊢
  clear hk6
  have r0 := Tr 0 _ rfl
  have r1 := Tr 1 _ rfl
  have r2 := Tr 2 _ rfl
  have r3 := Tr 3 _ rfl
  have r4 := Tr 4 _ rfl
  have t0 := Tt 0 _ rfl
  have t1 := Tt 1 _ rfl
  have t2 := Tt 2 _ rfl
  have t3 := Tt 3 _ rfl
  have t4 := Tt 4 _ rfl
  go_wp2_with fail
  refine (choose_at t c n a cap l _ hn.out hl hm.out HC.out).mono ?_
  clear r0 r1 r2 r3 r4 t0 t1 t2 t3 t4
  rintro e w7 ⟨rfl, b7⟩
  replace Tr := Tr.keep b7
  replace Tt := Tt.keep b7
  replace hl := hl.keep b7
  replace BB := bstep BB b7
  clear b7
  go_upto_region 6 with (fail)
  have bs8 : w.heap.size ≤ w7.heap.size := BB.size
  have lt8r : w.heap.size < w7.heap.size := World.block_lt_of_cell? w7 ⟨w.heap.size, 0, none⟩ (Tr 0 _ rfl)
  have lt8t : k6 < w7.heap.size := World.block_lt_of_cell? w7 ⟨k6, 0, none⟩ (Tt 0 _ rfl)
  have Tc := CAt.new (w7) [.int .i64 c.o.s, .int .i64 c.o.r, .int .i64 c.l.s, .int .i64 c.l.r, .int .i64 c.p] 25
  replace Tr := Tr.alloc (.cells #[.int .i64 c.o.s, .int .i64 c.o.r, .int .i64 c.l.s, .int .i64 c.l.r, .int .i64 c.p] 25)
  replace Tt := Tt.alloc (.cells #[.int .i64 c.o.s, .int .i64 c.o.r, .int .i64 c.l.s, .int .i64 c.l.r, .int .i64 c.p] 25)
  replace hl := hl.keep (Below.alloc (Below.refl _ (w7)) (Nat.le_refl _) (.cells #[.int .i64 c.o.s, .int .i64 c.o.r, .int .i64 c.l.s, .int .i64 c.l.r, .int .i64 c.p] 25))
  replace BB := ball BB (.cells #[.int .i64 c.o.s, .int .i64 c.o.r, .int .i64 c.l.s, .int .i64 c.l.r, .int .i64 c.p] 25)
  obtain ⟨V8, hV8⟩ : ∃ V8, w7.alloc (.cells #[.int .i64 c.o.s, .int .i64 c.o.r, .int .i64 c.l.s, .int .i64 c.l.r, .int .i64 c.p] 25) = V8 := ⟨_, rfl⟩
  rw [hV8] at BB Tr Tt Tc hl ⊢
  clear hV8
  obtain ⟨k8, hk8⟩ : ∃ k8, w7.heap.size = k8 := ⟨_, rfl⟩
  rw [hk8] at Tc bs8 lt8r lt8t ⊢
  clear hk8
  go_wp2_with fail
  go_loopw [8, 35] (fun g i wr => ∃ k : Nat, k ≤ n ∧ g = .bool ((l.take k).any (greatB r.o.s)) ∧ i = .int .i64 k ∧ Below w.heap.size w wr ∧ CAt wr w.heap.size [.int .i64 r.o.s, .int .i64 r.o.r, .int .i64 r.l.s, .int .i64 r.l.r, .int .i64 r.p] ∧ CAt wr k6 [.int .i64 t.o.s, .int .i64 t.o.r, .int .i64 t.l.s, .int .i64 t.l.r, .int .i64 t.p] ∧ CAt wr k8 [.int .i64 c.o.s, .int .i64 c.o.r, .int .i64 c.l.s, .int .i64 c.l.r, .int .i64 c.p] ∧ OfAt wr a l) (fun _ i _ => n - (intOf i).toNat)
  case atStart => exact ⟨0, Nat.zero_le _, rfl, rfl, BB, Tr, Tt, Tc, hl⟩
  case round =>
    clear BB Tr Tt Tc hl
    obtain ⟨k, hk, rfl, rfl, BB, Tr, Tt, Tc, hl⟩ := hrel
    obtain ⟨g, hg⟩ : ∃ g, (l.take k).any (greatB r.o.s) = g := ⟨_, rfl⟩
    rw [hg]
    have HG := Lib.hid hg; clear hg
    by_cases hlt : k < n
    ·
      have hlt' : (k : Int) < (n : Int) := by omega
      have hk0 : (0 : Int) ≤ (k : Int) := by omega
      obtain ⟨b, off, rfl, hc⟩ := hl.at (i := k) (by rw [← hn.out]; exact hlt)
      obtain ⟨c0, c1, c2, c3⟩ := hc k (by rw [← hn.out]; exact hlt)
      have hxm : l.getD k default ∈ l := by
        rw [List.getD_eq_getElem?_getD, List.getElem?_eq_getElem (by rw [← hn.out]; exact hlt)]; exact List.getElem_mem _
      have hxo := off_bd (offs_mem ho.out _ hxm)
      have hnx := any_take (greatB r.o.s) l (k := k) (by rw [← hn.out]; exact hlt)
      obtain ⟨x, hx⟩ : ∃ x, l.getD k default = x := ⟨_, rfl⟩
      rw [hx] at c0 c1 c2 c3 hxo hnx
      rw [HG.out] at hnx
      unfold greatB at hnx
      have HN := Lib.hid hnx
      obtain ⟨p0, p1, _, _, x0, x1, x2, x3⟩ := hxo
      clear hx hxm hc hnx
      have r0 := Tr 0 _ rfl
      have r1 := Tr 1 _ rfl
      have r2 := Tr 2 _ rfl
      have r3 := Tr 3 _ rfl
      have r4 := Tr 4 _ rfl
      have t0 := Tt 0 _ rfl
      have t1 := Tt 1 _ rfl
      have t2 := Tt 2 _ rfl
      have t3 := Tt 3 _ rfl
      have t4 := Tt 4 _ rfl
      have c0 := Tc 0 _ rfl
      have c1 := Tc 1 _ rfl
      have c2 := Tc 2 _ rfl
      have c3 := Tc 3 _ rfl
      have c4 := Tc 4 _ rfl
      go_upto_region 10 with (fail)
      clear r0 r1 r2 r3 r4 t0 t1 t2 t3 t4 c0 c1 c2 c3 c4
      have bs9 : w.heap.size ≤ wr.heap.size := BB.size
      have lt9r : w.heap.size < wr.heap.size := World.block_lt_of_cell? wr ⟨w.heap.size, 0, none⟩ (Tr 0 _ rfl)
      have lt9t : k6 < wr.heap.size := World.block_lt_of_cell? wr ⟨k6, 0, none⟩ (Tt 0 _ rfl)
      have lt9c : k8 < wr.heap.size := World.block_lt_of_cell? wr ⟨k8, 0, none⟩ (Tc 0 _ rfl)
      have Tx := CAt.new (wr) [.int .i64 x.p, .int .i64 x.t.s, .int .i64 x.t.r, .int .i64 x.c] 40
      replace Tr := Tr.alloc (.cells #[.int .i64 x.p, .int .i64 x.t.s, .int .i64 x.t.r, .int .i64 x.c] 40)
      replace Tt := Tt.alloc (.cells #[.int .i64 x.p, .int .i64 x.t.s, .int .i64 x.t.r, .int .i64 x.c] 40)
      replace Tc := Tc.alloc (.cells #[.int .i64 x.p, .int .i64 x.t.s, .int .i64 x.t.r, .int .i64 x.c] 40)
      replace hl := hl.keep (Below.alloc (Below.refl _ (wr)) (Nat.le_refl _) (.cells #[.int .i64 x.p, .int .i64 x.t.s, .int .i64 x.t.r, .int .i64 x.c] 40))
      replace BB := ball BB (.cells #[.int .i64 x.p, .int .i64 x.t.s, .int .i64 x.t.r, .int .i64 x.c] 40)
      obtain ⟨V9, hV9⟩ : ∃ V9, wr.alloc (.cells #[.int .i64 x.p, .int .i64 x.t.s, .int .i64 x.t.r, .int .i64 x.c] 40) = V9 := ⟨_, rfl⟩
      rw [hV9] at BB Tr Tt Tc Tx hl ⊢
      clear hV9
      obtain ⟨k9, hk9⟩ : ∃ k9, wr.heap.size = k9 := ⟨_, rfl⟩
      rw [hk9] at Tx bs9 lt9r lt9t lt9c ⊢
      clear hk9
      clear c0 c1 c2 c3
      have r0 := Tr 0 _ rfl
      have r1 := Tr 1 _ rfl
      have r2 := Tr 2 _ rfl
      have r3 := Tr 3 _ rfl
      have r4 := Tr 4 _ rfl
      have t0 := Tt 0 _ rfl
      have t1 := Tt 1 _ rfl
      have t2 := Tt 2 _ rfl
      have t3 := Tt 3 _ rfl
      have t4 := Tt 4 _ rfl
      have c0 := Tc 0 _ rfl
      have c1 := Tc 1 _ rfl
      have c2 := Tc 2 _ rfl
      have c3 := Tc 3 _ rfl
      have c4 := Tc 4 _ rfl
      have x0 := Tx 0 _ rfl
      have x1 := Tx 1 _ rfl
      have x2 := Tx 2 _ rfl
      have x3 := Tx 3 _ rfl
      cases g
      ·
        by_cases h1 : r.o.s < x.t.s
        ·
          by_cases h2 : x.t.r + x.c < 1000000
          ·
            go_wp2_with fail
            go_roundw
            case rel => exact ⟨k + 1, by omega, by have h := HN.out; unfold greatB; rw [h]; simp [*], by go_num, BB, Tr, Tt, Tc, hl⟩
            case measure => simp [intOf]; omega
          ·
            go_wp2_with fail
            go_roundw
            case rel => exact ⟨k + 1, by omega, by have h := HN.out; unfold greatB; rw [h]; simp [*], by go_num, BB, Tr, Tt, Tc, hl⟩
            case measure => simp [intOf]; omega
        ·
          go_wp2_with fail
          go_roundw
          case rel => exact ⟨k + 1, by omega, by have h := HN.out; unfold greatB; rw [h]; simp [*], by go_num, BB, Tr, Tt, Tc, hl⟩
          case measure => simp [intOf]; omega
      ·
        go_wp2_with fail
        go_roundw
        case rel => exact ⟨k + 1, by omega, by have h := HN.out; unfold greatB; rw [h]; simp [*], by go_num, BB, Tr, Tt, Tc, hl⟩
        case measure => simp [intOf]; omega
    ·
      have hkn : n = k := by omega
      subst hkn
      have hr := restart_of hv.out ho.out
      rw [HT.out, HC.out] at hr
      have hg : l.any (greatB r.o.s) = g := by have := HG.out; rwa [hn.out, List.take_length] at this
      rw [hg] at hr
      obtain ⟨hr1, hr2⟩ := hr
      clear hg
      cases g
      ·
        obtain ⟨hr3, hr4⟩ := hr2 rfl
        have HR4 := Lib.hid hr4
        have hp : ¬ 0 ≤ c.p := by simpa using hr1
        clear hr2 hr1 hr4
        subst hr3
        have r0 := Tr 0 _ rfl
        have r1 := Tr 1 _ rfl
        have r2 := Tr 2 _ rfl
        have r3 := Tr 3 _ rfl
        have r4 := Tr 4 _ rfl
        have t0 := Tt 0 _ rfl
        have t1 := Tt 1 _ rfl
        have t2 := Tt 2 _ rfl
        have t3 := Tt 3 _ rfl
        have t4 := Tt 4 _ rfl
        have c0 := Tc 0 _ rfl
        have c1 := Tc 1 _ rfl
        have c2 := Tc 2 _ rfl
        have c3 := Tc 3 _ rfl
        have c4 := Tc 4 _ rfl
        go_wp2_with fail
        refine (better_at c.o r.o false _ HR4.out).mono ?_
        clear r0 r1 r2 r3 r4 t0 t1 t2 t3 t4 c0 c1 c2 c3 c4
        rintro e w9 ⟨rfl, b9⟩
        replace Tr := Tr.keep b9
        replace Tt := Tt.keep b9
        replace Tc := Tc.keep b9
        replace hl := hl.keep b9
        replace BB := bstep BB b9
        clear b9
        have r0 := Tr 0 _ rfl
        have r1 := Tr 1 _ rfl
        have r2 := Tr 2 _ rfl
        have r3 := Tr 3 _ rfl
        have r4 := Tr 4 _ rfl
        have t0 := Tt 0 _ rfl
        have t1 := Tt 1 _ rfl
        have t2 := Tt 2 _ rfl
        have t3 := Tt 3 _ rfl
        have t4 := Tt 4 _ rfl
        have c0 := Tc 0 _ rfl
        have c1 := Tc 1 _ rfl
        have c2 := Tc 2 _ rfl
        have c3 := Tc 3 _ rfl
        have c4 := Tc 4 _ rfl
        go_wp2_with fail
        go_ret
        exact ⟨by simp, BB⟩
      ·
        have hp : 0 ≤ c.p := by simpa using hr1
        clear hr2 hr1
        have r0 := Tr 0 _ rfl
        have r1 := Tr 1 _ rfl
        have r2 := Tr 2 _ rfl
        have r3 := Tr 3 _ rfl
        have r4 := Tr 4 _ rfl
        have t0 := Tt 0 _ rfl
        have t1 := Tt 1 _ rfl
        have t2 := Tt 2 _ rfl
        have t3 := Tt 3 _ rfl
        have t4 := Tt 4 _ rfl
        have c0 := Tc 0 _ rfl
        have c1 := Tc 1 _ rfl
        have c2 := Tc 2 _ rfl
        have c3 := Tc 3 _ rfl
        have c4 := Tc 4 _ rfl
        go_wp2_with fail
        go_ret
        exact ⟨by simp, BB⟩
theorem lawRestart (r : Rt) (a : Option Addr) (cap : Nat) (l : List Ofr) (w : World) (hl : OfAt w a l) (hm : l.length ≤ maxLen) : Calls Try.prog 10 #[r.v, .slice a l.length cap] w (Yes true w) := by
  by_cases h80 : (80 : Int) < (l.length : Int)
  · exact restart_0 r _ a cap l w (Lib.hid rfl) hl (Lib.hid hm) h80
  cases hv : validR r
  · exact restart_1 r _ a cap l w (Lib.hid rfl) hl (Lib.hid hm) h80 (Lib.hid hv)
  cases ho : offsB l
  · exact restart_2 r _ a cap l w (Lib.hid rfl) hl (Lib.hid hm) h80 (Lib.hid hv) (Lib.hid ho)
  exact restart_3 r _ a cap l w (Lib.hid rfl) hl (Lib.hid hm) h80 (Lib.hid hv) (Lib.hid ho) _ _ (Lib.hid rfl) (Lib.hid rfl)
end Go.Proofs.Ytbonchnhngaicaa
