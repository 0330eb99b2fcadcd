/- Proved: that the law RankValid of the statements returns true for every input. Conditions: the list lies in memory. -/
import Derived.Test.YtbonchnhngaicaaX14
import Derived.Deep.RegionHeld3
import Derived.Deep.DrawnRows
namespace Go.Proofs.Ytbonchnhngaicaa
open Go.RowKit Go.Sort Go.BigFrame
set_option linter.unusedVariables false
set_option linter.unusedSimpArgs false
attribute [local go_sem] cell_alloc_old
attribute [local go_sem ↓] Go.wp_at_zero Go.wp_at_succ

set_option maxRecDepth 100000 in
set_option maxHeartbeats 1000000 in
theorem valid_0 (r : Rt) (q : Int) (n : Nat) (a : Option Addr) (cap : Nat) (l : List Ofr) (w : World) (hn : Hid (n = l.length)) (hl : OfAt w a l) (hm : Hid (l.length ≤ maxLen)) (h80 : (80 : Int) < n) : Calls Try.prog 5 #[r.v, .slice a n cap, .int .i64 q] w (Yes true w) := by
  go_enter Try.func5, Try.ntmps5
  go_wp2_with fail
  have Tr := CAt.new (w) [.int .i64 r.o.s, .int .i64 r.o.r, .int .i64 r.l.s, .int .i64 r.l.r, .int .i64 r.p] 25
  replace hl := hl.keep (Below.alloc (Below.refl _ (w)) (Nat.le_refl _) (.cells #[.int .i64 r.o.s, .int .i64 r.o.r, .int .i64 r.l.s, .int .i64 r.l.r, .int .i64 r.p] 25))
  have BB : Below w.heap.size w ((w).alloc (.cells #[.int .i64 r.o.s, .int .i64 r.o.r, .int .i64 r.l.s, .int .i64 r.l.r, .int .i64 r.p] 25)) := ball (Below.refl _ _) _
  obtain ⟨V1, hV1⟩ : ∃ V1, w.alloc (.cells #[.int .i64 r.o.s, .int .i64 r.o.r, .int .i64 r.l.s, .int .i64 r.l.r, .int .i64 r.p] 25) = V1 := ⟨_, rfl⟩
  rw [hV1] at BB Tr hl ⊢
  clear hV1
  refine (head_any V1).mono ?_
  rintro e w2 ⟨rfl, b2⟩
  replace Tr := Tr.keep b2
  replace hl := hl.keep b2
  replace BB := bstep BB b2
  clear b2
  have r0 := Tr 0 _ rfl
  have r1 := Tr 1 _ rfl
  have r2 := Tr 2 _ rfl
  have r3 := Tr 3 _ rfl
  have r4 := Tr 4 _ rfl
  go_wp2_with fail
  go_ret
  exact ⟨rfl, BB⟩
set_option maxRecDepth 100000 in
set_option maxHeartbeats 1000000 in
theorem valid_1 (r : Rt) (q : Int) (n : Nat) (a : Option Addr) (cap : Nat) (l : List Ofr) (w : World) (hn : Hid (n = l.length)) (hl : OfAt w a l) (hm : Hid (l.length ≤ maxLen)) (h80 : ¬ (80 : Int) < n) (hv : Hid (validR r = false)) : Calls Try.prog 5 #[r.v, .slice a n cap, .int .i64 q] w (Yes true w) := by
  go_enter Try.func5, Try.ntmps5
  go_wp2_with fail
  have Tr := CAt.new (w) [.int .i64 r.o.s, .int .i64 r.o.r, .int .i64 r.l.s, .int .i64 r.l.r, .int .i64 r.p] 25
  replace hl := hl.keep (Below.alloc (Below.refl _ (w)) (Nat.le_refl _) (.cells #[.int .i64 r.o.s, .int .i64 r.o.r, .int .i64 r.l.s, .int .i64 r.l.r, .int .i64 r.p] 25))
  have BB : Below w.heap.size w ((w).alloc (.cells #[.int .i64 r.o.s, .int .i64 r.o.r, .int .i64 r.l.s, .int .i64 r.l.r, .int .i64 r.p] 25)) := ball (Below.refl _ _) _
  obtain ⟨V1, hV1⟩ : ∃ V1, w.alloc (.cells #[.int .i64 r.o.s, .int .i64 r.o.r, .int .i64 r.l.s, .int .i64 r.l.r, .int .i64 r.p] 25) = V1 := ⟨_, rfl⟩
  rw [hV1] at BB Tr hl ⊢
  clear hV1
  refine (head_any V1).mono ?_
  rintro e w2 ⟨rfl, b2⟩
  replace Tr := Tr.keep b2
  replace hl := hl.keep b2
  replace BB := bstep BB b2
  clear b2
  have r0 := Tr 0 _ rfl
  have r1 := Tr 1 _ rfl
  have r2 := Tr 2 _ rfl
  have r3 := Tr 3 _ rfl
  have r4 := Tr 4 _ rfl
  go_wp2_with fail
  refine (rvalid_at r _ _ hv.out).mono ?_
  clear r0 r1 r2 r3 r4
  rintro e w3 ⟨rfl, b3⟩
  replace Tr := Tr.keep b3
  replace hl := hl.keep b3
  replace BB := bstep BB b3
  clear b3
  have r0 := Tr 0 _ rfl
  have r1 := Tr 1 _ rfl
  have r2 := Tr 2 _ rfl
  have r3 := Tr 3 _ rfl
  have r4 := Tr 4 _ rfl
  go_wp2_with fail
  go_ret
  exact ⟨rfl, BB⟩
set_option maxRecDepth 100000 in
set_option maxHeartbeats 1000000 in
theorem valid_2 (r : Rt) (q : Int) (n : Nat) (a : Option Addr) (cap : Nat) (l : List Ofr) (w : World) (hn : Hid (n = l.length)) (hl : OfAt w a l) (hm : Hid (l.length ≤ maxLen)) (h80 : ¬ (80 : Int) < n) (hv : Hid (validR r = true)) (c u : Rt) (HC : Hid (chooseV r l = c)) (HU : Hid (renewV r q = u)) (Vc : Hid (validR c = true)) (Lc : Hid (betterB r.l c.l = false)) (Oc : Hid (betterB c.o c.l = false)) (Sc : ¬ c.o.s < r.o.s) (Vu : Hid (validR u = true)) (Lu : Hid (betterB r.l u.l = false)) (Ou : Hid (betterB u.o u.l = false)) (Su : ¬ u.o.s < r.o.s) : Calls Try.prog 5 #[r.v, .slice a n cap, .int .i64 q] w (Yes true w) := by
  go_enter Try.func5, Try.ntmps5
  go_wp2_with fail
  have Tr := CAt.new (w) [.int .i64 r.o.s, .int .i64 r.o.r, .int .i64 r.l.s, .int .i64 r.l.r, .int .i64 r.p] 25
  replace hl := hl.keep (Below.alloc (Below.refl _ (w)) (Nat.le_refl _) (.cells #[.int .i64 r.o.s, .int .i64 r.o.r, .int .i64 r.l.s, .int .i64 r.l.r, .int .i64 r.p] 25))
  have BB : Below w.heap.size w ((w).alloc (.cells #[.int .i64 r.o.s, .int .i64 r.o.r, .int .i64 r.l.s, .int .i64 r.l.r, .int .i64 r.p] 25)) := ball (Below.refl _ _) _
  obtain ⟨V1, hV1⟩ : ∃ V1, w.alloc (.cells #[.int .i64 r.o.s, .int .i64 r.o.r, .int .i64 r.l.s, .int .i64 r.l.r, .int .i64 r.p] 25) = V1 := ⟨_, rfl⟩
  rw [hV1] at BB Tr hl ⊢
  clear hV1
  refine (head_any V1).mono ?_
  rintro e w2 ⟨rfl, b2⟩
  replace Tr := Tr.keep b2
  replace hl := hl.keep b2
  replace BB := bstep BB b2
  clear b2
  have r0 := Tr 0 _ rfl
  have r1 := Tr 1 _ rfl
  have r2 := Tr 2 _ rfl
  have r3 := Tr 3 _ rfl
  have r4 := Tr 4 _ rfl
  go_wp2_with fail
  refine (rvalid_at r _ _ hv.out).mono ?_
  clear r0 r1 r2 r3 r4
  rintro e w3 ⟨rfl, b3⟩
  replace Tr := Tr.keep b3
  replace hl := hl.keep b3
  replace BB := bstep BB b3
  clear b3
  go_upto_region 4 with (fail)
  have r0 := Tr 0 _ rfl
  have r1 := Tr 1 _ rfl
  have r2 := Tr 2 _ rfl
  have r3 := Tr 3 _ rfl
  have r4 := Tr 4 _ rfl
  go_cut [26, 27, 28] (fun sx sy sz wx => ∃ b : Nat, sx = .slice (some ⟨b, 0, none⟩) 2 2 ∧ sy = .int .i64 2 ∧ sz = .int .i64 0 ∧ CAt wx b [.int .i64 c.o.s, .int .i64 c.o.r, .int .i64 c.l.s, .int .i64 c.l.r, .int .i64 c.p, .int .i64 u.o.s, .int .i64 u.o.r, .int .i64 u.l.s, .int .i64 u.l.r, .int .i64 u.p] ∧ Below w3.heap.size w3 wx)
  case first =>
    go_region_held3 (fun w' => w'.cell? ⟨w.heap.size, 0, none⟩ = some (.int .i64 r.o.s) ∧ w'.cell? ⟨w.heap.size, 1, none⟩ = some (.int .i64 r.o.r) ∧ w'.cell? ⟨w.heap.size, 2, none⟩ = some (.int .i64 r.l.s) ∧ w'.cell? ⟨w.heap.size, 3, none⟩ = some (.int .i64 r.l.r) ∧ w'.cell? ⟨w.heap.size, 4, none⟩ = some (.int .i64 r.p))
      (first | go_keep)
      (first
      | (go_at_call 18
         refine (choose_at r c n a cap l _ hn.out (hl.keep (by repeat (first | exact B20 | exact Below.refl _ _ | refine Below.drew ?_))) hm.out HC.out).mono ?_
         rintro e w18 ⟨rfl, b18⟩
         have T18 : CAt w18 w.heap.size [.int .i64 r.o.s, .int .i64 r.o.r, .int .i64 r.l.s, .int .i64 r.l.r, .int .i64 r.p] := by
           refine CAt.keep ?_ b18
           repeat (first | exact Tr | exact T20 | refine CAt.drew ?_)
         have d180 := T18 0 _ rfl; have d181 := T18 1 _ rfl; have d182 := T18 2 _ rfl; have d183 := T18 3 _ rfl; have d184 := T18 4 _ rfl
         have B18 : Below w3.heap.size w3 w18 := by
           refine bstep ?_ b18
           repeat (first | exact B20 | exact Below.refl _ _ | refine Below.drew ?_))
      | (go_at_call 20
         refine (renew_at r u q _ HU.out).mono ?_
         rintro e w20 ⟨rfl, b20⟩
         have T20 : CAt w20 w.heap.size [.int .i64 r.o.s, .int .i64 r.o.r, .int .i64 r.l.s, .int .i64 r.l.r, .int .i64 r.p] := by
           refine CAt.keep ?_ b20
           repeat (first | exact Tr | exact T18 | refine CAt.drew ?_)
         have d200 := T20 0 _ rfl; have d201 := T20 1 _ rfl; have d202 := T20 2 _ rfl; have d203 := T20 3 _ rfl; have d204 := T20 4 _ rfl
         have B20 : Below w3.heap.size w3 w20 := by
           refine bstep ?_ b20
           repeat (first | exact B18 | exact Below.refl _ _ | refine Below.drew ?_)))
    all_goals go_wp2_with fail
    all_goals go_meet
    all_goals first
      | exact ⟨_, rfl, rfl, rfl, CAt.new _ _ _, ball B18 _⟩
      | exact ⟨_, rfl, rfl, rfl, CAt.new _ _ _, ball B20 _⟩
  case rest =>
    clear r0 r1 r2 r3 r4
    obtain ⟨ks, rfl, rfl, rfl, Ts, hB⟩ := hcut
    obtain ⟨W1, hW1⟩ : ∃ W1, W1 = wc := ⟨_, rfl⟩
    subst hW1
    replace Tr := Tr.keep hB
    replace BB := bstep BB hB
    clear hB
    clear hl
    go_wp2_with fail
    go_loopw [28] (fun i wr => (i = .int .i64 0 ∨ i = .int .i64 1 ∨ i = .int .i64 2) ∧ Below w.heap.size w wr ∧ CAt wr w.heap.size [.int .i64 r.o.s, .int .i64 r.o.r, .int .i64 r.l.s, .int .i64 r.l.r, .int .i64 r.p] ∧ CAt wr ks [.int .i64 c.o.s, .int .i64 c.o.r, .int .i64 c.l.s, .int .i64 c.l.r, .int .i64 c.p, .int .i64 u.o.s, .int .i64 u.o.r, .int .i64 u.l.s, .int .i64 u.l.r, .int .i64 u.p]) (fun i _ => 2 - (intOf i).toNat)
    case atStart => exact ⟨.inl rfl, BB, Tr, Ts⟩
    case round =>
      clear BB Tr Ts
      obtain ⟨hi, BB, Tr, Ts⟩ := hrel
      rcases hi with rfl | rfl | rfl
      ·
        have r0 := Tr 0 _ rfl
        have r1 := Tr 1 _ rfl
        have r2 := Tr 2 _ rfl
        have r3 := Tr 3 _ rfl
        have r4 := Tr 4 _ rfl
        have s0 := Ts 0 _ rfl
        have s1 := Ts 1 _ rfl
        have s2 := Ts 2 _ rfl
        have s3 := Ts 3 _ rfl
        have s4 := Ts 4 _ rfl
        have s5 := Ts 5 _ rfl
        have s6 := Ts 6 _ rfl
        have s7 := Ts 7 _ rfl
        have s8 := Ts 8 _ rfl
        have s9 := Ts 9 _ rfl
        go_upto_region 7 with (fail)
        clear r0 r1 r2 r3 r4 s0 s1 s2 s3 s4 s5 s6 s7 s8 s9
        have bs4 : w.heap.size ≤ wr.heap.size := BB.size
        have lt4r : w.heap.size < wr.heap.size := World.block_lt_of_cell? wr ⟨w.heap.size, 0, none⟩ (Tr 0 _ rfl)
        have lt4s : ks < wr.heap.size := World.block_lt_of_cell? wr ⟨ks, 0, none⟩ (Ts 0 _ rfl)
        have Tx := CAt.new (wr) [.int .i64 c.o.s, .int .i64 c.o.r, .int .i64 c.l.s, .int .i64 c.l.r, .int .i64 c.p] 25
        replace Tr := Tr.alloc (.cells #[.int .i64 c.o.s, .int .i64 c.o.r, .int .i64 c.l.s, .int .i64 c.l.r, .int .i64 c.p] 25)
        replace Ts := Ts.alloc (.cells #[.int .i64 c.o.s, .int .i64 c.o.r, .int .i64 c.l.s, .int .i64 c.l.r, .int .i64 c.p] 25)
        replace BB := ball BB (.cells #[.int .i64 c.o.s, .int .i64 c.o.r, .int .i64 c.l.s, .int .i64 c.l.r, .int .i64 c.p] 25)
        obtain ⟨V4, hV4⟩ : ∃ V4, wr.alloc (.cells #[.int .i64 c.o.s, .int .i64 c.o.r, .int .i64 c.l.s, .int .i64 c.l.r, .int .i64 c.p] 25) = V4 := ⟨_, rfl⟩
        rw [hV4] at BB Tr Ts Tx ⊢
        clear hV4
        obtain ⟨k4, hk4⟩ : ∃ k4, wr.heap.size = k4 := ⟨_, rfl⟩
        rw [hk4] at Tx bs4 lt4r lt4s ⊢
        clear hk4
        have r0 := Tr 0 _ rfl
        have r1 := Tr 1 _ rfl
        have r2 := Tr 2 _ rfl
        have r3 := Tr 3 _ rfl
        have r4 := Tr 4 _ rfl
        have s0 := Ts 0 _ rfl
        have s1 := Ts 1 _ rfl
        have s2 := Ts 2 _ rfl
        have s3 := Ts 3 _ rfl
        have s4 := Ts 4 _ rfl
        have s5 := Ts 5 _ rfl
        have s6 := Ts 6 _ rfl
        have s7 := Ts 7 _ rfl
        have s8 := Ts 8 _ rfl
        have s9 := Ts 9 _ rfl
        have x0 := Tx 0 _ rfl
        have x1 := Tx 1 _ rfl
        have x2 := Tx 2 _ rfl
        have x3 := Tx 3 _ rfl
        have x4 := Tx 4 _ rfl
        go_wp2_with fail
        refine (rvalid_at c true _ Vc.out).mono ?_
        clear r0 r1 r2 r3 r4 s0 s1 s2 s3 s4 s5 s6 s7 s8 s9 x0 x1 x2 x3 x4
        rintro e w5 ⟨rfl, b5⟩
        replace Tr := Tr.keep b5
        replace Ts := Ts.keep b5
        replace Tx := Tx.keep b5
        replace BB := bstep BB b5
        clear b5
        have r0 := Tr 0 _ rfl
        have r1 := Tr 1 _ rfl
        have r2 := Tr 2 _ rfl
        have r3 := Tr 3 _ rfl
        have r4 := Tr 4 _ rfl
        have s0 := Ts 0 _ rfl
        have s1 := Ts 1 _ rfl
        have s2 := Ts 2 _ rfl
        have s3 := Ts 3 _ rfl
        have s4 := Ts 4 _ rfl
        have s5 := Ts 5 _ rfl
        have s6 := Ts 6 _ rfl
        have s7 := Ts 7 _ rfl
        have s8 := Ts 8 _ rfl
        have s9 := Ts 9 _ rfl
        have x0 := Tx 0 _ rfl
        have x1 := Tx 1 _ rfl
        have x2 := Tx 2 _ rfl
        have x3 := Tx 3 _ rfl
        have x4 := Tx 4 _ rfl
        go_wp2_with fail
        refine (better_at r.l c.l false _ Lc.out).mono ?_
        clear r0 r1 r2 r3 r4 s0 s1 s2 s3 s4 s5 s6 s7 s8 s9 x0 x1 x2 x3 x4
        rintro e w6 ⟨rfl, b6⟩
        replace Tr := Tr.keep b6
        replace Ts := Ts.keep b6
        replace Tx := Tx.keep b6
        replace BB := bstep BB b6
        clear b6
        have r0 := Tr 0 _ rfl
        have r1 := Tr 1 _ rfl
        have r2 := Tr 2 _ rfl
        have r3 := Tr 3 _ rfl
        have r4 := Tr 4 _ rfl
        have s0 := Ts 0 _ rfl
        have s1 := Ts 1 _ rfl
        have s2 := Ts 2 _ rfl
        have s3 := Ts 3 _ rfl
        have s4 := Ts 4 _ rfl
        have s5 := Ts 5 _ rfl
        have s6 := Ts 6 _ rfl
        have s7 := Ts 7 _ rfl
        have s8 := Ts 8 _ rfl
        have s9 := Ts 9 _ rfl
        have x0 := Tx 0 _ rfl
        have x1 := Tx 1 _ rfl
        have x2 := Tx 2 _ rfl
        have x3 := Tx 3 _ rfl
        have x4 := Tx 4 _ rfl
        go_wp2_with fail
        refine (better_at c.o c.l false _ Oc.out).mono ?_
        clear r0 r1 r2 r3 r4 s0 s1 s2 s3 s4 s5 s6 s7 s8 s9 x0 x1 x2 x3 x4
        rintro e w7 ⟨rfl, b7⟩
        replace Tr := Tr.keep b7
        replace Ts := Ts.keep b7
        replace Tx := Tx.keep b7
        replace BB := bstep BB b7
        clear b7
        have r0 := Tr 0 _ rfl
        have r1 := Tr 1 _ rfl
        have r2 := Tr 2 _ rfl
        have r3 := Tr 3 _ rfl
        have r4 := Tr 4 _ rfl
        have s0 := Ts 0 _ rfl
        have s1 := Ts 1 _ rfl
        have s2 := Ts 2 _ rfl
        have s3 := Ts 3 _ rfl
        have s4 := Ts 4 _ rfl
        have s5 := Ts 5 _ rfl
        have s6 := Ts 6 _ rfl
        have s7 := Ts 7 _ rfl
        have s8 := Ts 8 _ rfl
        have s9 := Ts 9 _ rfl
        have x0 := Tx 0 _ rfl
        have x1 := Tx 1 _ rfl
        have x2 := Tx 2 _ rfl
        have x3 := Tx 3 _ rfl
        have x4 := Tx 4 _ rfl
        go_wp2_with fail
        go_roundw
        case rel => exact ⟨.inr <| .inl (by first | rfl | go_num | simp), BB, Tr, Ts⟩
        case measure => simp [intOf]
      ·
        have r0 := Tr 0 _ rfl
        have r1 := Tr 1 _ rfl
        have r2 := Tr 2 _ rfl
        have r3 := Tr 3 _ rfl
        have r4 := Tr 4 _ rfl
        have s0 := Ts 0 _ rfl
        have s1 := Ts 1 _ rfl
        have s2 := Ts 2 _ rfl
        have s3 := Ts 3 _ rfl
        have s4 := Ts 4 _ rfl
        have s5 := Ts 5 _ rfl
        have s6 := Ts 6 _ rfl
        have s7 := Ts 7 _ rfl
        have s8 := Ts 8 _ rfl
        have s9 := Ts 9 _ rfl
        go_upto_region 7 with (fail)
        clear r0 r1 r2 r3 r4 s0 s1 s2 s3 s4 s5 s6 s7 s8 s9
        have bs4 : w.heap.size ≤ wr.heap.size := BB.size
        have lt4r : w.heap.size < wr.heap.size := World.block_lt_of_cell? wr ⟨w.heap.size, 0, none⟩ (Tr 0 _ rfl)
        have lt4s : ks < wr.heap.size := World.block_lt_of_cell? wr ⟨ks, 0, none⟩ (Ts 0 _ rfl)
        have Tx := CAt.new (wr) [.int .i64 u.o.s, .int .i64 u.o.r, .int .i64 u.l.s, .int .i64 u.l.r, .int .i64 u.p] 25
        replace Tr := Tr.alloc (.cells #[.int .i64 u.o.s, .int .i64 u.o.r, .int .i64 u.l.s, .int .i64 u.l.r, .int .i64 u.p] 25)
        replace Ts := Ts.alloc (.cells #[.int .i64 u.o.s, .int .i64 u.o.r, .int .i64 u.l.s, .int .i64 u.l.r, .int .i64 u.p] 25)
        replace BB := ball BB (.cells #[.int .i64 u.o.s, .int .i64 u.o.r, .int .i64 u.l.s, .int .i64 u.l.r, .int .i64 u.p] 25)
        obtain ⟨V4, hV4⟩ : ∃ V4, wr.alloc (.cells #[.int .i64 u.o.s, .int .i64 u.o.r, .int .i64 u.l.s, .int .i64 u.l.r, .int .i64 u.p] 25) = V4 := ⟨_, rfl⟩
        rw [hV4] at BB Tr Ts Tx ⊢
        clear hV4
        obtain ⟨k4, hk4⟩ : ∃ k4, wr.heap.size = k4 := ⟨_, rfl⟩
        rw [hk4] at Tx bs4 lt4r lt4s ⊢
        clear hk4
        have r0 := Tr 0 _ rfl
        have r1 := Tr 1 _ rfl
        have r2 := Tr 2 _ rfl
        have r3 := Tr 3 _ rfl
        have r4 := Tr 4 _ rfl
        have s0 := Ts 0 _ rfl
        have s1 := Ts 1 _ rfl
        have s2 := Ts 2 _ rfl
        have s3 := Ts 3 _ rfl
        have s4 := Ts 4 _ rfl
        have s5 := Ts 5 _ rfl
        have s6 := Ts 6 _ rfl
        have s7 := Ts 7 _ rfl
        have s8 := Ts 8 _ rfl
        have s9 := Ts 9 _ rfl
        have x0 := Tx 0 _ rfl
        have x1 := Tx 1 _ rfl
        have x2 := Tx 2 _ rfl
        have x3 := Tx 3 _ rfl
        have x4 := Tx 4 _ rfl
        go_wp2_with fail
        refine (rvalid_at u true _ Vu.out).mono ?_
        clear r0 r1 r2 r3 r4 s0 s1 s2 s3 s4 s5 s6 s7 s8 s9 x0 x1 x2 x3 x4
        rintro e w5 ⟨rfl, b5⟩
        replace Tr := Tr.keep b5
        replace Ts := Ts.keep b5
        replace Tx := Tx.keep b5
        replace BB := bstep BB b5
        clear b5
        have r0 := Tr 0 _ rfl
        have r1 := Tr 1 _ rfl
        have r2 := Tr 2 _ rfl
        have r3 := Tr 3 _ rfl
        have r4 := Tr 4 _ rfl
        have s0 := Ts 0 _ rfl
        have s1 := Ts 1 _ rfl
        have s2 := Ts 2 _ rfl
        have s3 := Ts 3 _ rfl
        have s4 := Ts 4 _ rfl
        have s5 := Ts 5 _ rfl
        have s6 := Ts 6 _ rfl
        have s7 := Ts 7 _ rfl
        have s8 := Ts 8 _ rfl
        have s9 := Ts 9 _ rfl
        have x0 := Tx 0 _ rfl
        have x1 := Tx 1 _ rfl
        have x2 := Tx 2 _ rfl
        have x3 := Tx 3 _ rfl
        have x4 := Tx 4 _ rfl
        go_wp2_with fail
        refine (better_at r.l u.l false _ Lu.out).mono ?_
        clear r0 r1 r2 r3 r4 s0 s1 s2 s3 s4 s5 s6 s7 s8 s9 x0 x1 x2 x3 x4
        rintro e w6 ⟨rfl, b6⟩
        replace Tr := Tr.keep b6
        replace Ts := Ts.keep b6
        replace Tx := Tx.keep b6
        replace BB := bstep BB b6
        clear b6
        have r0 := Tr 0 _ rfl
        have r1 := Tr 1 _ rfl
        have r2 := Tr 2 _ rfl
        have r3 := Tr 3 _ rfl
        have r4 := Tr 4 _ rfl
        have s0 := Ts 0 _ rfl
        have s1 := Ts 1 _ rfl
        have s2 := Ts 2 _ rfl
        have s3 := Ts 3 _ rfl
        have s4 := Ts 4 _ rfl
        have s5 := Ts 5 _ rfl
        have s6 := Ts 6 _ rfl
        have s7 := Ts 7 _ rfl
        have s8 := Ts 8 _ rfl
        have s9 := Ts 9 _ rfl
        have x0 := Tx 0 _ rfl
        have x1 := Tx 1 _ rfl
        have x2 := Tx 2 _ rfl
        have x3 := Tx 3 _ rfl
        have x4 := Tx 4 _ rfl
        go_wp2_with fail
        refine (better_at u.o u.l false _ Ou.out).mono ?_
        clear r0 r1 r2 r3 r4 s0 s1 s2 s3 s4 s5 s6 s7 s8 s9 x0 x1 x2 x3 x4
        rintro e w7 ⟨rfl, b7⟩
        replace Tr := Tr.keep b7
        replace Ts := Ts.keep b7
        replace Tx := Tx.keep b7
        replace BB := bstep BB b7
        clear b7
        have r0 := Tr 0 _ rfl
        have r1 := Tr 1 _ rfl
        have r2 := Tr 2 _ rfl
        have r3 := Tr 3 _ rfl
        have r4 := Tr 4 _ rfl
        have s0 := Ts 0 _ rfl
        have s1 := Ts 1 _ rfl
        have s2 := Ts 2 _ rfl
        have s3 := Ts 3 _ rfl
        have s4 := Ts 4 _ rfl
        have s5 := Ts 5 _ rfl
        have s6 := Ts 6 _ rfl
        have s7 := Ts 7 _ rfl
        have s8 := Ts 8 _ rfl
        have s9 := Ts 9 _ rfl
        have x0 := Tx 0 _ rfl
        have x1 := Tx 1 _ rfl
        have x2 := Tx 2 _ rfl
        have x3 := Tx 3 _ rfl
        have x4 := Tx 4 _ rfl
        go_wp2_with fail
        go_roundw
        case rel => exact ⟨.inr <| .inr (by first | rfl | go_num | simp), BB, Tr, Ts⟩
        case measure => simp [intOf]
      ·
        go_wp2_with fail
        go_ret
        exact ⟨rfl, BB⟩
theorem lawValid (r : Rt) (q : Int) (a : Option Addr) (cap : Nat) (l : List Ofr) (w : World) (hl : OfAt w a l) (hm : l.length ≤ maxLen) : Calls Try.prog 5 #[r.v, .slice a l.length cap, .int .i64 q] w (Yes true w) := by
  by_cases h80 : (80 : Int) < (l.length : Int)
  · exact valid_0 r q _ a cap l w (Lib.hid rfl) hl (Lib.hid hm) h80
  cases hv : validR r
  · exact valid_1 r q _ a cap l w (Lib.hid rfl) hl (Lib.hid hm) h80 (Lib.hid hv)
  obtain ⟨c1, c2, c3, c4⟩ := choose_valid (l := l) hv
  obtain ⟨u1, u2, u3, u4⟩ := renew_valid q hv
  exact valid_2 r q _ a cap l w (Lib.hid rfl) hl (Lib.hid hm) h80 (Lib.hid hv) _ _ (Lib.hid rfl) (Lib.hid rfl) (Lib.hid c1) (Lib.hid c2) (Lib.hid c3) (by omega) (Lib.hid u1) (Lib.hid u2) (Lib.hid u3) (by omega)
end Go.Proofs.Ytbonchnhngaicaa
