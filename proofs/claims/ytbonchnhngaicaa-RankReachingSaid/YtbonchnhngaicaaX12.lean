/- Proved: that the law RankMatchesReference of the statements returns true for every input. Conditions: the list lies in memory. -/
import Derived.Test.YtbonchnhngaicaaX11
namespace Go.Proofs.Ytbonchnhngaicaa
open Go.RowKit Go.Sort Go.BigFrame
set_option linter.unusedVariables false
set_option linter.unusedSimpArgs false
attribute [local go_sem] cell_alloc_old
attribute [local go_sem ↓] Go.wp_at_zero Go.wp_at_succ

set_option maxRecDepth 100000 in
set_option maxHeartbeats 1000000 in
theorem matches_0 (r : Rt) (t o : Ds) (root : Bool) (q : Int) (n : Nat) (a : Option Addr) (cap : Nat) (l : List Ofr) (w : World) (hn : Hid (n = l.length)) (hl : OfAt w a l) (hm : Hid (l.length ≤ maxLen)) (h80 : (80 : Int) < n) : Calls Try.prog 3 #[r.v, .slice a n cap, t.v, o.v, .bool root, .int .i64 q] w (Yes true w) := by
  go_enter Try.func3, Try.ntmps3
  go_wp2_with fail
  have Tr := CAt.new (w) [.int .i64 r.o.s, .int .i64 r.o.r, .int .i64 r.l.s, .int .i64 r.l.r, .int .i64 r.p] 25
  replace hl := hl.keep (Below.alloc (Below.refl _ (w)) (Nat.le_refl _) (.cells #[.int .i64 r.o.s, .int .i64 r.o.r, .int .i64 r.l.s, .int .i64 r.l.r, .int .i64 r.p] 25))
  have BB : Below w.heap.size w ((w).alloc (.cells #[.int .i64 r.o.s, .int .i64 r.o.r, .int .i64 r.l.s, .int .i64 r.l.r, .int .i64 r.p] 25)) := ball (Below.refl _ _) _
  have Tt := CAt.new (w.alloc (.cells #[.int .i64 r.o.s, .int .i64 r.o.r, .int .i64 r.l.s, .int .i64 r.l.r, .int .i64 r.p] 25)) [.int .i64 t.s, .int .i64 t.r] 23
  replace Tr := Tr.alloc (.cells #[.int .i64 t.s, .int .i64 t.r] 23)
  replace hl := hl.keep (Below.alloc (Below.refl _ (w.alloc (.cells #[.int .i64 r.o.s, .int .i64 r.o.r, .int .i64 r.l.s, .int .i64 r.l.r, .int .i64 r.p] 25))) (Nat.le_refl _) (.cells #[.int .i64 t.s, .int .i64 t.r] 23))
  replace BB := ball BB (.cells #[.int .i64 t.s, .int .i64 t.r] 23)
  have To := CAt.new ((w.alloc (.cells #[.int .i64 r.o.s, .int .i64 r.o.r, .int .i64 r.l.s, .int .i64 r.l.r, .int .i64 r.p] 25)).alloc (.cells #[.int .i64 t.s, .int .i64 t.r] 23)) [.int .i64 o.s, .int .i64 o.r] 23
  replace Tr := Tr.alloc (.cells #[.int .i64 o.s, .int .i64 o.r] 23)
  replace Tt := Tt.alloc (.cells #[.int .i64 o.s, .int .i64 o.r] 23)
  replace hl := hl.keep (Below.alloc (Below.refl _ ((w.alloc (.cells #[.int .i64 r.o.s, .int .i64 r.o.r, .int .i64 r.l.s, .int .i64 r.l.r, .int .i64 r.p] 25)).alloc (.cells #[.int .i64 t.s, .int .i64 t.r] 23))) (Nat.le_refl _) (.cells #[.int .i64 o.s, .int .i64 o.r] 23))
  replace BB := ball BB (.cells #[.int .i64 o.s, .int .i64 o.r] 23)
  simp only [World.size_alloc, Nat.add_assoc, Nat.reduceAdd] at Tt To
  obtain ⟨V1, hV1⟩ : ∃ V1, ((w.alloc (.cells #[.int .i64 r.o.s, .int .i64 r.o.r, .int .i64 r.l.s, .int .i64 r.l.r, .int .i64 r.p] 25)).alloc (.cells #[.int .i64 t.s, .int .i64 t.r] 23)).alloc (.cells #[.int .i64 o.s, .int .i64 o.r] 23) = V1 := ⟨_, rfl⟩
  rw [hV1] at BB Tr Tt To hl ⊢
  clear hV1
  refine (head_any V1).mono ?_
  rintro e w2 ⟨rfl, b2⟩
  replace Tr := Tr.keep b2
  replace Tt := Tt.keep b2
  replace To := To.keep b2
  replace hl := hl.keep b2
  replace BB := bstep BB b2
  clear b2
  have r0 := Tr 0 _ rfl
  have r1 := Tr 1 _ rfl
  have r2 := Tr 2 _ rfl
  have r3 := Tr 3 _ rfl
  have r4 := Tr 4 _ rfl
  have t0 := Tt 0 _ rfl
  have t1 := Tt 1 _ rfl
  have o0 := To 0 _ rfl
  have o1 := To 1 _ rfl
  go_wp2_with fail
  go_ret
  exact ⟨rfl, BB⟩
set_option maxRecDepth 100000 in
set_option maxHeartbeats 1000000 in
theorem matches_1 (r : Rt) (t o : Ds) (root : Bool) (q : Int) (n : Nat) (a : Option Addr) (cap : Nat) (l : List Ofr) (w : World) (hn : Hid (n = l.length)) (hl : OfAt w a l) (hm : Hid (l.length ≤ maxLen)) (h80 : ¬ (80 : Int) < n) (A1 A2 A3 : Rt) (y1 y2 : Bool) (HS : Hid (startV root q = A1)) (HB : Hid (betterB t o = y1)) (HF : Hid (feasB r t = y2)) (HC : Hid (chooseV r l = A2)) (HR : Hid (renewV r q = A3)) : Calls Try.prog 3 #[r.v, .slice a n cap, t.v, o.v, .bool root, .int .i64 q] w (Yes true w) := by
  go_enter Try.func3, Try.ntmps3
  go_wp2_with fail
  have Tr := CAt.new (w) [.int .i64 r.o.s, .int .i64 r.o.r, .int .i64 r.l.s, .int .i64 r.l.r, .int .i64 r.p] 25
  replace hl := hl.keep (Below.alloc (Below.refl _ (w)) (Nat.le_refl _) (.cells #[.int .i64 r.o.s, .int .i64 r.o.r, .int .i64 r.l.s, .int .i64 r.l.r, .int .i64 r.p] 25))
  have BB : Below w.heap.size w ((w).alloc (.cells #[.int .i64 r.o.s, .int .i64 r.o.r, .int .i64 r.l.s, .int .i64 r.l.r, .int .i64 r.p] 25)) := ball (Below.refl _ _) _
  have Tt := CAt.new (w.alloc (.cells #[.int .i64 r.o.s, .int .i64 r.o.r, .int .i64 r.l.s, .int .i64 r.l.r, .int .i64 r.p] 25)) [.int .i64 t.s, .int .i64 t.r] 23
  replace Tr := Tr.alloc (.cells #[.int .i64 t.s, .int .i64 t.r] 23)
  replace hl := hl.keep (Below.alloc (Below.refl _ (w.alloc (.cells #[.int .i64 r.o.s, .int .i64 r.o.r, .int .i64 r.l.s, .int .i64 r.l.r, .int .i64 r.p] 25))) (Nat.le_refl _) (.cells #[.int .i64 t.s, .int .i64 t.r] 23))
  replace BB := ball BB (.cells #[.int .i64 t.s, .int .i64 t.r] 23)
  have To := CAt.new ((w.alloc (.cells #[.int .i64 r.o.s, .int .i64 r.o.r, .int .i64 r.l.s, .int .i64 r.l.r, .int .i64 r.p] 25)).alloc (.cells #[.int .i64 t.s, .int .i64 t.r] 23)) [.int .i64 o.s, .int .i64 o.r] 23
  replace Tr := Tr.alloc (.cells #[.int .i64 o.s, .int .i64 o.r] 23)
  replace Tt := Tt.alloc (.cells #[.int .i64 o.s, .int .i64 o.r] 23)
  replace hl := hl.keep (Below.alloc (Below.refl _ ((w.alloc (.cells #[.int .i64 r.o.s, .int .i64 r.o.r, .int .i64 r.l.s, .int .i64 r.l.r, .int .i64 r.p] 25)).alloc (.cells #[.int .i64 t.s, .int .i64 t.r] 23))) (Nat.le_refl _) (.cells #[.int .i64 o.s, .int .i64 o.r] 23))
  replace BB := ball BB (.cells #[.int .i64 o.s, .int .i64 o.r] 23)
  simp only [World.size_alloc, Nat.add_assoc, Nat.reduceAdd] at Tt To
  obtain ⟨V1, hV1⟩ : ∃ V1, ((w.alloc (.cells #[.int .i64 r.o.s, .int .i64 r.o.r, .int .i64 r.l.s, .int .i64 r.l.r, .int .i64 r.p] 25)).alloc (.cells #[.int .i64 t.s, .int .i64 t.r] 23)).alloc (.cells #[.int .i64 o.s, .int .i64 o.r] 23) = V1 := ⟨_, rfl⟩
  rw [hV1] at BB Tr Tt To hl ⊢
  clear hV1
  refine (head_any V1).mono ?_
  rintro e w2 ⟨rfl, b2⟩
  replace Tr := Tr.keep b2
  replace Tt := Tt.keep b2
  replace To := To.keep b2
  replace hl := hl.keep b2
  replace BB := bstep BB b2
  clear b2
  have r0 := Tr 0 _ rfl
  have r1 := Tr 1 _ rfl
  have r2 := Tr 2 _ rfl
  have r3 := Tr 3 _ rfl
  have r4 := Tr 4 _ rfl
  have t0 := Tt 0 _ rfl
  have t1 := Tt 1 _ rfl
  have o0 := To 0 _ rfl
  have o1 := To 1 _ rfl
  go_upto_region 4 with (fail)
  clear r0 r1 r2 r3 r4 t0 t1 o0 o1
  have r0 := Tr 0 _ rfl
  have kr0 := cell_regrown r0
  have r1 := Tr 1 _ rfl
  have kr1 := cell_regrown r1
  have r2 := Tr 2 _ rfl
  have kr2 := cell_regrown r2
  have r3 := Tr 3 _ rfl
  have kr3 := cell_regrown r3
  have r4 := Tr 4 _ rfl
  have kr4 := cell_regrown r4
  have t0 := Tt 0 _ rfl
  have kt0 := cell_regrown t0
  have t1 := Tt 1 _ rfl
  have kt1 := cell_regrown t1
  have o0 := To 0 _ rfl
  have ko0 := cell_regrown o0
  have o1 := To 1 _ rfl
  have ko1 := cell_regrown o1
  refine wp_region_quiet_below (by kernel_rfl) (by kernel_rfl) ?_
  repeat (go_big_quiet_step (first
    | (go_at_call 12; exact rg_of fun w' h => start_at root q A1 w' HS.out)
    | (go_at_call 13; exact rg_of fun w' h => rstart_at root q A1 w' HS.out)
    | (go_at_call 14; exact rg_of fun w' h => better_at t o y1 w' HB.out)
    | (go_at_call 15; exact rg_of fun w' h => rbetter_at t o y1 w' HB.out)
    | (go_at_call 16; exact rg_of fun w' h => feas_at r t y2 w' HF.out)
    | (go_at_call 17; exact rg_of fun w' h => rfeas_at r t y2 w' HF.out)
    | (go_at_call 18; exact rg_of fun w' h => choose_at r A2 n a cap l w' hn.out (hl.keep h) hm.out HC.out)
    | (go_at_call 19; exact rg_of fun w' h => rchoose_at r A2 n a cap l w' hn.out (hl.keep h) hm.out HC.out)
    | (go_at_call 20; exact rg_of fun w' h => renew_at r A3 q w' HR.out)
    | (go_at_call 21; exact rg_of fun w' h => rrenew_at r A3 q w' HR.out)))
  refine wpQuiet_nil ?_
  intro _ hw'
  obtain ⟨⟨dq, osq⟩, hw''⟩ := hw'
  subst hw''
  clear r0 kr0 r1 kr1 r2 kr2 r3 kr3 r4 kr4 t0 kt0 t1 kt1 o0 ko0 o1 ko1
  have bq := below_regrown w2 dq osq
  obtain ⟨V3, hV3⟩ : ∃ V3, grow (redrawn w2 dq) osq = V3 := ⟨_, rfl⟩
  rw [hV3] at bq ⊢
  clear hV3 dq osq
  replace Tr := Tr.keep bq
  replace Tt := Tt.keep bq
  replace To := To.keep bq
  replace hl := hl.keep bq
  replace BB := bstep BB bq
  clear bq
  go_wp2_with fail
  go_ret
  exact ⟨by simp, BB⟩
theorem lawMatches (r : Rt) (t o : Ds) (root : Bool) (q : Int) (a : Option Addr) (cap : Nat) (l : List Ofr) (w : World) (hl : OfAt w a l) (hm : l.length ≤ maxLen) : Calls Try.prog 3 #[r.v, .slice a l.length cap, t.v, o.v, .bool root, .int .i64 q] w (Yes true w) := by
  by_cases h80 : (80 : Int) < (l.length : Int)
  · exact matches_0 r t o root q _ a cap l w (Lib.hid rfl) hl (Lib.hid hm) h80
  · exact matches_1 r t o root q _ a cap l w (Lib.hid rfl) hl (Lib.hid hm) h80 _ _ _ _ _ (Lib.hid rfl) (Lib.hid rfl) (Lib.hid rfl) (Lib.hid rfl) (Lib.hid rfl)
end Go.Proofs.Ytbonchnhngaicaa
