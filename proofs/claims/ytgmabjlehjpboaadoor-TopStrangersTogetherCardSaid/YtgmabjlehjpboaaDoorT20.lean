/- Proved: how a sponsor hears a word: its refusals, and how it hands a word on to what handles its kind. Conditions: the list is valid and lies in memory; the frame is right. -/
import Derived.Test.YtgmabjlehjpboaaDoorT19
namespace Go.Proofs.YtgmabjlehjpboaaDoor
open Go.RowKit Go.Sort Go.BigFrame Go.Proofs.YtgmabjlehjpboaaDoor.K
set_option linter.unusedVariables false
set_option linter.unusedSimpArgs false
attribute [local go_sem] cell_alloc_old

open Go.Maps Go.Shelf
theorem hx0 (a b c d : Value) (w : World) : Sem.run Tryd.prog (Instr.index 83 (.agg #[a, b, c, d]) (.int .i64 0)) w = .ok (.agg #[a, b]) w := by kernel_rfl
theorem hx1 (a b c d : Value) (w : World) : Sem.run Tryd.prog (Instr.index 83 (.agg #[a, b, c, d]) (.int .i64 1)) w = .ok (.agg #[c, d]) w := by kernel_rfl
attribute [local go_sem] hx0 hx1
/-- The word is refused. -/
def Refused (err : Int) (w : World) (e : Ending) (w' : World) : Prop := e = .returned (.tuple #[.slice none 0 0, .int .i64 err]) ∧ Below w.heap.size w w'
/-- A list that has a property is returned. -/
def Heard (Φ : List Hf → Prop) (w : World) (e : Ending) (w' : World) : Prop := ∃ L a m c, Φ L ∧ e = .returned (.tuple #[.slice a m c, .int .i64 0]) ∧ Hid (m = L.length) ∧ HsAt w' a L ∧ Below w.heap.size w w' ∧ Fresh w.heap.size a 
set_option maxRecDepth 100000 in
set_option maxHeartbeats 4000000 in
theorem hear_r1 (l : List Hf) (q : Nat) (a : Option Addr) (cap : Nat) (me fr k s p n c key f y : Int) (w : World) (ok : OkL l) (hq : Hid (q = l.length)) (hl : HsAt w a l) (hfr : inB fr 999999988 = true) (hfm : formedB ⟨k, s, p, n, c, key, f, y⟩ = false) :
    Calls Tryd.prog 15 #[.slice a q cap, .int .i64 me, (⟨k, s, p, n, c, key, f, y⟩ : Wd).v, .int .i64 fr] w (Refused 1 w) := by
  have OK := Lib.hid ok; clear ok
  have HFR := Lib.hid hfr; clear hfr
  have HFM := Lib.hid hfm; clear hfm
  go_enter Tryd.func15, Tryd.ntmps15
  go_upto_region 1 with (fail)
  have Tt := CAt.new (w) [.int .i64 k, .int .i64 s, .int .i64 p, .int .i64 n, .int .i64 c, .int .i64 key, .int .i64 f, .int .i64 y] 43
  have BB : Below w.heap.size w ((w).alloc (.cells #[.int .i64 k, .int .i64 s, .int .i64 p, .int .i64 n, .int .i64 c, .int .i64 key, .int .i64 f, .int .i64 y] 43)) := ball (Below.refl _ _) _
  obtain ⟨V1, hV1⟩ : ∃ V1, w.alloc (.cells #[.int .i64 k, .int .i64 s, .int .i64 p, .int .i64 n, .int .i64 c, .int .i64 key, .int .i64 f, .int .i64 y] 43) = V1 := ⟨_, rfl⟩
  rw [hV1] at BB Tt ⊢
  clear hV1
  have t0 := Tt 0 _ rfl
  have t1 := Tt 1 _ rfl
  have t2 := Tt 2 _ rfl
  have t3 := Tt 3 _ rfl
  have t4 := Tt 4 _ rfl
  have t5 := Tt 5 _ rfl
  have t6 := Tt 6 _ rfl
  have t7 := Tt 7 _ rfl
  go_wp2_with fail
  refine (svalid_at l q a cap V1 OK.out hq (hl.keep BB)).mono ?_
  clear t0 t1 t2 t3 t4 t5 t6 t7
  rintro e w2 ⟨rfl, b2⟩
  replace Tt := Tt.keep b2
  replace BB := bstep BB b2
  clear b2
  have t0 := Tt 0 _ rfl
  have t1 := Tt 1 _ rfl
  have t2 := Tt 2 _ rfl
  have t3 := Tt 3 _ rfl
  have t4 := Tt 4 _ rfl
  have t5 := Tt 5 _ rfl
  have t6 := Tt 6 _ rfl
  have t7 := Tt 7 _ rfl
  go_wp2_with fail
  refine (isword_at ⟨k, s, p, n, c, key, f, y⟩ false w2 HFM.out).mono ?_
  clear t0 t1 t2 t3 t4 t5 t6 t7
  rintro e w3 ⟨rfl, b3⟩
  replace Tt := Tt.keep b3
  replace BB := bstep BB b3
  clear b3
  have t0 := Tt 0 _ rfl
  have t1 := Tt 1 _ rfl
  have t2 := Tt 2 _ rfl
  have t3 := Tt 3 _ rfl
  have t4 := Tt 4 _ rfl
  have t5 := Tt 5 _ rfl
  have t6 := Tt 6 _ rfl
  have t7 := Tt 7 _ rfl
  go_wp2_with fail
  go_ret2
  exact ⟨rfl, BB⟩
set_option maxRecDepth 100000 in
set_option maxHeartbeats 4000000 in
theorem hear_r2 (l : List Hf) (q : Nat) (a : Option Addr) (cap : Nat) (me fr k s p n c key f y : Int) (w : World) (ok : OkL l) (hq : Hid (q = l.length)) (hl : HsAt w a l) (hfr : inB fr 999999988 = true) (hfm : formedB ⟨k, s, p, n, c, key, f, y⟩ = true) (hp : ¬ p = me) :
    Calls Tryd.prog 15 #[.slice a q cap, .int .i64 me, (⟨k, s, p, n, c, key, f, y⟩ : Wd).v, .int .i64 fr] w (Refused 1 w) := by
  have OK := Lib.hid ok; clear ok
  have HFR := Lib.hid hfr; clear hfr
  have HFM := Lib.hid hfm; clear hfm
  go_enter Tryd.func15, Tryd.ntmps15
  go_upto_region 1 with (fail)
  have Tt := CAt.new (w) [.int .i64 k, .int .i64 s, .int .i64 p, .int .i64 n, .int .i64 c, .int .i64 key, .int .i64 f, .int .i64 y] 43
  have BB : Below w.heap.size w ((w).alloc (.cells #[.int .i64 k, .int .i64 s, .int .i64 p, .int .i64 n, .int .i64 c, .int .i64 key, .int .i64 f, .int .i64 y] 43)) := ball (Below.refl _ _) _
  obtain ⟨V1, hV1⟩ : ∃ V1, w.alloc (.cells #[.int .i64 k, .int .i64 s, .int .i64 p, .int .i64 n, .int .i64 c, .int .i64 key, .int .i64 f, .int .i64 y] 43) = V1 := ⟨_, rfl⟩
  rw [hV1] at BB Tt ⊢
  clear hV1
  have t0 := Tt 0 _ rfl
  have t1 := Tt 1 _ rfl
  have t2 := Tt 2 _ rfl
  have t3 := Tt 3 _ rfl
  have t4 := Tt 4 _ rfl
  have t5 := Tt 5 _ rfl
  have t6 := Tt 6 _ rfl
  have t7 := Tt 7 _ rfl
  go_wp2_with fail
  refine (svalid_at l q a cap V1 OK.out hq (hl.keep BB)).mono ?_
  clear t0 t1 t2 t3 t4 t5 t6 t7
  rintro e w2 ⟨rfl, b2⟩
  replace Tt := Tt.keep b2
  replace BB := bstep BB b2
  clear b2
  have t0 := Tt 0 _ rfl
  have t1 := Tt 1 _ rfl
  have t2 := Tt 2 _ rfl
  have t3 := Tt 3 _ rfl
  have t4 := Tt 4 _ rfl
  have t5 := Tt 5 _ rfl
  have t6 := Tt 6 _ rfl
  have t7 := Tt 7 _ rfl
  go_wp2_with fail
  refine (isword_at ⟨k, s, p, n, c, key, f, y⟩ true w2 HFM.out).mono ?_
  clear t0 t1 t2 t3 t4 t5 t6 t7
  rintro e w3 ⟨rfl, b3⟩
  replace Tt := Tt.keep b3
  replace BB := bstep BB b3
  clear b3
  have t0 := Tt 0 _ rfl
  have t1 := Tt 1 _ rfl
  have t2 := Tt 2 _ rfl
  have t3 := Tt 3 _ rfl
  have t4 := Tt 4 _ rfl
  have t5 := Tt 5 _ rfl
  have t6 := Tt 6 _ rfl
  have t7 := Tt 7 _ rfl
  go_wp2_with fail
  go_ret2
  exact ⟨rfl, BB⟩
set_option maxRecDepth 100000 in
set_option maxHeartbeats 4000000 in
theorem hear_r3 (l : List Hf) (q : Nat) (a : Option Addr) (cap : Nat) (me fr k s p n c key f y : Int) (w : World) (ok : OkL l) (hq : Hid (q = l.length)) (hl : HsAt w a l) (hfr : inB fr 999999988 = true) (hfm : formedB ⟨k, s, p, n, c, key, f, y⟩ = true) (hp : p = me) (hky : inB key 2000000 = false) :
    Calls Tryd.prog 15 #[.slice a q cap, .int .i64 me, (⟨k, s, p, n, c, key, f, y⟩ : Wd).v, .int .i64 fr] w (Refused 1 w) := by
  have OK := Lib.hid ok; clear ok
  have HFR := Lib.hid hfr; clear hfr
  subst hp
  have HFM := Lib.hid hfm; clear hfm
  have HKY := Lib.hid hky; clear hky
  go_enter Tryd.func15, Tryd.ntmps15
  go_upto_region 1 with (fail)
  have Tt := CAt.new (w) [.int .i64 k, .int .i64 s, .int .i64 p, .int .i64 n, .int .i64 c, .int .i64 key, .int .i64 f, .int .i64 y] 43
  have BB : Below w.heap.size w ((w).alloc (.cells #[.int .i64 k, .int .i64 s, .int .i64 p, .int .i64 n, .int .i64 c, .int .i64 key, .int .i64 f, .int .i64 y] 43)) := ball (Below.refl _ _) _
  obtain ⟨V1, hV1⟩ : ∃ V1, w.alloc (.cells #[.int .i64 k, .int .i64 s, .int .i64 p, .int .i64 n, .int .i64 c, .int .i64 key, .int .i64 f, .int .i64 y] 43) = V1 := ⟨_, rfl⟩
  rw [hV1] at BB Tt ⊢
  clear hV1
  have t0 := Tt 0 _ rfl
  have t1 := Tt 1 _ rfl
  have t2 := Tt 2 _ rfl
  have t3 := Tt 3 _ rfl
  have t4 := Tt 4 _ rfl
  have t5 := Tt 5 _ rfl
  have t6 := Tt 6 _ rfl
  have t7 := Tt 7 _ rfl
  go_wp2_with fail
  refine (svalid_at l q a cap V1 OK.out hq (hl.keep BB)).mono ?_
  clear t0 t1 t2 t3 t4 t5 t6 t7
  rintro e w2 ⟨rfl, b2⟩
  replace Tt := Tt.keep b2
  replace BB := bstep BB b2
  clear b2
  have t0 := Tt 0 _ rfl
  have t1 := Tt 1 _ rfl
  have t2 := Tt 2 _ rfl
  have t3 := Tt 3 _ rfl
  have t4 := Tt 4 _ rfl
  have t5 := Tt 5 _ rfl
  have t6 := Tt 6 _ rfl
  have t7 := Tt 7 _ rfl
  go_wp2_with fail
  refine (isword_at ⟨k, s, p, n, c, key, f, y⟩ true w2 HFM.out).mono ?_
  clear t0 t1 t2 t3 t4 t5 t6 t7
  rintro e w3 ⟨rfl, b3⟩
  replace Tt := Tt.keep b3
  replace BB := bstep BB b3
  clear b3
  have t0 := Tt 0 _ rfl
  have t1 := Tt 1 _ rfl
  have t2 := Tt 2 _ rfl
  have t3 := Tt 3 _ rfl
  have t4 := Tt 4 _ rfl
  have t5 := Tt 5 _ rfl
  have t6 := Tt 6 _ rfl
  have t7 := Tt 7 _ rfl
  go_wp2_with fail
  refine (in_at key 2000000 false _ HKY.out).mono ?_
  rintro e w' ⟨rfl, rfl⟩
  go_wp2_with fail
  go_ret2
  exact ⟨rfl, BB⟩
set_option maxRecDepth 100000 in
set_option maxHeartbeats 4000000 in
theorem hear_k1 (l : List Hf) (q : Nat) (a : Option Addr) (cap : Nat) (me fr s p n c key f y : Int) (w : World) (ok : OkL l) (hq : Hid (q = l.length)) (hl : HsAt w a l) (hfr : inB fr 999999988 = true) (hfm : formedB ⟨1, s, p, n, c, key, f, y⟩ = true) (hp : p = me) (hky : inB key 2000000 = true) (Φ : List Hf → Prop) (hΦ : ∀ L, Φ L → Srt L ∧ L.length ≤ 60 ∧ ∀ x ∈ L, I64 x.s) (hA : ∀ (b : Nat) (w' : World), TabH w' b l.length l → Below w.heap.size w w' → Calls Tryd.prog 32 #[.agg #[.map (some b), .int .i64 fr], (⟨1, s, p, n, c, key, f, y⟩ : Wd).v] w' fun e w'' => ∃ L, Φ L ∧ Turned b l.length 0 L w' e w'') :
    Calls Tryd.prog 15 #[.slice a q cap, .int .i64 me, (⟨1, s, p, n, c, key, f, y⟩ : Wd).v, .int .i64 fr] w (Heard Φ w) := by
  have OK := Lib.hid ok; clear ok
  have HFR := Lib.hid hfr; clear hfr
  subst hp
  have HFM := Lib.hid hfm; clear hfm
  have HKY := Lib.hid hky; clear hky
  go_enter Tryd.func15, Tryd.ntmps15
  go_upto_region 1 with (fail)
  have Tt := CAt.new (w) [.int .i64 1, .int .i64 s, .int .i64 p, .int .i64 n, .int .i64 c, .int .i64 key, .int .i64 f, .int .i64 y] 43
  have BB : Below w.heap.size w ((w).alloc (.cells #[.int .i64 1, .int .i64 s, .int .i64 p, .int .i64 n, .int .i64 c, .int .i64 key, .int .i64 f, .int .i64 y] 43)) := ball (Below.refl _ _) _
  obtain ⟨V1, hV1⟩ : ∃ V1, w.alloc (.cells #[.int .i64 1, .int .i64 s, .int .i64 p, .int .i64 n, .int .i64 c, .int .i64 key, .int .i64 f, .int .i64 y] 43) = V1 := ⟨_, rfl⟩
  rw [hV1] at BB Tt ⊢
  clear hV1
  have t0 := Tt 0 _ rfl
  have t1 := Tt 1 _ rfl
  have t2 := Tt 2 _ rfl
  have t3 := Tt 3 _ rfl
  have t4 := Tt 4 _ rfl
  have t5 := Tt 5 _ rfl
  have t6 := Tt 6 _ rfl
  have t7 := Tt 7 _ rfl
  go_wp2_with fail
  refine (svalid_at l q a cap V1 OK.out hq (hl.keep BB)).mono ?_
  clear t0 t1 t2 t3 t4 t5 t6 t7
  rintro e w2 ⟨rfl, b2⟩
  replace Tt := Tt.keep b2
  replace BB := bstep BB b2
  clear b2
  have t0 := Tt 0 _ rfl
  have t1 := Tt 1 _ rfl
  have t2 := Tt 2 _ rfl
  have t3 := Tt 3 _ rfl
  have t4 := Tt 4 _ rfl
  have t5 := Tt 5 _ rfl
  have t6 := Tt 6 _ rfl
  have t7 := Tt 7 _ rfl
  go_wp2_with fail
  refine (isword_at ⟨1, s, p, n, c, key, f, y⟩ true w2 HFM.out).mono ?_
  clear t0 t1 t2 t3 t4 t5 t6 t7
  rintro e w3 ⟨rfl, b3⟩
  replace Tt := Tt.keep b3
  replace BB := bstep BB b3
  clear b3
  have t0 := Tt 0 _ rfl
  have t1 := Tt 1 _ rfl
  have t2 := Tt 2 _ rfl
  have t3 := Tt 3 _ rfl
  have t4 := Tt 4 _ rfl
  have t5 := Tt 5 _ rfl
  have t6 := Tt 6 _ rfl
  have t7 := Tt 7 _ rfl
  go_wp2_with fail
  refine (in_at key 2000000 true _ HKY.out).mono ?_
  rintro e w' ⟨rfl, rfl⟩
  go_wp2_with fail
  refine (in_at fr 999999988 true _ HFR.out).mono ?_
  rintro e w' ⟨rfl, rfl⟩
  have hmm := @run_makeMap Tryd.prog
  go_upto_region 4 with (fail)
  clear hmm
  clear t0 t1 t2 t3 t4 t5 t6 t7
  have bs : w.heap.size ≤ w3.heap.size := BB.size
  have ltt : w.heap.size < w3.heap.size := World.block_lt_of_cell? w3 ⟨w.heap.size, 0, none⟩ (Tt 0 _ rfl)
  have hT := TabH.made w3
  have Td := CAt.new (w3.alloc (.map #[] 0)) [.map (some w3.heap.size), .int .i64 fr] 78
  simp only [World.size_alloc] at Td
  replace hT := hT.keep (ball (Below.refl _ _) (.cells #[.map (some w3.heap.size), .int .i64 fr] 78))
  replace Tt := (Tt.alloc (.map #[] 0)).alloc (.cells #[.map (some w3.heap.size), .int .i64 fr] 78)
  replace BB := ball (ball BB (.map #[] 0)) (.cells #[.map (some w3.heap.size), .int .i64 fr] 78)
  obtain ⟨U, hU⟩ : ∃ U, (w3.alloc (.map #[] 0)).alloc (.cells #[.map (some w3.heap.size), .int .i64 fr] 78) = U := ⟨_, rfl⟩
  rw [hU] at BB Tt Td hT ⊢
  clear hU
  obtain ⟨b, hb⟩ : ∃ b, w3.heap.size = b := ⟨_, rfl⟩
  rw [hb] at bs ltt hT Td ⊢
  clear hb
  have h4 : q ≤ 4 := by rw [hq.out]; exact OK.out.len
  go_upto_region 5 with (fail)
  go_loopw [46] (fun i wr => ∃ j : Nat, j ≤ q ∧ i = .int .i64 j ∧ Below w.heap.size w wr ∧ CAt wr w.heap.size [.int .i64 1, .int .i64 s, .int .i64 p, .int .i64 n, .int .i64 c, .int .i64 key, .int .i64 f, .int .i64 y] ∧ CAt wr (b + 1) [.map (some b), .int .i64 fr] ∧ TabH wr b j (l.take j)) (fun i _ => q - (intOf i).toNat)
  case atStart => exact ⟨0, Nat.zero_le _, rfl, BB, Tt, Td, hT⟩
  case round =>
    clear BB Tt Td hT
    obtain ⟨j, hj, rfl, BB, Tt, Td, hT⟩ := hrel
    by_cases hlt : j < q
    · have hlt' : (j : Int) < (q : Int) := by omega
      have hk0 : (0 : Int) ≤ (j : Int) := by omega
      have hwk : IntKind.i64.wrap ((j : Int) + 1) = (j : Int) + 1 := IntWalk.i64_in _ (by omega)
      have hjl : j < l.length := by rw [← hq.out]; exact hlt
      obtain ⟨ab, off, e1, c0, c1, c2, c3, c4, c5⟩ := hl.hf BB (i := j) hjl
      have hpt := put_take OK.out.srt hjl
      have h64 := OK.out.i64 _ (getD_mem hjl)
      obtain ⟨x, hx⟩ : ∃ x, l.getD j default = x := ⟨_, rfl⟩
      rw [hx] at c0 c1 c2 c3 c4 c5 hpt h64
      clear hx hjl
      subst e1
      go_upto_region 7 with (fail)
      have bs4 : w.heap.size ≤ wr.heap.size := BB.size
      have lt4t : w.heap.size < wr.heap.size := World.block_lt_of_cell? wr ⟨w.heap.size, 0, none⟩ (Tt 0 _ rfl)
      have lt4d : b + 1 < wr.heap.size := World.block_lt_of_cell? wr ⟨b + 1, 0, none⟩ (Td 0 _ rfl)
      have Tx := CAt.new (wr) [.int .i64 x.s, .int .i64 x.n, .int .i64 x.c, .int .i64 x.u, .bool x.pr, .int .i64 x.k] 70
      replace Tt := Tt.alloc (.cells #[.int .i64 x.s, .int .i64 x.n, .int .i64 x.c, .int .i64 x.u, .bool x.pr, .int .i64 x.k] 70)
      replace Td := Td.alloc (.cells #[.int .i64 x.s, .int .i64 x.n, .int .i64 x.c, .int .i64 x.u, .bool x.pr, .int .i64 x.k] 70)
      replace hT := hT.keep (Below.alloc (Below.refl _ (wr)) (Nat.le_refl _) (.cells #[.int .i64 x.s, .int .i64 x.n, .int .i64 x.c, .int .i64 x.u, .bool x.pr, .int .i64 x.k] 70))
      replace BB := ball BB (.cells #[.int .i64 x.s, .int .i64 x.n, .int .i64 x.c, .int .i64 x.u, .bool x.pr, .int .i64 x.k] 70)
      obtain ⟨V4, hV4⟩ : ∃ V4, wr.alloc (.cells #[.int .i64 x.s, .int .i64 x.n, .int .i64 x.c, .int .i64 x.u, .bool x.pr, .int .i64 x.k] 70) = V4 := ⟨_, rfl⟩
      rw [hV4] at BB Tt Td Tx hT ⊢
      clear hV4
      obtain ⟨k4, hk4⟩ : ∃ k4, wr.heap.size = k4 := ⟨_, rfl⟩
      rw [hk4] at Tx bs4 lt4t lt4d ⊢
      clear hk4
      obtain ⟨w9, hrun, hT9, hg9⟩ := hT.put (by unfold maxLen; omega) x h64
      rw [hpt] at hT9
      have x0 := Tx 0 _ rfl
      have x1 := Tx 1 _ rfl
      have x2 := Tx 2 _ rfl
      have x3 := Tx 3 _ rfl
      have x4 := Tx 4 _ rfl
      have x5 := Tx 5 _ rfl
      have d0 := Td 0 _ rfl
      have d1 := Td 1 _ rfl
      go_wp2_with fail
      have hbw : w.heap.size ≤ b := bs
      replace BB := BB.grown hg9 BB.size (fun i hi => by cases hi; exact hbw)
      replace Tt := Tt.grown hg9 (fun e => by have := Option.some.inj e; omega)
      replace Td := Td.grown hg9 (fun e => by have := Option.some.inj e; omega)
      go_roundw
      case rel => exact ⟨j + 1, by omega, by go_num, BB, Tt, Td, hT9⟩
      case measure => simp [intOf]; omega
    · have hkn : j = q := by omega
      subst hkn
      have hlt' : ¬ (j : Int) < (j : Int) := by omega
      have hall : l.take j = l := by rw [hq.out]; exact List.take_length
      rw [hall, hq.out] at hT
      clear hall
      go_upto_region 10 with (fail)
      refine wp_loop_rounds 3 ?_
      rw [rounds_succ]
      have t0 := Tt 0 _ rfl
      have t1 := Tt 1 _ rfl
      have t2 := Tt 2 _ rfl
      have t3 := Tt 3 _ rfl
      have t4 := Tt 4 _ rfl
      have t5 := Tt 5 _ rfl
      have t6 := Tt 6 _ rfl
      have t7 := Tt 7 _ rfl
      go_upto_region 12 with (fail)
      clear t0 t1 t2 t3 t4 t5 t6 t7
      have bs4 : w.heap.size ≤ wr.heap.size := BB.size
      have lt4t : w.heap.size < wr.heap.size := World.block_lt_of_cell? wr ⟨w.heap.size, 0, none⟩ (Tt 0 _ rfl)
      have lt4d : b + 1 < wr.heap.size := World.block_lt_of_cell? wr ⟨b + 1, 0, none⟩ (Td 0 _ rfl)
      have Th := CAt.new (wr) [.int .i64 1, .func (.func 32) #[] #[]] 82
      replace Tt := Tt.alloc (.cells #[.int .i64 1, .func (.func 32) #[] #[]] 82)
      replace Td := Td.alloc (.cells #[.int .i64 1, .func (.func 32) #[] #[]] 82)
      replace hT := hT.keep (Below.alloc (Below.refl _ (wr)) (Nat.le_refl _) (.cells #[.int .i64 1, .func (.func 32) #[] #[]] 82))
      replace BB := ball BB (.cells #[.int .i64 1, .func (.func 32) #[] #[]] 82)
      obtain ⟨V4, hV4⟩ : ∃ V4, wr.alloc (.cells #[.int .i64 1, .func (.func 32) #[] #[]] 82) = V4 := ⟨_, rfl⟩
      rw [hV4] at BB Tt Td Th hT ⊢
      clear hV4
      obtain ⟨k4, hk4⟩ : ∃ k4, wr.heap.size = k4 := ⟨_, rfl⟩
      rw [hk4] at Th bs4 lt4t lt4d ⊢
      clear hk4
      have t0 := Tt 0 _ rfl
      have t1 := Tt 1 _ rfl
      have t2 := Tt 2 _ rfl
      have t3 := Tt 3 _ rfl
      have t4 := Tt 4 _ rfl
      have t5 := Tt 5 _ rfl
      have t6 := Tt 6 _ rfl
      have t7 := Tt 7 _ rfl
      have h0 := Th 0 _ rfl
      have h1 := Th 1 _ rfl
      have d0 := Td 0 _ rfl
      have d1 := Td 1 _ rfl
      go_wp2_with fail
      clear t0 t1 t2 t3 t4 t5 t6 t7 h0 h1 d0 d1
      refine (hA b V4 hT BB).mono ?_
      rintro e w8 ⟨L, hL, rfl, hT8, hg8⟩
      have hbw : w.heap.size ≤ b := bs
      replace BB := BB.grown hg8 BB.size (fun i hi => by cases hi; exact hbw)
      replace Td := Td.grown hg8 (fun e => by have := Option.some.inj e; omega)
      clear hT Tt Th
      have d0 := Td 0 _ rfl
      have d1 := Td 1 _ rfl
      go_wp2_with fail
      obtain ⟨hs1, hs2, hs3⟩ := hΦ L hL
      refine (list_at b _ L w8 hT8 hs1 hs2 hs3).mono ?_
      rintro e w9 ⟨a9, m9, c9, rfl, hm9, hl9, b9, f9⟩
      clear d0 d1
      go_wp2_with fail
      go_ret2
      exact ⟨L, a9, m9, c9, hL, rfl, hm9, hl9, bstep BB b9, f9.le BB.size⟩
set_option maxRecDepth 100000 in
set_option maxHeartbeats 4000000 in
theorem hear_k1e (l : List Hf) (q : Nat) (a : Option Addr) (cap : Nat) (me fr s p n c key f y : Int) (w : World) (ok : OkL l) (hq : Hid (q = l.length)) (hl : HsAt w a l) (hfr : inB fr 999999988 = true) (hfm : formedB ⟨1, s, p, n, c, key, f, y⟩ = true) (hp : p = me) (hky : inB key 2000000 = true) (Φ : List Hf → Prop) (err : Int) (herr : ¬ err = 0) (hA : ∀ (b : Nat) (w' : World), TabH w' b l.length l → Below w.heap.size w w' → Calls Tryd.prog 32 #[.agg #[.map (some b), .int .i64 fr], (⟨1, s, p, n, c, key, f, y⟩ : Wd).v] w' fun e w'' => ∃ L, Φ L ∧ Turned b l.length err L w' e w'') :
    Calls Tryd.prog 15 #[.slice a q cap, .int .i64 me, (⟨1, s, p, n, c, key, f, y⟩ : Wd).v, .int .i64 fr] w (Refused err w) := by
  have OK := Lib.hid ok; clear ok
  have HFR := Lib.hid hfr; clear hfr
  subst hp
  have HFM := Lib.hid hfm; clear hfm
  have HKY := Lib.hid hky; clear hky
  go_enter Tryd.func15, Tryd.ntmps15
  go_upto_region 1 with (fail)
  have Tt := CAt.new (w) [.int .i64 1, .int .i64 s, .int .i64 p, .int .i64 n, .int .i64 c, .int .i64 key, .int .i64 f, .int .i64 y] 43
  have BB : Below w.heap.size w ((w).alloc (.cells #[.int .i64 1, .int .i64 s, .int .i64 p, .int .i64 n, .int .i64 c, .int .i64 key, .int .i64 f, .int .i64 y] 43)) := ball (Below.refl _ _) _
  obtain ⟨V1, hV1⟩ : ∃ V1, w.alloc (.cells #[.int .i64 1, .int .i64 s, .int .i64 p, .int .i64 n, .int .i64 c, .int .i64 key, .int .i64 f, .int .i64 y] 43) = V1 := ⟨_, rfl⟩
  rw [hV1] at BB Tt ⊢
  clear hV1
  have t0 := Tt 0 _ rfl
  have t1 := Tt 1 _ rfl
  have t2 := Tt 2 _ rfl
  have t3 := Tt 3 _ rfl
  have t4 := Tt 4 _ rfl
  have t5 := Tt 5 _ rfl
  have t6 := Tt 6 _ rfl
  have t7 := Tt 7 _ rfl
  go_wp2_with fail
  refine (svalid_at l q a cap V1 OK.out hq (hl.keep BB)).mono ?_
  clear t0 t1 t2 t3 t4 t5 t6 t7
  rintro e w2 ⟨rfl, b2⟩
  replace Tt := Tt.keep b2
  replace BB := bstep BB b2
  clear b2
  have t0 := Tt 0 _ rfl
  have t1 := Tt 1 _ rfl
  have t2 := Tt 2 _ rfl
  have t3 := Tt 3 _ rfl
  have t4 := Tt 4 _ rfl
  have t5 := Tt 5 _ rfl
  have t6 := Tt 6 _ rfl
  have t7 := Tt 7 _ rfl
  go_wp2_with fail
  refine (isword_at ⟨1, s, p, n, c, key, f, y⟩ true w2 HFM.out).mono ?_
  clear t0 t1 t2 t3 t4 t5 t6 t7
  rintro e w3 ⟨rfl, b3⟩
  replace Tt := Tt.keep b3
  replace BB := bstep BB b3
  clear b3
  have t0 := Tt 0 _ rfl
  have t1 := Tt 1 _ rfl
  have t2 := Tt 2 _ rfl
  have t3 := Tt 3 _ rfl
  have t4 := Tt 4 _ rfl
  have t5 := Tt 5 _ rfl
  have t6 := Tt 6 _ rfl
  have t7 := Tt 7 _ rfl
  go_wp2_with fail
  refine (in_at key 2000000 true _ HKY.out).mono ?_
  rintro e w' ⟨rfl, rfl⟩
  go_wp2_with fail
  refine (in_at fr 999999988 true _ HFR.out).mono ?_
  rintro e w' ⟨rfl, rfl⟩
  have hmm := @run_makeMap Tryd.prog
  go_upto_region 4 with (fail)
  clear hmm
  clear t0 t1 t2 t3 t4 t5 t6 t7
  have bs : w.heap.size ≤ w3.heap.size := BB.size
  have ltt : w.heap.size < w3.heap.size := World.block_lt_of_cell? w3 ⟨w.heap.size, 0, none⟩ (Tt 0 _ rfl)
  have hT := TabH.made w3
  have Td := CAt.new (w3.alloc (.map #[] 0)) [.map (some w3.heap.size), .int .i64 fr] 78
  simp only [World.size_alloc] at Td
  replace hT := hT.keep (ball (Below.refl _ _) (.cells #[.map (some w3.heap.size), .int .i64 fr] 78))
  replace Tt := (Tt.alloc (.map #[] 0)).alloc (.cells #[.map (some w3.heap.size), .int .i64 fr] 78)
  replace BB := ball (ball BB (.map #[] 0)) (.cells #[.map (some w3.heap.size), .int .i64 fr] 78)
  obtain ⟨U, hU⟩ : ∃ U, (w3.alloc (.map #[] 0)).alloc (.cells #[.map (some w3.heap.size), .int .i64 fr] 78) = U := ⟨_, rfl⟩
  rw [hU] at BB Tt Td hT ⊢
  clear hU
  obtain ⟨b, hb⟩ : ∃ b, w3.heap.size = b := ⟨_, rfl⟩
  rw [hb] at bs ltt hT Td ⊢
  clear hb
  have h4 : q ≤ 4 := by rw [hq.out]; exact OK.out.len
  go_upto_region 5 with (fail)
  go_loopw [46] (fun i wr => ∃ j : Nat, j ≤ q ∧ i = .int .i64 j ∧ Below w.heap.size w wr ∧ CAt wr w.heap.size [.int .i64 1, .int .i64 s, .int .i64 p, .int .i64 n, .int .i64 c, .int .i64 key, .int .i64 f, .int .i64 y] ∧ CAt wr (b + 1) [.map (some b), .int .i64 fr] ∧ TabH wr b j (l.take j)) (fun i _ => q - (intOf i).toNat)
  case atStart => exact ⟨0, Nat.zero_le _, rfl, BB, Tt, Td, hT⟩
  case round =>
    clear BB Tt Td hT
    obtain ⟨j, hj, rfl, BB, Tt, Td, hT⟩ := hrel
    by_cases hlt : j < q
    · have hlt' : (j : Int) < (q : Int) := by omega
      have hk0 : (0 : Int) ≤ (j : Int) := by omega
      have hwk : IntKind.i64.wrap ((j : Int) + 1) = (j : Int) + 1 := IntWalk.i64_in _ (by omega)
      have hjl : j < l.length := by rw [← hq.out]; exact hlt
      obtain ⟨ab, off, e1, c0, c1, c2, c3, c4, c5⟩ := hl.hf BB (i := j) hjl
      have hpt := put_take OK.out.srt hjl
      have h64 := OK.out.i64 _ (getD_mem hjl)
      obtain ⟨x, hx⟩ : ∃ x, l.getD j default = x := ⟨_, rfl⟩
      rw [hx] at c0 c1 c2 c3 c4 c5 hpt h64
      clear hx hjl
      subst e1
      go_upto_region 7 with (fail)
      have bs4 : w.heap.size ≤ wr.heap.size := BB.size
      have lt4t : w.heap.size < wr.heap.size := World.block_lt_of_cell? wr ⟨w.heap.size, 0, none⟩ (Tt 0 _ rfl)
      have lt4d : b + 1 < wr.heap.size := World.block_lt_of_cell? wr ⟨b + 1, 0, none⟩ (Td 0 _ rfl)
      have Tx := CAt.new (wr) [.int .i64 x.s, .int .i64 x.n, .int .i64 x.c, .int .i64 x.u, .bool x.pr, .int .i64 x.k] 70
      replace Tt := Tt.alloc (.cells #[.int .i64 x.s, .int .i64 x.n, .int .i64 x.c, .int .i64 x.u, .bool x.pr, .int .i64 x.k] 70)
      replace Td := Td.alloc (.cells #[.int .i64 x.s, .int .i64 x.n, .int .i64 x.c, .int .i64 x.u, .bool x.pr, .int .i64 x.k] 70)
      replace hT := hT.keep (Below.alloc (Below.refl _ (wr)) (Nat.le_refl _) (.cells #[.int .i64 x.s, .int .i64 x.n, .int .i64 x.c, .int .i64 x.u, .bool x.pr, .int .i64 x.k] 70))
      replace BB := ball BB (.cells #[.int .i64 x.s, .int .i64 x.n, .int .i64 x.c, .int .i64 x.u, .bool x.pr, .int .i64 x.k] 70)
      obtain ⟨V4, hV4⟩ : ∃ V4, wr.alloc (.cells #[.int .i64 x.s, .int .i64 x.n, .int .i64 x.c, .int .i64 x.u, .bool x.pr, .int .i64 x.k] 70) = V4 := ⟨_, rfl⟩
      rw [hV4] at BB Tt Td Tx hT ⊢
      clear hV4
      obtain ⟨k4, hk4⟩ : ∃ k4, wr.heap.size = k4 := ⟨_, rfl⟩
      rw [hk4] at Tx bs4 lt4t lt4d ⊢
      clear hk4
      obtain ⟨w9, hrun, hT9, hg9⟩ := hT.put (by unfold maxLen; omega) x h64
      rw [hpt] at hT9
      have x0 := Tx 0 _ rfl
      have x1 := Tx 1 _ rfl
      have x2 := Tx 2 _ rfl
      have x3 := Tx 3 _ rfl
      have x4 := Tx 4 _ rfl
      have x5 := Tx 5 _ rfl
      have d0 := Td 0 _ rfl
      have d1 := Td 1 _ rfl
      go_wp2_with fail
      have hbw : w.heap.size ≤ b := bs
      replace BB := BB.grown hg9 BB.size (fun i hi => by cases hi; exact hbw)
      replace Tt := Tt.grown hg9 (fun e => by have := Option.some.inj e; omega)
      replace Td := Td.grown hg9 (fun e => by have := Option.some.inj e; omega)
      go_roundw
      case rel => exact ⟨j + 1, by omega, by go_num, BB, Tt, Td, hT9⟩
      case measure => simp [intOf]; omega
    · have hkn : j = q := by omega
      subst hkn
      have hlt' : ¬ (j : Int) < (j : Int) := by omega
      have hall : l.take j = l := by rw [hq.out]; exact List.take_length
      rw [hall, hq.out] at hT
      clear hall
      go_upto_region 10 with (fail)
      refine wp_loop_rounds 3 ?_
      rw [rounds_succ]
      have t0 := Tt 0 _ rfl
      have t1 := Tt 1 _ rfl
      have t2 := Tt 2 _ rfl
      have t3 := Tt 3 _ rfl
      have t4 := Tt 4 _ rfl
      have t5 := Tt 5 _ rfl
      have t6 := Tt 6 _ rfl
      have t7 := Tt 7 _ rfl
      go_upto_region 12 with (fail)
      clear t0 t1 t2 t3 t4 t5 t6 t7
      have bs4 : w.heap.size ≤ wr.heap.size := BB.size
      have lt4t : w.heap.size < wr.heap.size := World.block_lt_of_cell? wr ⟨w.heap.size, 0, none⟩ (Tt 0 _ rfl)
      have lt4d : b + 1 < wr.heap.size := World.block_lt_of_cell? wr ⟨b + 1, 0, none⟩ (Td 0 _ rfl)
      have Th := CAt.new (wr) [.int .i64 1, .func (.func 32) #[] #[]] 82
      replace Tt := Tt.alloc (.cells #[.int .i64 1, .func (.func 32) #[] #[]] 82)
      replace Td := Td.alloc (.cells #[.int .i64 1, .func (.func 32) #[] #[]] 82)
      replace hT := hT.keep (Below.alloc (Below.refl _ (wr)) (Nat.le_refl _) (.cells #[.int .i64 1, .func (.func 32) #[] #[]] 82))
      replace BB := ball BB (.cells #[.int .i64 1, .func (.func 32) #[] #[]] 82)
      obtain ⟨V4, hV4⟩ : ∃ V4, wr.alloc (.cells #[.int .i64 1, .func (.func 32) #[] #[]] 82) = V4 := ⟨_, rfl⟩
      rw [hV4] at BB Tt Td Th hT ⊢
      clear hV4
      obtain ⟨k4, hk4⟩ : ∃ k4, wr.heap.size = k4 := ⟨_, rfl⟩
      rw [hk4] at Th bs4 lt4t lt4d ⊢
      clear hk4
      have t0 := Tt 0 _ rfl
      have t1 := Tt 1 _ rfl
      have t2 := Tt 2 _ rfl
      have t3 := Tt 3 _ rfl
      have t4 := Tt 4 _ rfl
      have t5 := Tt 5 _ rfl
      have t6 := Tt 6 _ rfl
      have t7 := Tt 7 _ rfl
      have h0 := Th 0 _ rfl
      have h1 := Th 1 _ rfl
      have d0 := Td 0 _ rfl
      have d1 := Td 1 _ rfl
      go_wp2_with fail
      clear t0 t1 t2 t3 t4 t5 t6 t7 h0 h1 d0 d1
      refine (hA b V4 hT BB).mono ?_
      rintro e w8 ⟨L, hL, rfl, hT8, hg8⟩
      have hbw : w.heap.size ≤ b := bs
      replace BB := BB.grown hg8 BB.size (fun i hi => by cases hi; exact hbw)
      replace Td := Td.grown hg8 (fun e => by have := Option.some.inj e; omega)
      clear hT Tt Th
      have d0 := Td 0 _ rfl
      have d1 := Td 1 _ rfl
      go_wp2_with fail
      go_ret2
      exact ⟨rfl, BB⟩
set_option maxRecDepth 100000 in
set_option maxHeartbeats 4000000 in
theorem hear_k3 (l : List Hf) (q : Nat) (a : Option Addr) (cap : Nat) (me fr s p n c key f y : Int) (w : World) (ok : OkL l) (hq : Hid (q = l.length)) (hl : HsAt w a l) (hfr : inB fr 999999988 = true) (hfm : formedB ⟨3, s, p, n, c, key, f, y⟩ = true) (hp : p = me) (hky : inB key 2000000 = true) (Φ : List Hf → Prop) (hΦ : ∀ L, Φ L → Srt L ∧ L.length ≤ 60 ∧ ∀ x ∈ L, I64 x.s) (hA : ∀ (b : Nat) (w' : World), TabH w' b l.length l → Below w.heap.size w w' → Calls Tryd.prog 33 #[.agg #[.map (some b), .int .i64 fr], (⟨3, s, p, n, c, key, f, y⟩ : Wd).v] w' fun e w'' => ∃ L, Φ L ∧ Turned b l.length 0 L w' e w'') :
    Calls Tryd.prog 15 #[.slice a q cap, .int .i64 me, (⟨3, s, p, n, c, key, f, y⟩ : Wd).v, .int .i64 fr] w (Heard Φ w) := by
  have OK := Lib.hid ok; clear ok
  have HFR := Lib.hid hfr; clear hfr
  subst hp
  have HFM := Lib.hid hfm; clear hfm
  have HKY := Lib.hid hky; clear hky
  go_enter Tryd.func15, Tryd.ntmps15
  go_upto_region 1 with (fail)
  have Tt := CAt.new (w) [.int .i64 3, .int .i64 s, .int .i64 p, .int .i64 n, .int .i64 c, .int .i64 key, .int .i64 f, .int .i64 y] 43
  have BB : Below w.heap.size w ((w).alloc (.cells #[.int .i64 3, .int .i64 s, .int .i64 p, .int .i64 n, .int .i64 c, .int .i64 key, .int .i64 f, .int .i64 y] 43)) := ball (Below.refl _ _) _
  obtain ⟨V1, hV1⟩ : ∃ V1, w.alloc (.cells #[.int .i64 3, .int .i64 s, .int .i64 p, .int .i64 n, .int .i64 c, .int .i64 key, .int .i64 f, .int .i64 y] 43) = V1 := ⟨_, rfl⟩
  rw [hV1] at BB Tt ⊢
  clear hV1
  have t0 := Tt 0 _ rfl
  have t1 := Tt 1 _ rfl
  have t2 := Tt 2 _ rfl
  have t3 := Tt 3 _ rfl
  have t4 := Tt 4 _ rfl
  have t5 := Tt 5 _ rfl
  have t6 := Tt 6 _ rfl
  have t7 := Tt 7 _ rfl
  go_wp2_with fail
  refine (svalid_at l q a cap V1 OK.out hq (hl.keep BB)).mono ?_
  clear t0 t1 t2 t3 t4 t5 t6 t7
  rintro e w2 ⟨rfl, b2⟩
  replace Tt := Tt.keep b2
  replace BB := bstep BB b2
  clear b2
  have t0 := Tt 0 _ rfl
  have t1 := Tt 1 _ rfl
  have t2 := Tt 2 _ rfl
  have t3 := Tt 3 _ rfl
  have t4 := Tt 4 _ rfl
  have t5 := Tt 5 _ rfl
  have t6 := Tt 6 _ rfl
  have t7 := Tt 7 _ rfl
  go_wp2_with fail
  refine (isword_at ⟨3, s, p, n, c, key, f, y⟩ true w2 HFM.out).mono ?_
  clear t0 t1 t2 t3 t4 t5 t6 t7
  rintro e w3 ⟨rfl, b3⟩
  replace Tt := Tt.keep b3
  replace BB := bstep BB b3
  clear b3
  have t0 := Tt 0 _ rfl
  have t1 := Tt 1 _ rfl
  have t2 := Tt 2 _ rfl
  have t3 := Tt 3 _ rfl
  have t4 := Tt 4 _ rfl
  have t5 := Tt 5 _ rfl
  have t6 := Tt 6 _ rfl
  have t7 := Tt 7 _ rfl
  go_wp2_with fail
  refine (in_at key 2000000 true _ HKY.out).mono ?_
  rintro e w' ⟨rfl, rfl⟩
  go_wp2_with fail
  refine (in_at fr 999999988 true _ HFR.out).mono ?_
  rintro e w' ⟨rfl, rfl⟩
  have hmm := @run_makeMap Tryd.prog
  go_upto_region 4 with (fail)
  clear hmm
  clear t0 t1 t2 t3 t4 t5 t6 t7
  have bs : w.heap.size ≤ w3.heap.size := BB.size
  have ltt : w.heap.size < w3.heap.size := World.block_lt_of_cell? w3 ⟨w.heap.size, 0, none⟩ (Tt 0 _ rfl)
  have hT := TabH.made w3
  have Td := CAt.new (w3.alloc (.map #[] 0)) [.map (some w3.heap.size), .int .i64 fr] 78
  simp only [World.size_alloc] at Td
  replace hT := hT.keep (ball (Below.refl _ _) (.cells #[.map (some w3.heap.size), .int .i64 fr] 78))
  replace Tt := (Tt.alloc (.map #[] 0)).alloc (.cells #[.map (some w3.heap.size), .int .i64 fr] 78)
  replace BB := ball (ball BB (.map #[] 0)) (.cells #[.map (some w3.heap.size), .int .i64 fr] 78)
  obtain ⟨U, hU⟩ : ∃ U, (w3.alloc (.map #[] 0)).alloc (.cells #[.map (some w3.heap.size), .int .i64 fr] 78) = U := ⟨_, rfl⟩
  rw [hU] at BB Tt Td hT ⊢
  clear hU
  obtain ⟨b, hb⟩ : ∃ b, w3.heap.size = b := ⟨_, rfl⟩
  rw [hb] at bs ltt hT Td ⊢
  clear hb
  have h4 : q ≤ 4 := by rw [hq.out]; exact OK.out.len
  go_upto_region 5 with (fail)
  go_loopw [46] (fun i wr => ∃ j : Nat, j ≤ q ∧ i = .int .i64 j ∧ Below w.heap.size w wr ∧ CAt wr w.heap.size [.int .i64 3, .int .i64 s, .int .i64 p, .int .i64 n, .int .i64 c, .int .i64 key, .int .i64 f, .int .i64 y] ∧ CAt wr (b + 1) [.map (some b), .int .i64 fr] ∧ TabH wr b j (l.take j)) (fun i _ => q - (intOf i).toNat)
  case atStart => exact ⟨0, Nat.zero_le _, rfl, BB, Tt, Td, hT⟩
  case round =>
    clear BB Tt Td hT
    obtain ⟨j, hj, rfl, BB, Tt, Td, hT⟩ := hrel
    by_cases hlt : j < q
    · have hlt' : (j : Int) < (q : Int) := by omega
      have hk0 : (0 : Int) ≤ (j : Int) := by omega
      have hwk : IntKind.i64.wrap ((j : Int) + 1) = (j : Int) + 1 := IntWalk.i64_in _ (by omega)
      have hjl : j < l.length := by rw [← hq.out]; exact hlt
      obtain ⟨ab, off, e1, c0, c1, c2, c3, c4, c5⟩ := hl.hf BB (i := j) hjl
      have hpt := put_take OK.out.srt hjl
      have h64 := OK.out.i64 _ (getD_mem hjl)
      obtain ⟨x, hx⟩ : ∃ x, l.getD j default = x := ⟨_, rfl⟩
      rw [hx] at c0 c1 c2 c3 c4 c5 hpt h64
      clear hx hjl
      subst e1
      go_upto_region 7 with (fail)
      have bs4 : w.heap.size ≤ wr.heap.size := BB.size
      have lt4t : w.heap.size < wr.heap.size := World.block_lt_of_cell? wr ⟨w.heap.size, 0, none⟩ (Tt 0 _ rfl)
      have lt4d : b + 1 < wr.heap.size := World.block_lt_of_cell? wr ⟨b + 1, 0, none⟩ (Td 0 _ rfl)
      have Tx := CAt.new (wr) [.int .i64 x.s, .int .i64 x.n, .int .i64 x.c, .int .i64 x.u, .bool x.pr, .int .i64 x.k] 70
      replace Tt := Tt.alloc (.cells #[.int .i64 x.s, .int .i64 x.n, .int .i64 x.c, .int .i64 x.u, .bool x.pr, .int .i64 x.k] 70)
      replace Td := Td.alloc (.cells #[.int .i64 x.s, .int .i64 x.n, .int .i64 x.c, .int .i64 x.u, .bool x.pr, .int .i64 x.k] 70)
      replace hT := hT.keep (Below.alloc (Below.refl _ (wr)) (Nat.le_refl _) (.cells #[.int .i64 x.s, .int .i64 x.n, .int .i64 x.c, .int .i64 x.u, .bool x.pr, .int .i64 x.k] 70))
      replace BB := ball BB (.cells #[.int .i64 x.s, .int .i64 x.n, .int .i64 x.c, .int .i64 x.u, .bool x.pr, .int .i64 x.k] 70)
      obtain ⟨V4, hV4⟩ : ∃ V4, wr.alloc (.cells #[.int .i64 x.s, .int .i64 x.n, .int .i64 x.c, .int .i64 x.u, .bool x.pr, .int .i64 x.k] 70) = V4 := ⟨_, rfl⟩
      rw [hV4] at BB Tt Td Tx hT ⊢
      clear hV4
      obtain ⟨k4, hk4⟩ : ∃ k4, wr.heap.size = k4 := ⟨_, rfl⟩
      rw [hk4] at Tx bs4 lt4t lt4d ⊢
      clear hk4
      obtain ⟨w9, hrun, hT9, hg9⟩ := hT.put (by unfold maxLen; omega) x h64
      rw [hpt] at hT9
      have x0 := Tx 0 _ rfl
      have x1 := Tx 1 _ rfl
      have x2 := Tx 2 _ rfl
      have x3 := Tx 3 _ rfl
      have x4 := Tx 4 _ rfl
      have x5 := Tx 5 _ rfl
      have d0 := Td 0 _ rfl
      have d1 := Td 1 _ rfl
      go_wp2_with fail
      have hbw : w.heap.size ≤ b := bs
      replace BB := BB.grown hg9 BB.size (fun i hi => by cases hi; exact hbw)
      replace Tt := Tt.grown hg9 (fun e => by have := Option.some.inj e; omega)
      replace Td := Td.grown hg9 (fun e => by have := Option.some.inj e; omega)
      go_roundw
      case rel => exact ⟨j + 1, by omega, by go_num, BB, Tt, Td, hT9⟩
      case measure => simp [intOf]; omega
    · have hkn : j = q := by omega
      subst hkn
      have hlt' : ¬ (j : Int) < (j : Int) := by omega
      have hall : l.take j = l := by rw [hq.out]; exact List.take_length
      rw [hall, hq.out] at hT
      clear hall
      go_upto_region 10 with (fail)
      refine wp_loop_rounds 3 ?_
      rw [rounds_succ]
      have t0 := Tt 0 _ rfl
      have t1 := Tt 1 _ rfl
      have t2 := Tt 2 _ rfl
      have t3 := Tt 3 _ rfl
      have t4 := Tt 4 _ rfl
      have t5 := Tt 5 _ rfl
      have t6 := Tt 6 _ rfl
      have t7 := Tt 7 _ rfl
      go_upto_region 12 with (fail)
      clear t0 t1 t2 t3 t4 t5 t6 t7
      have bs4 : w.heap.size ≤ wr.heap.size := BB.size
      have lt4t : w.heap.size < wr.heap.size := World.block_lt_of_cell? wr ⟨w.heap.size, 0, none⟩ (Tt 0 _ rfl)
      have lt4d : b + 1 < wr.heap.size := World.block_lt_of_cell? wr ⟨b + 1, 0, none⟩ (Td 0 _ rfl)
      have Th := CAt.new (wr) [.int .i64 1, .func (.func 32) #[] #[]] 82
      replace Tt := Tt.alloc (.cells #[.int .i64 1, .func (.func 32) #[] #[]] 82)
      replace Td := Td.alloc (.cells #[.int .i64 1, .func (.func 32) #[] #[]] 82)
      replace hT := hT.keep (Below.alloc (Below.refl _ (wr)) (Nat.le_refl _) (.cells #[.int .i64 1, .func (.func 32) #[] #[]] 82))
      replace BB := ball BB (.cells #[.int .i64 1, .func (.func 32) #[] #[]] 82)
      obtain ⟨V4, hV4⟩ : ∃ V4, wr.alloc (.cells #[.int .i64 1, .func (.func 32) #[] #[]] 82) = V4 := ⟨_, rfl⟩
      rw [hV4] at BB Tt Td Th hT ⊢
      clear hV4
      obtain ⟨k4, hk4⟩ : ∃ k4, wr.heap.size = k4 := ⟨_, rfl⟩
      rw [hk4] at Th bs4 lt4t lt4d ⊢
      clear hk4
      have t0 := Tt 0 _ rfl
      have t1 := Tt 1 _ rfl
      have t2 := Tt 2 _ rfl
      have t3 := Tt 3 _ rfl
      have t4 := Tt 4 _ rfl
      have t5 := Tt 5 _ rfl
      have t6 := Tt 6 _ rfl
      have t7 := Tt 7 _ rfl
      have h0 := Th 0 _ rfl
      have h1 := Th 1 _ rfl
      go_wp2_with fail
      rw [rounds_succ]
      clear t0 t1 t2 t3 t4 t5 t6 t7 h0 h1
      clear Th
      have t0 := Tt 0 _ rfl
      have t1 := Tt 1 _ rfl
      have t2 := Tt 2 _ rfl
      have t3 := Tt 3 _ rfl
      have t4 := Tt 4 _ rfl
      have t5 := Tt 5 _ rfl
      have t6 := Tt 6 _ rfl
      have t7 := Tt 7 _ rfl
      go_upto_region 12 with (fail)
      clear t0 t1 t2 t3 t4 t5 t6 t7
      have bs5 : w.heap.size ≤ V4.heap.size := BB.size
      have lt5t : w.heap.size < V4.heap.size := World.block_lt_of_cell? V4 ⟨w.heap.size, 0, none⟩ (Tt 0 _ rfl)
      have lt5d : b + 1 < V4.heap.size := World.block_lt_of_cell? V4 ⟨b + 1, 0, none⟩ (Td 0 _ rfl)
      have Th := CAt.new (V4) [.int .i64 3, .func (.func 33) #[] #[]] 82
      replace Tt := Tt.alloc (.cells #[.int .i64 3, .func (.func 33) #[] #[]] 82)
      replace Td := Td.alloc (.cells #[.int .i64 3, .func (.func 33) #[] #[]] 82)
      replace hT := hT.keep (Below.alloc (Below.refl _ (V4)) (Nat.le_refl _) (.cells #[.int .i64 3, .func (.func 33) #[] #[]] 82))
      replace BB := ball BB (.cells #[.int .i64 3, .func (.func 33) #[] #[]] 82)
      obtain ⟨V5, hV5⟩ : ∃ V5, V4.alloc (.cells #[.int .i64 3, .func (.func 33) #[] #[]] 82) = V5 := ⟨_, rfl⟩
      rw [hV5] at BB Tt Td Th hT ⊢
      clear hV5
      obtain ⟨k5, hk5⟩ : ∃ k5, V4.heap.size = k5 := ⟨_, rfl⟩
      rw [hk5] at Th bs5 lt5t lt5d ⊢
      clear hk5
      have t0 := Tt 0 _ rfl
      have t1 := Tt 1 _ rfl
      have t2 := Tt 2 _ rfl
      have t3 := Tt 3 _ rfl
      have t4 := Tt 4 _ rfl
      have t5 := Tt 5 _ rfl
      have t6 := Tt 6 _ rfl
      have t7 := Tt 7 _ rfl
      have h0 := Th 0 _ rfl
      have h1 := Th 1 _ rfl
      have d0 := Td 0 _ rfl
      have d1 := Td 1 _ rfl
      go_wp2_with fail
      clear t0 t1 t2 t3 t4 t5 t6 t7 h0 h1 d0 d1
      refine (hA b V5 hT BB).mono ?_
      rintro e w8 ⟨L, hL, rfl, hT8, hg8⟩
      have hbw : w.heap.size ≤ b := bs
      replace BB := BB.grown hg8 BB.size (fun i hi => by cases hi; exact hbw)
      replace Td := Td.grown hg8 (fun e => by have := Option.some.inj e; omega)
      clear hT Tt Th
      have d0 := Td 0 _ rfl
      have d1 := Td 1 _ rfl
      go_wp2_with fail
      obtain ⟨hs1, hs2, hs3⟩ := hΦ L hL
      refine (list_at b _ L w8 hT8 hs1 hs2 hs3).mono ?_
      rintro e w9 ⟨a9, m9, c9, rfl, hm9, hl9, b9, f9⟩
      clear d0 d1
      go_wp2_with fail
      go_ret2
      exact ⟨L, a9, m9, c9, hL, rfl, hm9, hl9, bstep BB b9, f9.le BB.size⟩
set_option maxRecDepth 100000 in
set_option maxHeartbeats 4000000 in
theorem hear_k3e (l : List Hf) (q : Nat) (a : Option Addr) (cap : Nat) (me fr s p n c key f y : Int) (w : World) (ok : OkL l) (hq : Hid (q = l.length)) (hl : HsAt w a l) (hfr : inB fr 999999988 = true) (hfm : formedB ⟨3, s, p, n, c, key, f, y⟩ = true) (hp : p = me) (hky : inB key 2000000 = true) (Φ : List Hf → Prop) (err : Int) (herr : ¬ err = 0) (hA : ∀ (b : Nat) (w' : World), TabH w' b l.length l → Below w.heap.size w w' → Calls Tryd.prog 33 #[.agg #[.map (some b), .int .i64 fr], (⟨3, s, p, n, c, key, f, y⟩ : Wd).v] w' fun e w'' => ∃ L, Φ L ∧ Turned b l.length err L w' e w'') :
    Calls Tryd.prog 15 #[.slice a q cap, .int .i64 me, (⟨3, s, p, n, c, key, f, y⟩ : Wd).v, .int .i64 fr] w (Refused err w) := by
  have OK := Lib.hid ok; clear ok
  have HFR := Lib.hid hfr; clear hfr
  subst hp
  have HFM := Lib.hid hfm; clear hfm
  have HKY := Lib.hid hky; clear hky
  go_enter Tryd.func15, Tryd.ntmps15
  go_upto_region 1 with (fail)
  have Tt := CAt.new (w) [.int .i64 3, .int .i64 s, .int .i64 p, .int .i64 n, .int .i64 c, .int .i64 key, .int .i64 f, .int .i64 y] 43
  have BB : Below w.heap.size w ((w).alloc (.cells #[.int .i64 3, .int .i64 s, .int .i64 p, .int .i64 n, .int .i64 c, .int .i64 key, .int .i64 f, .int .i64 y] 43)) := ball (Below.refl _ _) _
  obtain ⟨V1, hV1⟩ : ∃ V1, w.alloc (.cells #[.int .i64 3, .int .i64 s, .int .i64 p, .int .i64 n, .int .i64 c, .int .i64 key, .int .i64 f, .int .i64 y] 43) = V1 := ⟨_, rfl⟩
  rw [hV1] at BB Tt ⊢
  clear hV1
  have t0 := Tt 0 _ rfl
  have t1 := Tt 1 _ rfl
  have t2 := Tt 2 _ rfl
  have t3 := Tt 3 _ rfl
  have t4 := Tt 4 _ rfl
  have t5 := Tt 5 _ rfl
  have t6 := Tt 6 _ rfl
  have t7 := Tt 7 _ rfl
  go_wp2_with fail
  refine (svalid_at l q a cap V1 OK.out hq (hl.keep BB)).mono ?_
  clear t0 t1 t2 t3 t4 t5 t6 t7
  rintro e w2 ⟨rfl, b2⟩
  replace Tt := Tt.keep b2
  replace BB := bstep BB b2
  clear b2
  have t0 := Tt 0 _ rfl
  have t1 := Tt 1 _ rfl
  have t2 := Tt 2 _ rfl
  have t3 := Tt 3 _ rfl
  have t4 := Tt 4 _ rfl
  have t5 := Tt 5 _ rfl
  have t6 := Tt 6 _ rfl
  have t7 := Tt 7 _ rfl
  go_wp2_with fail
  refine (isword_at ⟨3, s, p, n, c, key, f, y⟩ true w2 HFM.out).mono ?_
  clear t0 t1 t2 t3 t4 t5 t6 t7
  rintro e w3 ⟨rfl, b3⟩
  replace Tt := Tt.keep b3
  replace BB := bstep BB b3
  clear b3
  have t0 := Tt 0 _ rfl
  have t1 := Tt 1 _ rfl
  have t2 := Tt 2 _ rfl
  have t3 := Tt 3 _ rfl
  have t4 := Tt 4 _ rfl
  have t5 := Tt 5 _ rfl
  have t6 := Tt 6 _ rfl
  have t7 := Tt 7 _ rfl
  go_wp2_with fail
  refine (in_at key 2000000 true _ HKY.out).mono ?_
  rintro e w' ⟨rfl, rfl⟩
  go_wp2_with fail
  refine (in_at fr 999999988 true _ HFR.out).mono ?_
  rintro e w' ⟨rfl, rfl⟩
  have hmm := @run_makeMap Tryd.prog
  go_upto_region 4 with (fail)
  clear hmm
  clear t0 t1 t2 t3 t4 t5 t6 t7
  have bs : w.heap.size ≤ w3.heap.size := BB.size
  have ltt : w.heap.size < w3.heap.size := World.block_lt_of_cell? w3 ⟨w.heap.size, 0, none⟩ (Tt 0 _ rfl)
  have hT := TabH.made w3
  have Td := CAt.new (w3.alloc (.map #[] 0)) [.map (some w3.heap.size), .int .i64 fr] 78
  simp only [World.size_alloc] at Td
  replace hT := hT.keep (ball (Below.refl _ _) (.cells #[.map (some w3.heap.size), .int .i64 fr] 78))
  replace Tt := (Tt.alloc (.map #[] 0)).alloc (.cells #[.map (some w3.heap.size), .int .i64 fr] 78)
  replace BB := ball (ball BB (.map #[] 0)) (.cells #[.map (some w3.heap.size), .int .i64 fr] 78)
  obtain ⟨U, hU⟩ : ∃ U, (w3.alloc (.map #[] 0)).alloc (.cells #[.map (some w3.heap.size), .int .i64 fr] 78) = U := ⟨_, rfl⟩
  rw [hU] at BB Tt Td hT ⊢
  clear hU
  obtain ⟨b, hb⟩ : ∃ b, w3.heap.size = b := ⟨_, rfl⟩
  rw [hb] at bs ltt hT Td ⊢
  clear hb
  have h4 : q ≤ 4 := by rw [hq.out]; exact OK.out.len
  go_upto_region 5 with (fail)
  go_loopw [46] (fun i wr => ∃ j : Nat, j ≤ q ∧ i = .int .i64 j ∧ Below w.heap.size w wr ∧ CAt wr w.heap.size [.int .i64 3, .int .i64 s, .int .i64 p, .int .i64 n, .int .i64 c, .int .i64 key, .int .i64 f, .int .i64 y] ∧ CAt wr (b + 1) [.map (some b), .int .i64 fr] ∧ TabH wr b j (l.take j)) (fun i _ => q - (intOf i).toNat)
  case atStart => exact ⟨0, Nat.zero_le _, rfl, BB, Tt, Td, hT⟩
  case round =>
    clear BB Tt Td hT
    obtain ⟨j, hj, rfl, BB, Tt, Td, hT⟩ := hrel
    by_cases hlt : j < q
    · have hlt' : (j : Int) < (q : Int) := by omega
      have hk0 : (0 : Int) ≤ (j : Int) := by omega
      have hwk : IntKind.i64.wrap ((j : Int) + 1) = (j : Int) + 1 := IntWalk.i64_in _ (by omega)
      have hjl : j < l.length := by rw [← hq.out]; exact hlt
      obtain ⟨ab, off, e1, c0, c1, c2, c3, c4, c5⟩ := hl.hf BB (i := j) hjl
      have hpt := put_take OK.out.srt hjl
      have h64 := OK.out.i64 _ (getD_mem hjl)
      obtain ⟨x, hx⟩ : ∃ x, l.getD j default = x := ⟨_, rfl⟩
      rw [hx] at c0 c1 c2 c3 c4 c5 hpt h64
      clear hx hjl
      subst e1
      go_upto_region 7 with (fail)
      have bs4 : w.heap.size ≤ wr.heap.size := BB.size
      have lt4t : w.heap.size < wr.heap.size := World.block_lt_of_cell? wr ⟨w.heap.size, 0, none⟩ (Tt 0 _ rfl)
      have lt4d : b + 1 < wr.heap.size := World.block_lt_of_cell? wr ⟨b + 1, 0, none⟩ (Td 0 _ rfl)
      have Tx := CAt.new (wr) [.int .i64 x.s, .int .i64 x.n, .int .i64 x.c, .int .i64 x.u, .bool x.pr, .int .i64 x.k] 70
      replace Tt := Tt.alloc (.cells #[.int .i64 x.s, .int .i64 x.n, .int .i64 x.c, .int .i64 x.u, .bool x.pr, .int .i64 x.k] 70)
      replace Td := Td.alloc (.cells #[.int .i64 x.s, .int .i64 x.n, .int .i64 x.c, .int .i64 x.u, .bool x.pr, .int .i64 x.k] 70)
      replace hT := hT.keep (Below.alloc (Below.refl _ (wr)) (Nat.le_refl _) (.cells #[.int .i64 x.s, .int .i64 x.n, .int .i64 x.c, .int .i64 x.u, .bool x.pr, .int .i64 x.k] 70))
      replace BB := ball BB (.cells #[.int .i64 x.s, .int .i64 x.n, .int .i64 x.c, .int .i64 x.u, .bool x.pr, .int .i64 x.k] 70)
      obtain ⟨V4, hV4⟩ : ∃ V4, wr.alloc (.cells #[.int .i64 x.s, .int .i64 x.n, .int .i64 x.c, .int .i64 x.u, .bool x.pr, .int .i64 x.k] 70) = V4 := ⟨_, rfl⟩
      rw [hV4] at BB Tt Td Tx hT ⊢
      clear hV4
      obtain ⟨k4, hk4⟩ : ∃ k4, wr.heap.size = k4 := ⟨_, rfl⟩
      rw [hk4] at Tx bs4 lt4t lt4d ⊢
      clear hk4
      obtain ⟨w9, hrun, hT9, hg9⟩ := hT.put (by unfold maxLen; omega) x h64
      rw [hpt] at hT9
      have x0 := Tx 0 _ rfl
      have x1 := Tx 1 _ rfl
      have x2 := Tx 2 _ rfl
      have x3 := Tx 3 _ rfl
      have x4 := Tx 4 _ rfl
      have x5 := Tx 5 _ rfl
      have d0 := Td 0 _ rfl
      have d1 := Td 1 _ rfl
      go_wp2_with fail
      have hbw : w.heap.size ≤ b := bs
      replace BB := BB.grown hg9 BB.size (fun i hi => by cases hi; exact hbw)
      replace Tt := Tt.grown hg9 (fun e => by have := Option.some.inj e; omega)
      replace Td := Td.grown hg9 (fun e => by have := Option.some.inj e; omega)
      go_roundw
      case rel => exact ⟨j + 1, by omega, by go_num, BB, Tt, Td, hT9⟩
      case measure => simp [intOf]; omega
    · have hkn : j = q := by omega
      subst hkn
      have hlt' : ¬ (j : Int) < (j : Int) := by omega
      have hall : l.take j = l := by rw [hq.out]; exact List.take_length
      rw [hall, hq.out] at hT
      clear hall
      go_upto_region 10 with (fail)
      refine wp_loop_rounds 3 ?_
      rw [rounds_succ]
      have t0 := Tt 0 _ rfl
      have t1 := Tt 1 _ rfl
      have t2 := Tt 2 _ rfl
      have t3 := Tt 3 _ rfl
      have t4 := Tt 4 _ rfl
      have t5 := Tt 5 _ rfl
      have t6 := Tt 6 _ rfl
      have t7 := Tt 7 _ rfl
      go_upto_region 12 with (fail)
      clear t0 t1 t2 t3 t4 t5 t6 t7
      have bs4 : w.heap.size ≤ wr.heap.size := BB.size
      have lt4t : w.heap.size < wr.heap.size := World.block_lt_of_cell? wr ⟨w.heap.size, 0, none⟩ (Tt 0 _ rfl)
      have lt4d : b + 1 < wr.heap.size := World.block_lt_of_cell? wr ⟨b + 1, 0, none⟩ (Td 0 _ rfl)
      have Th := CAt.new (wr) [.int .i64 1, .func (.func 32) #[] #[]] 82
      replace Tt := Tt.alloc (.cells #[.int .i64 1, .func (.func 32) #[] #[]] 82)
      replace Td := Td.alloc (.cells #[.int .i64 1, .func (.func 32) #[] #[]] 82)
      replace hT := hT.keep (Below.alloc (Below.refl _ (wr)) (Nat.le_refl _) (.cells #[.int .i64 1, .func (.func 32) #[] #[]] 82))
      replace BB := ball BB (.cells #[.int .i64 1, .func (.func 32) #[] #[]] 82)
      obtain ⟨V4, hV4⟩ : ∃ V4, wr.alloc (.cells #[.int .i64 1, .func (.func 32) #[] #[]] 82) = V4 := ⟨_, rfl⟩
      rw [hV4] at BB Tt Td Th hT ⊢
      clear hV4
      obtain ⟨k4, hk4⟩ : ∃ k4, wr.heap.size = k4 := ⟨_, rfl⟩
      rw [hk4] at Th bs4 lt4t lt4d ⊢
      clear hk4
      have t0 := Tt 0 _ rfl
      have t1 := Tt 1 _ rfl
      have t2 := Tt 2 _ rfl
      have t3 := Tt 3 _ rfl
      have t4 := Tt 4 _ rfl
      have t5 := Tt 5 _ rfl
      have t6 := Tt 6 _ rfl
      have t7 := Tt 7 _ rfl
      have h0 := Th 0 _ rfl
      have h1 := Th 1 _ rfl
      go_wp2_with fail
      rw [rounds_succ]
      clear t0 t1 t2 t3 t4 t5 t6 t7 h0 h1
      clear Th
      have t0 := Tt 0 _ rfl
      have t1 := Tt 1 _ rfl
      have t2 := Tt 2 _ rfl
      have t3 := Tt 3 _ rfl
      have t4 := Tt 4 _ rfl
      have t5 := Tt 5 _ rfl
      have t6 := Tt 6 _ rfl
      have t7 := Tt 7 _ rfl
      go_upto_region 12 with (fail)
      clear t0 t1 t2 t3 t4 t5 t6 t7
      have bs5 : w.heap.size ≤ V4.heap.size := BB.size
      have lt5t : w.heap.size < V4.heap.size := World.block_lt_of_cell? V4 ⟨w.heap.size, 0, none⟩ (Tt 0 _ rfl)
      have lt5d : b + 1 < V4.heap.size := World.block_lt_of_cell? V4 ⟨b + 1, 0, none⟩ (Td 0 _ rfl)
      have Th := CAt.new (V4) [.int .i64 3, .func (.func 33) #[] #[]] 82
      replace Tt := Tt.alloc (.cells #[.int .i64 3, .func (.func 33) #[] #[]] 82)
      replace Td := Td.alloc (.cells #[.int .i64 3, .func (.func 33) #[] #[]] 82)
      replace hT := hT.keep (Below.alloc (Below.refl _ (V4)) (Nat.le_refl _) (.cells #[.int .i64 3, .func (.func 33) #[] #[]] 82))
      replace BB := ball BB (.cells #[.int .i64 3, .func (.func 33) #[] #[]] 82)
      obtain ⟨V5, hV5⟩ : ∃ V5, V4.alloc (.cells #[.int .i64 3, .func (.func 33) #[] #[]] 82) = V5 := ⟨_, rfl⟩
      rw [hV5] at BB Tt Td Th hT ⊢
      clear hV5
      obtain ⟨k5, hk5⟩ : ∃ k5, V4.heap.size = k5 := ⟨_, rfl⟩
      rw [hk5] at Th bs5 lt5t lt5d ⊢
      clear hk5
      have t0 := Tt 0 _ rfl
      have t1 := Tt 1 _ rfl
      have t2 := Tt 2 _ rfl
      have t3 := Tt 3 _ rfl
      have t4 := Tt 4 _ rfl
      have t5 := Tt 5 _ rfl
      have t6 := Tt 6 _ rfl
      have t7 := Tt 7 _ rfl
      have h0 := Th 0 _ rfl
      have h1 := Th 1 _ rfl
      have d0 := Td 0 _ rfl
      have d1 := Td 1 _ rfl
      go_wp2_with fail
      clear t0 t1 t2 t3 t4 t5 t6 t7 h0 h1 d0 d1
      refine (hA b V5 hT BB).mono ?_
      rintro e w8 ⟨L, hL, rfl, hT8, hg8⟩
      have hbw : w.heap.size ≤ b := bs
      replace BB := BB.grown hg8 BB.size (fun i hi => by cases hi; exact hbw)
      replace Td := Td.grown hg8 (fun e => by have := Option.some.inj e; omega)
      clear hT Tt Th
      have d0 := Td 0 _ rfl
      have d1 := Td 1 _ rfl
      go_wp2_with fail
      go_ret2
      exact ⟨rfl, BB⟩
set_option maxRecDepth 100000 in
set_option maxHeartbeats 4000000 in
theorem hear_kx (l : List Hf) (q : Nat) (a : Option Addr) (cap : Nat) (me fr k s p n c key f y : Int) (w : World) (ok : OkL l) (hq : Hid (q = l.length)) (hl : HsAt w a l) (hfr : inB fr 999999988 = true) (hfm : formedB ⟨k, s, p, n, c, key, f, y⟩ = true) (hp : p = me) (hky : inB key 2000000 = true) (hk1 : ¬ k = 1) (hk3 : ¬ k = 3) :
    Calls Tryd.prog 15 #[.slice a q cap, .int .i64 me, (⟨k, s, p, n, c, key, f, y⟩ : Wd).v, .int .i64 fr] w (Refused 9 w) := by
  have OK := Lib.hid ok; clear ok
  have HFR := Lib.hid hfr; clear hfr
  subst hp
  have hk1b : decide ((1 : Int) = k) = false := by simp; omega
  have hk3b : decide ((3 : Int) = k) = false := by simp; omega
  have hk1c : ¬ (1 : Int) = k := fun e => hk1 e.symm
  have hk3c : ¬ (3 : Int) = k := fun e => hk3 e.symm
  have HFM := Lib.hid hfm; clear hfm
  have HKY := Lib.hid hky; clear hky
  go_enter Tryd.func15, Tryd.ntmps15
  go_upto_region 1 with (fail)
  have Tt := CAt.new (w) [.int .i64 k, .int .i64 s, .int .i64 p, .int .i64 n, .int .i64 c, .int .i64 key, .int .i64 f, .int .i64 y] 43
  have BB : Below w.heap.size w ((w).alloc (.cells #[.int .i64 k, .int .i64 s, .int .i64 p, .int .i64 n, .int .i64 c, .int .i64 key, .int .i64 f, .int .i64 y] 43)) := ball (Below.refl _ _) _
  obtain ⟨V1, hV1⟩ : ∃ V1, w.alloc (.cells #[.int .i64 k, .int .i64 s, .int .i64 p, .int .i64 n, .int .i64 c, .int .i64 key, .int .i64 f, .int .i64 y] 43) = V1 := ⟨_, rfl⟩
  rw [hV1] at BB Tt ⊢
  clear hV1
  have t0 := Tt 0 _ rfl
  have t1 := Tt 1 _ rfl
  have t2 := Tt 2 _ rfl
  have t3 := Tt 3 _ rfl
  have t4 := Tt 4 _ rfl
  have t5 := Tt 5 _ rfl
  have t6 := Tt 6 _ rfl
  have t7 := Tt 7 _ rfl
  go_wp2_with fail
  refine (svalid_at l q a cap V1 OK.out hq (hl.keep BB)).mono ?_
  clear t0 t1 t2 t3 t4 t5 t6 t7
  rintro e w2 ⟨rfl, b2⟩
  replace Tt := Tt.keep b2
  replace BB := bstep BB b2
  clear b2
  have t0 := Tt 0 _ rfl
  have t1 := Tt 1 _ rfl
  have t2 := Tt 2 _ rfl
  have t3 := Tt 3 _ rfl
  have t4 := Tt 4 _ rfl
  have t5 := Tt 5 _ rfl
  have t6 := Tt 6 _ rfl
  have t7 := Tt 7 _ rfl
  go_wp2_with fail
  refine (isword_at ⟨k, s, p, n, c, key, f, y⟩ true w2 HFM.out).mono ?_
  clear t0 t1 t2 t3 t4 t5 t6 t7
  rintro e w3 ⟨rfl, b3⟩
  replace Tt := Tt.keep b3
  replace BB := bstep BB b3
  clear b3
  have t0 := Tt 0 _ rfl
  have t1 := Tt 1 _ rfl
  have t2 := Tt 2 _ rfl
  have t3 := Tt 3 _ rfl
  have t4 := Tt 4 _ rfl
  have t5 := Tt 5 _ rfl
  have t6 := Tt 6 _ rfl
  have t7 := Tt 7 _ rfl
  go_wp2_with fail
  refine (in_at key 2000000 true _ HKY.out).mono ?_
  rintro e w' ⟨rfl, rfl⟩
  go_wp2_with fail
  refine (in_at fr 999999988 true _ HFR.out).mono ?_
  rintro e w' ⟨rfl, rfl⟩
  have hmm := @run_makeMap Tryd.prog
  go_upto_region 4 with (fail)
  clear hmm
  clear t0 t1 t2 t3 t4 t5 t6 t7
  have bs : w.heap.size ≤ w3.heap.size := BB.size
  have ltt : w.heap.size < w3.heap.size := World.block_lt_of_cell? w3 ⟨w.heap.size, 0, none⟩ (Tt 0 _ rfl)
  have hT := TabH.made w3
  have Td := CAt.new (w3.alloc (.map #[] 0)) [.map (some w3.heap.size), .int .i64 fr] 78
  simp only [World.size_alloc] at Td
  replace hT := hT.keep (ball (Below.refl _ _) (.cells #[.map (some w3.heap.size), .int .i64 fr] 78))
  replace Tt := (Tt.alloc (.map #[] 0)).alloc (.cells #[.map (some w3.heap.size), .int .i64 fr] 78)
  replace BB := ball (ball BB (.map #[] 0)) (.cells #[.map (some w3.heap.size), .int .i64 fr] 78)
  obtain ⟨U, hU⟩ : ∃ U, (w3.alloc (.map #[] 0)).alloc (.cells #[.map (some w3.heap.size), .int .i64 fr] 78) = U := ⟨_, rfl⟩
  rw [hU] at BB Tt Td hT ⊢
  clear hU
  obtain ⟨b, hb⟩ : ∃ b, w3.heap.size = b := ⟨_, rfl⟩
  rw [hb] at bs ltt hT Td ⊢
  clear hb
  have h4 : q ≤ 4 := by rw [hq.out]; exact OK.out.len
  go_upto_region 5 with (fail)
  go_loopw [46] (fun i wr => ∃ j : Nat, j ≤ q ∧ i = .int .i64 j ∧ Below w.heap.size w wr ∧ CAt wr w.heap.size [.int .i64 k, .int .i64 s, .int .i64 p, .int .i64 n, .int .i64 c, .int .i64 key, .int .i64 f, .int .i64 y] ∧ CAt wr (b + 1) [.map (some b), .int .i64 fr] ∧ TabH wr b j (l.take j)) (fun i _ => q - (intOf i).toNat)
  case atStart => exact ⟨0, Nat.zero_le _, rfl, BB, Tt, Td, hT⟩
  case round =>
    clear BB Tt Td hT
    obtain ⟨j, hj, rfl, BB, Tt, Td, hT⟩ := hrel
    by_cases hlt : j < q
    · have hlt' : (j : Int) < (q : Int) := by omega
      have hk0 : (0 : Int) ≤ (j : Int) := by omega
      have hwk : IntKind.i64.wrap ((j : Int) + 1) = (j : Int) + 1 := IntWalk.i64_in _ (by omega)
      have hjl : j < l.length := by rw [← hq.out]; exact hlt
      obtain ⟨ab, off, e1, c0, c1, c2, c3, c4, c5⟩ := hl.hf BB (i := j) hjl
      have hpt := put_take OK.out.srt hjl
      have h64 := OK.out.i64 _ (getD_mem hjl)
      obtain ⟨x, hx⟩ : ∃ x, l.getD j default = x := ⟨_, rfl⟩
      rw [hx] at c0 c1 c2 c3 c4 c5 hpt h64
      clear hx hjl
      subst e1
      go_upto_region 7 with (fail)
      have bs4 : w.heap.size ≤ wr.heap.size := BB.size
      have lt4t : w.heap.size < wr.heap.size := World.block_lt_of_cell? wr ⟨w.heap.size, 0, none⟩ (Tt 0 _ rfl)
      have lt4d : b + 1 < wr.heap.size := World.block_lt_of_cell? wr ⟨b + 1, 0, none⟩ (Td 0 _ rfl)
      have Tx := CAt.new (wr) [.int .i64 x.s, .int .i64 x.n, .int .i64 x.c, .int .i64 x.u, .bool x.pr, .int .i64 x.k] 70
      replace Tt := Tt.alloc (.cells #[.int .i64 x.s, .int .i64 x.n, .int .i64 x.c, .int .i64 x.u, .bool x.pr, .int .i64 x.k] 70)
      replace Td := Td.alloc (.cells #[.int .i64 x.s, .int .i64 x.n, .int .i64 x.c, .int .i64 x.u, .bool x.pr, .int .i64 x.k] 70)
      replace hT := hT.keep (Below.alloc (Below.refl _ (wr)) (Nat.le_refl _) (.cells #[.int .i64 x.s, .int .i64 x.n, .int .i64 x.c, .int .i64 x.u, .bool x.pr, .int .i64 x.k] 70))
      replace BB := ball BB (.cells #[.int .i64 x.s, .int .i64 x.n, .int .i64 x.c, .int .i64 x.u, .bool x.pr, .int .i64 x.k] 70)
      obtain ⟨V4, hV4⟩ : ∃ V4, wr.alloc (.cells #[.int .i64 x.s, .int .i64 x.n, .int .i64 x.c, .int .i64 x.u, .bool x.pr, .int .i64 x.k] 70) = V4 := ⟨_, rfl⟩
      rw [hV4] at BB Tt Td Tx hT ⊢
      clear hV4
      obtain ⟨k4, hk4⟩ : ∃ k4, wr.heap.size = k4 := ⟨_, rfl⟩
      rw [hk4] at Tx bs4 lt4t lt4d ⊢
      clear hk4
      obtain ⟨w9, hrun, hT9, hg9⟩ := hT.put (by unfold maxLen; omega) x h64
      rw [hpt] at hT9
      have x0 := Tx 0 _ rfl
      have x1 := Tx 1 _ rfl
      have x2 := Tx 2 _ rfl
      have x3 := Tx 3 _ rfl
      have x4 := Tx 4 _ rfl
      have x5 := Tx 5 _ rfl
      have d0 := Td 0 _ rfl
      have d1 := Td 1 _ rfl
      go_wp2_with fail
      have hbw : w.heap.size ≤ b := bs
      replace BB := BB.grown hg9 BB.size (fun i hi => by cases hi; exact hbw)
      replace Tt := Tt.grown hg9 (fun e => by have := Option.some.inj e; omega)
      replace Td := Td.grown hg9 (fun e => by have := Option.some.inj e; omega)
      go_roundw
      case rel => exact ⟨j + 1, by omega, by go_num, BB, Tt, Td, hT9⟩
      case measure => simp [intOf]; omega
    · have hkn : j = q := by omega
      subst hkn
      have hlt' : ¬ (j : Int) < (j : Int) := by omega
      have hall : l.take j = l := by rw [hq.out]; exact List.take_length
      rw [hall, hq.out] at hT
      clear hall
      go_upto_region 10 with (fail)
      refine wp_loop_rounds 3 ?_
      rw [rounds_succ]
      have t0 := Tt 0 _ rfl
      have t1 := Tt 1 _ rfl
      have t2 := Tt 2 _ rfl
      have t3 := Tt 3 _ rfl
      have t4 := Tt 4 _ rfl
      have t5 := Tt 5 _ rfl
      have t6 := Tt 6 _ rfl
      have t7 := Tt 7 _ rfl
      go_upto_region 12 with (fail)
      clear t0 t1 t2 t3 t4 t5 t6 t7
      have bs4 : w.heap.size ≤ wr.heap.size := BB.size
      have lt4t : w.heap.size < wr.heap.size := World.block_lt_of_cell? wr ⟨w.heap.size, 0, none⟩ (Tt 0 _ rfl)
      have lt4d : b + 1 < wr.heap.size := World.block_lt_of_cell? wr ⟨b + 1, 0, none⟩ (Td 0 _ rfl)
      have Th := CAt.new (wr) [.int .i64 1, .func (.func 32) #[] #[]] 82
      replace Tt := Tt.alloc (.cells #[.int .i64 1, .func (.func 32) #[] #[]] 82)
      replace Td := Td.alloc (.cells #[.int .i64 1, .func (.func 32) #[] #[]] 82)
      replace hT := hT.keep (Below.alloc (Below.refl _ (wr)) (Nat.le_refl _) (.cells #[.int .i64 1, .func (.func 32) #[] #[]] 82))
      replace BB := ball BB (.cells #[.int .i64 1, .func (.func 32) #[] #[]] 82)
      obtain ⟨V4, hV4⟩ : ∃ V4, wr.alloc (.cells #[.int .i64 1, .func (.func 32) #[] #[]] 82) = V4 := ⟨_, rfl⟩
      rw [hV4] at BB Tt Td Th hT ⊢
      clear hV4
      obtain ⟨k4, hk4⟩ : ∃ k4, wr.heap.size = k4 := ⟨_, rfl⟩
      rw [hk4] at Th bs4 lt4t lt4d ⊢
      clear hk4
      have t0 := Tt 0 _ rfl
      have t1 := Tt 1 _ rfl
      have t2 := Tt 2 _ rfl
      have t3 := Tt 3 _ rfl
      have t4 := Tt 4 _ rfl
      have t5 := Tt 5 _ rfl
      have t6 := Tt 6 _ rfl
      have t7 := Tt 7 _ rfl
      have h0 := Th 0 _ rfl
      have h1 := Th 1 _ rfl
      go_wp2_with fail
      rw [rounds_succ]
      clear t0 t1 t2 t3 t4 t5 t6 t7 h0 h1
      clear Th
      have t0 := Tt 0 _ rfl
      have t1 := Tt 1 _ rfl
      have t2 := Tt 2 _ rfl
      have t3 := Tt 3 _ rfl
      have t4 := Tt 4 _ rfl
      have t5 := Tt 5 _ rfl
      have t6 := Tt 6 _ rfl
      have t7 := Tt 7 _ rfl
      go_upto_region 12 with (fail)
      clear t0 t1 t2 t3 t4 t5 t6 t7
      have bs5 : w.heap.size ≤ V4.heap.size := BB.size
      have lt5t : w.heap.size < V4.heap.size := World.block_lt_of_cell? V4 ⟨w.heap.size, 0, none⟩ (Tt 0 _ rfl)
      have lt5d : b + 1 < V4.heap.size := World.block_lt_of_cell? V4 ⟨b + 1, 0, none⟩ (Td 0 _ rfl)
      have Th := CAt.new (V4) [.int .i64 3, .func (.func 33) #[] #[]] 82
      replace Tt := Tt.alloc (.cells #[.int .i64 3, .func (.func 33) #[] #[]] 82)
      replace Td := Td.alloc (.cells #[.int .i64 3, .func (.func 33) #[] #[]] 82)
      replace hT := hT.keep (Below.alloc (Below.refl _ (V4)) (Nat.le_refl _) (.cells #[.int .i64 3, .func (.func 33) #[] #[]] 82))
      replace BB := ball BB (.cells #[.int .i64 3, .func (.func 33) #[] #[]] 82)
      obtain ⟨V5, hV5⟩ : ∃ V5, V4.alloc (.cells #[.int .i64 3, .func (.func 33) #[] #[]] 82) = V5 := ⟨_, rfl⟩
      rw [hV5] at BB Tt Td Th hT ⊢
      clear hV5
      obtain ⟨k5, hk5⟩ : ∃ k5, V4.heap.size = k5 := ⟨_, rfl⟩
      rw [hk5] at Th bs5 lt5t lt5d ⊢
      clear hk5
      have t0 := Tt 0 _ rfl
      have t1 := Tt 1 _ rfl
      have t2 := Tt 2 _ rfl
      have t3 := Tt 3 _ rfl
      have t4 := Tt 4 _ rfl
      have t5 := Tt 5 _ rfl
      have t6 := Tt 6 _ rfl
      have t7 := Tt 7 _ rfl
      have h0 := Th 0 _ rfl
      have h1 := Th 1 _ rfl
      go_wp2_with fail
      rw [rounds_succ]
      clear t0 t1 t2 t3 t4 t5 t6 t7 h0 h1
      clear Th
      go_wp2_with fail
      go_ret2
      exact ⟨rfl, BB⟩
end Go.Proofs.YtgmabjlehjpboaaDoor
