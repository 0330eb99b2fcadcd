/- Proved: how a stranger's state turns by a word that counts. Conditions: those that each theorem names. -/
import Derived.Test.YtgmabjlehjpboaaDoorT11
namespace Go.Proofs.YtgmabjlehjpboaaDoor
open Go.RowKit Go.Sort Go.BigFrame Go.Proofs.YtgmabjlehjpboaaDoor.K
set_option linter.unusedVariables false
set_option linter.unusedSimpArgs false
attribute [local go_sem] cell_alloc_old

/-- What lay below a number of blocks is unturned. -/
theorem CAt.keepB {n k : Nat} {w w' : World} {cs : List Value} (h : CAt w k cs) (hb : Below n w w') (hk : k < n) : CAt w' k cs := fun j v hj => (hb.cell (p := ⟨k, j, none⟩) hk).trans (h j v hj)
theorem Fz.keepB {n k : Nat} {w w' : World} (h : Fz w k) (hb : Below n w w') (hk : k < n) : Fz w' k := ⟨fun j => (hb.frozen (p := ⟨k, j, none⟩) hk).trans (h.1 j), Nat.lt_of_lt_of_le h.2 hb.size⟩
/-- The same as Below, under a name of its own, kept by what comes after. -/
def Fr (w0 w : World) : Prop := Below w0.heap.size w0 w
theorem Fr.keep {w0 w w' : World} (h : Fr w0 w) (hb : Below w.heap.size w w') : Fr w0 w' := bstep h hb
set_option maxRecDepth 100000 in
set_option maxHeartbeats 4000000 in
theorem hear_ch (k0 : Nat) (sp jn si tr s p n c key f y own : Int) (w0 w : World) (BB : Below w0.heap.size w0 w) (hk0 : w0.heap.size ≤ k0) (Ta : CAt w k0 (⟨1, sp, jn, si, tr⟩ : Jn).cs) (Fa : Fz w k0) :
    Calls Tryd.prog 48 #[.pointer (some ⟨k0, 0, none⟩), (⟨2, s, p, n, c, key, f, y⟩ : Wd).v, .int .i64 own] w fun e w' => e = .returned (.tuple #[(⟨3, s, p, n, c, own, 0, 0⟩ : Wd).v, .bool true]) ∧ Below w0.heap.size w0 w' ∧ CAt w' k0 (⟨2, sp, jn, si, tr⟩ : Jn).cs := by
  go_enter Tryd.func48, Tryd.ntmps48
  go_upto_region 2 with (fail)
  have bs1 : w0.heap.size ≤ w.heap.size := BB.size
  have lt1a : k0 < w.heap.size := World.block_lt_of_cell? w ⟨k0, 0, none⟩ (Ta 0 _ rfl)
  have Tt := CAt.new (w) [.int .i64 2, .int .i64 s, .int .i64 p, .int .i64 n, .int .i64 c, .int .i64 key, .int .i64 f, .int .i64 y] 43
  replace Ta := Ta.alloc (.cells #[.int .i64 2, .int .i64 s, .int .i64 p, .int .i64 n, .int .i64 c, .int .i64 key, .int .i64 f, .int .i64 y] 43)
  replace Fa := Fa.alloc (.cells #[.int .i64 2, .int .i64 s, .int .i64 p, .int .i64 n, .int .i64 c, .int .i64 key, .int .i64 f, .int .i64 y] 43)
  replace BB := ball BB (.cells #[.int .i64 2, .int .i64 s, .int .i64 p, .int .i64 n, .int .i64 c, .int .i64 key, .int .i64 f, .int .i64 y] 43)
  have To := CAt.new (w.alloc (.cells #[.int .i64 2, .int .i64 s, .int .i64 p, .int .i64 n, .int .i64 c, .int .i64 key, .int .i64 f, .int .i64 y] 43)) [.int .i64 0, .int .i64 0, .int .i64 0, .int .i64 0, .int .i64 0, .int .i64 0, .int .i64 0, .int .i64 0] 43
  have Fo := Fz.new (w.alloc (.cells #[.int .i64 2, .int .i64 s, .int .i64 p, .int .i64 n, .int .i64 c, .int .i64 key, .int .i64 f, .int .i64 y] 43)) #[.int .i64 0, .int .i64 0, .int .i64 0, .int .i64 0, .int .i64 0, .int .i64 0, .int .i64 0, .int .i64 0] 43
  replace Ta := Ta.alloc (.cells #[.int .i64 0, .int .i64 0, .int .i64 0, .int .i64 0, .int .i64 0, .int .i64 0, .int .i64 0, .int .i64 0] 43)
  replace Tt := Tt.alloc (.cells #[.int .i64 0, .int .i64 0, .int .i64 0, .int .i64 0, .int .i64 0, .int .i64 0, .int .i64 0, .int .i64 0] 43)
  replace Fa := Fa.alloc (.cells #[.int .i64 0, .int .i64 0, .int .i64 0, .int .i64 0, .int .i64 0, .int .i64 0, .int .i64 0, .int .i64 0] 43)
  replace BB := ball BB (.cells #[.int .i64 0, .int .i64 0, .int .i64 0, .int .i64 0, .int .i64 0, .int .i64 0, .int .i64 0, .int .i64 0] 43)
  have Tq := CAt.new ((w.alloc (.cells #[.int .i64 2, .int .i64 s, .int .i64 p, .int .i64 n, .int .i64 c, .int .i64 key, .int .i64 f, .int .i64 y] 43)).alloc (.cells #[.int .i64 0, .int .i64 0, .int .i64 0, .int .i64 0, .int .i64 0, .int .i64 0, .int .i64 0, .int .i64 0] 43)) [.int .i64 0, .int .i64 0, .int .i64 0, .int .i64 0, .int .i64 0, .int .i64 0, .int .i64 0, .int .i64 0] 43
  have Fq := Fz.new ((w.alloc (.cells #[.int .i64 2, .int .i64 s, .int .i64 p, .int .i64 n, .int .i64 c, .int .i64 key, .int .i64 f, .int .i64 y] 43)).alloc (.cells #[.int .i64 0, .int .i64 0, .int .i64 0, .int .i64 0, .int .i64 0, .int .i64 0, .int .i64 0, .int .i64 0] 43)) #[.int .i64 0, .int .i64 0, .int .i64 0, .int .i64 0, .int .i64 0, .int .i64 0, .int .i64 0, .int .i64 0] 43
  replace Ta := Ta.alloc (.cells #[.int .i64 0, .int .i64 0, .int .i64 0, .int .i64 0, .int .i64 0, .int .i64 0, .int .i64 0, .int .i64 0] 43)
  replace Tt := Tt.alloc (.cells #[.int .i64 0, .int .i64 0, .int .i64 0, .int .i64 0, .int .i64 0, .int .i64 0, .int .i64 0, .int .i64 0] 43)
  replace To := To.alloc (.cells #[.int .i64 0, .int .i64 0, .int .i64 0, .int .i64 0, .int .i64 0, .int .i64 0, .int .i64 0, .int .i64 0] 43)
  replace Fa := Fa.alloc (.cells #[.int .i64 0, .int .i64 0, .int .i64 0, .int .i64 0, .int .i64 0, .int .i64 0, .int .i64 0, .int .i64 0] 43)
  replace Fo := Fo.alloc (.cells #[.int .i64 0, .int .i64 0, .int .i64 0, .int .i64 0, .int .i64 0, .int .i64 0, .int .i64 0, .int .i64 0] 43)
  replace BB := ball BB (.cells #[.int .i64 0, .int .i64 0, .int .i64 0, .int .i64 0, .int .i64 0, .int .i64 0, .int .i64 0, .int .i64 0] 43)
  simp only [World.size_alloc, Nat.add_assoc, Nat.reduceAdd] at To Fo Tq Fq
  obtain ⟨V1, hV1⟩ : ∃ V1, ((w.alloc (.cells #[.int .i64 2, .int .i64 s, .int .i64 p, .int .i64 n, .int .i64 c, .int .i64 key, .int .i64 f, .int .i64 y] 43)).alloc (.cells #[.int .i64 0, .int .i64 0, .int .i64 0, .int .i64 0, .int .i64 0, .int .i64 0, .int .i64 0, .int .i64 0] 43)).alloc (.cells #[.int .i64 0, .int .i64 0, .int .i64 0, .int .i64 0, .int .i64 0, .int .i64 0, .int .i64 0, .int .i64 0] 43) = V1 := ⟨_, rfl⟩
  rw [hV1] at BB Ta Tt To Tq Fa Fo Fq ⊢
  clear hV1
  obtain ⟨k1, hk1⟩ : ∃ k1, w.heap.size = k1 := ⟨_, rfl⟩
  rw [hk1] at Tt To Fo Tq Fq bs1 lt1a ⊢
  clear hk1
  have t0 := Tt 0 _ rfl
  have t1 := Tt 1 _ rfl
  have t2 := Tt 2 _ rfl
  have t3 := Tt 3 _ rfl
  have t4 := Tt 4 _ rfl
  have t5 := Tt 5 _ rfl
  have t6 := Tt 6 _ rfl
  have t7 := Tt 7 _ rfl
  have a0 := Ta 0 _ rfl
  have fa0 := Fa.1 0
  have a1 := Ta 1 _ rfl
  have fa1 := Fa.1 1
  have a2 := Ta 2 _ rfl
  have fa2 := Fa.1 2
  have a3 := Ta 3 _ rfl
  have fa3 := Fa.1 3
  have a4 := Ta 4 _ rfl
  have fa4 := Fa.1 4
  go_upto_region 8 with (fail)
  clear t0 t1 t2 t3 t4 t5 t6 t7 a0 fa0 a1 fa1 a2 fa2 a3 fa3 a4 fa4
  replace Ta := Ta.set 0 (.int .i64 2) (by simp)
  replace Tt := Tt.other (k' := k0) (by omega) 0 (.int .i64 2)
  replace To := To.other (k' := k0) (by omega) 0 (.int .i64 2)
  replace Tq := Tq.other (k' := k0) (by omega) 0 (.int .i64 2)
  replace Fa := Fa.set ⟨k0, 0, none⟩ (.int .i64 2)
  replace Fo := Fo.set ⟨k0, 0, none⟩ (.int .i64 2)
  replace Fq := Fq.set ⟨k0, 0, none⟩ (.int .i64 2)
  replace BB := BB.setCell (p := ⟨k0, 0, none⟩) (by first | exact Nat.le_refl _ | (simp only; omega)) (.int .i64 2)
  obtain ⟨V2, hV2⟩ : ∃ V2, V1.setCell ⟨k0, 0, none⟩ (.int .i64 2) = V2 := ⟨_, rfl⟩
  rw [hV2] at BB Ta Tt To Tq Fa Fo Fq ⊢
  clear hV2
  have t0 := Tt 0 _ rfl
  have t1 := Tt 1 _ rfl
  have t2 := Tt 2 _ rfl
  have t3 := Tt 3 _ rfl
  have t4 := Tt 4 _ rfl
  have t5 := Tt 5 _ rfl
  have t6 := Tt 6 _ rfl
  have t7 := Tt 7 _ rfl
  have q0 := Tq 0 _ rfl
  have fq0 := Fq.1 0
  have q1 := Tq 1 _ rfl
  have fq1 := Fq.1 1
  have q2 := Tq 2 _ rfl
  have fq2 := Fq.1 2
  have q3 := Tq 3 _ rfl
  have fq3 := Fq.1 3
  have q4 := Tq 4 _ rfl
  have fq4 := Fq.1 4
  have q5 := Tq 5 _ rfl
  have fq5 := Fq.1 5
  have q6 := Tq 6 _ rfl
  have fq6 := Fq.1 6
  have q7 := Tq 7 _ rfl
  have fq7 := Fq.1 7
  go_upto_region 9 with (fail)
  clear t0 t1 t2 t3 t4 t5 t6 t7 q0 fq0 q1 fq1 q2 fq2 q3 fq3 q4 fq4 q5 fq5 q6 fq6 q7 fq7
  replace Tq := Tq.set 0 (.int .i64 2) (by simp)
  replace Ta := Ta.other (k' := k1 + 2) (by omega) 0 (.int .i64 2)
  replace Tt := Tt.other (k' := k1 + 2) (by omega) 0 (.int .i64 2)
  replace To := To.other (k' := k1 + 2) (by omega) 0 (.int .i64 2)
  replace Fa := Fa.set ⟨k1 + 2, 0, none⟩ (.int .i64 2)
  replace Fo := Fo.set ⟨k1 + 2, 0, none⟩ (.int .i64 2)
  replace Fq := Fq.set ⟨k1 + 2, 0, none⟩ (.int .i64 2)
  replace BB := BB.setCell (p := ⟨k1 + 2, 0, none⟩) (by first | exact Nat.le_refl _ | (simp only; omega)) (.int .i64 2)
  replace Tq := Tq.set 1 (.int .i64 s) (by simp)
  replace Ta := Ta.other (k' := k1 + 2) (by omega) 1 (.int .i64 s)
  replace Tt := Tt.other (k' := k1 + 2) (by omega) 1 (.int .i64 s)
  replace To := To.other (k' := k1 + 2) (by omega) 1 (.int .i64 s)
  replace Fa := Fa.set ⟨k1 + 2, 1, none⟩ (.int .i64 s)
  replace Fo := Fo.set ⟨k1 + 2, 1, none⟩ (.int .i64 s)
  replace Fq := Fq.set ⟨k1 + 2, 1, none⟩ (.int .i64 s)
  replace BB := BB.setCell (p := ⟨k1 + 2, 1, none⟩) (by first | exact Nat.le_refl _ | (simp only; omega)) (.int .i64 s)
  replace Tq := Tq.set 2 (.int .i64 p) (by simp)
  replace Ta := Ta.other (k' := k1 + 2) (by omega) 2 (.int .i64 p)
  replace Tt := Tt.other (k' := k1 + 2) (by omega) 2 (.int .i64 p)
  replace To := To.other (k' := k1 + 2) (by omega) 2 (.int .i64 p)
  replace Fa := Fa.set ⟨k1 + 2, 2, none⟩ (.int .i64 p)
  replace Fo := Fo.set ⟨k1 + 2, 2, none⟩ (.int .i64 p)
  replace Fq := Fq.set ⟨k1 + 2, 2, none⟩ (.int .i64 p)
  replace BB := BB.setCell (p := ⟨k1 + 2, 2, none⟩) (by first | exact Nat.le_refl _ | (simp only; omega)) (.int .i64 p)
  replace Tq := Tq.set 3 (.int .i64 n) (by simp)
  replace Ta := Ta.other (k' := k1 + 2) (by omega) 3 (.int .i64 n)
  replace Tt := Tt.other (k' := k1 + 2) (by omega) 3 (.int .i64 n)
  replace To := To.other (k' := k1 + 2) (by omega) 3 (.int .i64 n)
  replace Fa := Fa.set ⟨k1 + 2, 3, none⟩ (.int .i64 n)
  replace Fo := Fo.set ⟨k1 + 2, 3, none⟩ (.int .i64 n)
  replace Fq := Fq.set ⟨k1 + 2, 3, none⟩ (.int .i64 n)
  replace BB := BB.setCell (p := ⟨k1 + 2, 3, none⟩) (by first | exact Nat.le_refl _ | (simp only; omega)) (.int .i64 n)
  replace Tq := Tq.set 4 (.int .i64 c) (by simp)
  replace Ta := Ta.other (k' := k1 + 2) (by omega) 4 (.int .i64 c)
  replace Tt := Tt.other (k' := k1 + 2) (by omega) 4 (.int .i64 c)
  replace To := To.other (k' := k1 + 2) (by omega) 4 (.int .i64 c)
  replace Fa := Fa.set ⟨k1 + 2, 4, none⟩ (.int .i64 c)
  replace Fo := Fo.set ⟨k1 + 2, 4, none⟩ (.int .i64 c)
  replace Fq := Fq.set ⟨k1 + 2, 4, none⟩ (.int .i64 c)
  replace BB := BB.setCell (p := ⟨k1 + 2, 4, none⟩) (by first | exact Nat.le_refl _ | (simp only; omega)) (.int .i64 c)
  replace Tq := Tq.set 5 (.int .i64 key) (by simp)
  replace Ta := Ta.other (k' := k1 + 2) (by omega) 5 (.int .i64 key)
  replace Tt := Tt.other (k' := k1 + 2) (by omega) 5 (.int .i64 key)
  replace To := To.other (k' := k1 + 2) (by omega) 5 (.int .i64 key)
  replace Fa := Fa.set ⟨k1 + 2, 5, none⟩ (.int .i64 key)
  replace Fo := Fo.set ⟨k1 + 2, 5, none⟩ (.int .i64 key)
  replace Fq := Fq.set ⟨k1 + 2, 5, none⟩ (.int .i64 key)
  replace BB := BB.setCell (p := ⟨k1 + 2, 5, none⟩) (by first | exact Nat.le_refl _ | (simp only; omega)) (.int .i64 key)
  replace Tq := Tq.set 6 (.int .i64 f) (by simp)
  replace Ta := Ta.other (k' := k1 + 2) (by omega) 6 (.int .i64 f)
  replace Tt := Tt.other (k' := k1 + 2) (by omega) 6 (.int .i64 f)
  replace To := To.other (k' := k1 + 2) (by omega) 6 (.int .i64 f)
  replace Fa := Fa.set ⟨k1 + 2, 6, none⟩ (.int .i64 f)
  replace Fo := Fo.set ⟨k1 + 2, 6, none⟩ (.int .i64 f)
  replace Fq := Fq.set ⟨k1 + 2, 6, none⟩ (.int .i64 f)
  replace BB := BB.setCell (p := ⟨k1 + 2, 6, none⟩) (by first | exact Nat.le_refl _ | (simp only; omega)) (.int .i64 f)
  replace Tq := Tq.set 7 (.int .i64 y) (by simp)
  replace Ta := Ta.other (k' := k1 + 2) (by omega) 7 (.int .i64 y)
  replace Tt := Tt.other (k' := k1 + 2) (by omega) 7 (.int .i64 y)
  replace To := To.other (k' := k1 + 2) (by omega) 7 (.int .i64 y)
  replace Fa := Fa.set ⟨k1 + 2, 7, none⟩ (.int .i64 y)
  replace Fo := Fo.set ⟨k1 + 2, 7, none⟩ (.int .i64 y)
  replace Fq := Fq.set ⟨k1 + 2, 7, none⟩ (.int .i64 y)
  replace BB := BB.setCell (p := ⟨k1 + 2, 7, none⟩) (by first | exact Nat.le_refl _ | (simp only; omega)) (.int .i64 y)
  obtain ⟨V3, hV3⟩ : ∃ V3, (((((((V2.setCell ⟨k1 + 2, 0, none⟩ (.int .i64 2)).setCell ⟨k1 + 2, 1, none⟩ (.int .i64 s)).setCell ⟨k1 + 2, 2, none⟩ (.int .i64 p)).setCell ⟨k1 + 2, 3, none⟩ (.int .i64 n)).setCell ⟨k1 + 2, 4, none⟩ (.int .i64 c)).setCell ⟨k1 + 2, 5, none⟩ (.int .i64 key)).setCell ⟨k1 + 2, 6, none⟩ (.int .i64 f)).setCell ⟨k1 + 2, 7, none⟩ (.int .i64 y) = V3 := ⟨_, rfl⟩
  rw [hV3] at BB Ta Tt To Tq Fa Fo Fq ⊢
  clear hV3
  have q0 := Tq 0 _ rfl
  have fq0 := Fq.1 0
  have q1 := Tq 1 _ rfl
  have fq1 := Fq.1 1
  have q2 := Tq 2 _ rfl
  have fq2 := Fq.1 2
  have q3 := Tq 3 _ rfl
  have fq3 := Fq.1 3
  have q4 := Tq 4 _ rfl
  have fq4 := Fq.1 4
  have q5 := Tq 5 _ rfl
  have fq5 := Fq.1 5
  have q6 := Tq 6 _ rfl
  have fq6 := Fq.1 6
  have q7 := Tq 7 _ rfl
  have fq7 := Fq.1 7
  go_upto_region 13 with (fail)
  clear q0 fq0 q1 fq1 q2 fq2 q3 fq3 q4 fq4 q5 fq5 q6 fq6 q7 fq7
  replace Tq := Tq.set 0 (.int .i64 3) (by simp)
  replace Ta := Ta.other (k' := k1 + 2) (by omega) 0 (.int .i64 3)
  replace Tt := Tt.other (k' := k1 + 2) (by omega) 0 (.int .i64 3)
  replace To := To.other (k' := k1 + 2) (by omega) 0 (.int .i64 3)
  replace Fa := Fa.set ⟨k1 + 2, 0, none⟩ (.int .i64 3)
  replace Fo := Fo.set ⟨k1 + 2, 0, none⟩ (.int .i64 3)
  replace Fq := Fq.set ⟨k1 + 2, 0, none⟩ (.int .i64 3)
  replace BB := BB.setCell (p := ⟨k1 + 2, 0, none⟩) (by first | exact Nat.le_refl _ | (simp only; omega)) (.int .i64 3)
  obtain ⟨V4, hV4⟩ : ∃ V4, V3.setCell ⟨k1 + 2, 0, none⟩ (.int .i64 3) = V4 := ⟨_, rfl⟩
  rw [hV4] at BB Ta Tt To Tq Fa Fo Fq ⊢
  clear hV4
  replace Tq := Tq.set 5 (.int .i64 own) (by simp)
  replace Ta := Ta.other (k' := k1 + 2) (by omega) 5 (.int .i64 own)
  replace Tt := Tt.other (k' := k1 + 2) (by omega) 5 (.int .i64 own)
  replace To := To.other (k' := k1 + 2) (by omega) 5 (.int .i64 own)
  replace Fa := Fa.set ⟨k1 + 2, 5, none⟩ (.int .i64 own)
  replace Fo := Fo.set ⟨k1 + 2, 5, none⟩ (.int .i64 own)
  replace Fq := Fq.set ⟨k1 + 2, 5, none⟩ (.int .i64 own)
  replace BB := BB.setCell (p := ⟨k1 + 2, 5, none⟩) (by first | exact Nat.le_refl _ | (simp only; omega)) (.int .i64 own)
  obtain ⟨V5, hV5⟩ : ∃ V5, V4.setCell ⟨k1 + 2, 5, none⟩ (.int .i64 own) = V5 := ⟨_, rfl⟩
  rw [hV5] at BB Ta Tt To Tq Fa Fo Fq ⊢
  clear hV5
  replace Tq := Tq.set 6 (.int .i64 0) (by simp)
  replace Ta := Ta.other (k' := k1 + 2) (by omega) 6 (.int .i64 0)
  replace Tt := Tt.other (k' := k1 + 2) (by omega) 6 (.int .i64 0)
  replace To := To.other (k' := k1 + 2) (by omega) 6 (.int .i64 0)
  replace Fa := Fa.set ⟨k1 + 2, 6, none⟩ (.int .i64 0)
  replace Fo := Fo.set ⟨k1 + 2, 6, none⟩ (.int .i64 0)
  replace Fq := Fq.set ⟨k1 + 2, 6, none⟩ (.int .i64 0)
  replace BB := BB.setCell (p := ⟨k1 + 2, 6, none⟩) (by first | exact Nat.le_refl _ | (simp only; omega)) (.int .i64 0)
  replace Tq := Tq.set 7 (.int .i64 0) (by simp)
  replace Ta := Ta.other (k' := k1 + 2) (by omega) 7 (.int .i64 0)
  replace Tt := Tt.other (k' := k1 + 2) (by omega) 7 (.int .i64 0)
  replace To := To.other (k' := k1 + 2) (by omega) 7 (.int .i64 0)
  replace Fa := Fa.set ⟨k1 + 2, 7, none⟩ (.int .i64 0)
  replace Fo := Fo.set ⟨k1 + 2, 7, none⟩ (.int .i64 0)
  replace Fq := Fq.set ⟨k1 + 2, 7, none⟩ (.int .i64 0)
  replace BB := BB.setCell (p := ⟨k1 + 2, 7, none⟩) (by first | exact Nat.le_refl _ | (simp only; omega)) (.int .i64 0)
  obtain ⟨V6, hV6⟩ : ∃ V6, (V5.setCell ⟨k1 + 2, 6, none⟩ (.int .i64 0)).setCell ⟨k1 + 2, 7, none⟩ (.int .i64 0) = V6 := ⟨_, rfl⟩
  rw [hV6] at BB Ta Tt To Tq Fa Fo Fq ⊢
  clear hV6
  have q0 := Tq 0 _ rfl
  have fq0 := Fq.1 0
  have q1 := Tq 1 _ rfl
  have fq1 := Fq.1 1
  have q2 := Tq 2 _ rfl
  have fq2 := Fq.1 2
  have q3 := Tq 3 _ rfl
  have fq3 := Fq.1 3
  have q4 := Tq 4 _ rfl
  have fq4 := Fq.1 4
  have q5 := Tq 5 _ rfl
  have fq5 := Fq.1 5
  have q6 := Tq 6 _ rfl
  have fq6 := Fq.1 6
  have q7 := Tq 7 _ rfl
  have fq7 := Fq.1 7
  have o0 := To 0 _ rfl
  have fo0 := Fo.1 0
  have o1 := To 1 _ rfl
  have fo1 := Fo.1 1
  have o2 := To 2 _ rfl
  have fo2 := Fo.1 2
  have o3 := To 3 _ rfl
  have fo3 := Fo.1 3
  have o4 := To 4 _ rfl
  have fo4 := Fo.1 4
  have o5 := To 5 _ rfl
  have fo5 := Fo.1 5
  have o6 := To 6 _ rfl
  have fo6 := Fo.1 6
  have o7 := To 7 _ rfl
  have fo7 := Fo.1 7
  go_wp2_with fail
  clear q0 fq0 q1 fq1 q2 fq2 q3 fq3 q4 fq4 q5 fq5 q6 fq6 q7 fq7 o0 fo0 o1 fo1 o2 fo2 o3 fo3 o4 fo4 o5 fo5 o6 fo6 o7 fo7
  replace To := To.set 0 (.int .i64 3) (by simp)
  replace Ta := Ta.other (k' := k1 + 1) (by omega) 0 (.int .i64 3)
  replace Tt := Tt.other (k' := k1 + 1) (by omega) 0 (.int .i64 3)
  replace Tq := Tq.other (k' := k1 + 1) (by omega) 0 (.int .i64 3)
  replace Fa := Fa.set ⟨k1 + 1, 0, none⟩ (.int .i64 3)
  replace Fo := Fo.set ⟨k1 + 1, 0, none⟩ (.int .i64 3)
  replace Fq := Fq.set ⟨k1 + 1, 0, none⟩ (.int .i64 3)
  replace BB := BB.setCell (p := ⟨k1 + 1, 0, none⟩) (by first | exact Nat.le_refl _ | (simp only; omega)) (.int .i64 3)
  replace To := To.set 1 (.int .i64 s) (by simp)
  replace Ta := Ta.other (k' := k1 + 1) (by omega) 1 (.int .i64 s)
  replace Tt := Tt.other (k' := k1 + 1) (by omega) 1 (.int .i64 s)
  replace Tq := Tq.other (k' := k1 + 1) (by omega) 1 (.int .i64 s)
  replace Fa := Fa.set ⟨k1 + 1, 1, none⟩ (.int .i64 s)
  replace Fo := Fo.set ⟨k1 + 1, 1, none⟩ (.int .i64 s)
  replace Fq := Fq.set ⟨k1 + 1, 1, none⟩ (.int .i64 s)
  replace BB := BB.setCell (p := ⟨k1 + 1, 1, none⟩) (by first | exact Nat.le_refl _ | (simp only; omega)) (.int .i64 s)
  replace To := To.set 2 (.int .i64 p) (by simp)
  replace Ta := Ta.other (k' := k1 + 1) (by omega) 2 (.int .i64 p)
  replace Tt := Tt.other (k' := k1 + 1) (by omega) 2 (.int .i64 p)
  replace Tq := Tq.other (k' := k1 + 1) (by omega) 2 (.int .i64 p)
  replace Fa := Fa.set ⟨k1 + 1, 2, none⟩ (.int .i64 p)
  replace Fo := Fo.set ⟨k1 + 1, 2, none⟩ (.int .i64 p)
  replace Fq := Fq.set ⟨k1 + 1, 2, none⟩ (.int .i64 p)
  replace BB := BB.setCell (p := ⟨k1 + 1, 2, none⟩) (by first | exact Nat.le_refl _ | (simp only; omega)) (.int .i64 p)
  replace To := To.set 3 (.int .i64 n) (by simp)
  replace Ta := Ta.other (k' := k1 + 1) (by omega) 3 (.int .i64 n)
  replace Tt := Tt.other (k' := k1 + 1) (by omega) 3 (.int .i64 n)
  replace Tq := Tq.other (k' := k1 + 1) (by omega) 3 (.int .i64 n)
  replace Fa := Fa.set ⟨k1 + 1, 3, none⟩ (.int .i64 n)
  replace Fo := Fo.set ⟨k1 + 1, 3, none⟩ (.int .i64 n)
  replace Fq := Fq.set ⟨k1 + 1, 3, none⟩ (.int .i64 n)
  replace BB := BB.setCell (p := ⟨k1 + 1, 3, none⟩) (by first | exact Nat.le_refl _ | (simp only; omega)) (.int .i64 n)
  replace To := To.set 4 (.int .i64 c) (by simp)
  replace Ta := Ta.other (k' := k1 + 1) (by omega) 4 (.int .i64 c)
  replace Tt := Tt.other (k' := k1 + 1) (by omega) 4 (.int .i64 c)
  replace Tq := Tq.other (k' := k1 + 1) (by omega) 4 (.int .i64 c)
  replace Fa := Fa.set ⟨k1 + 1, 4, none⟩ (.int .i64 c)
  replace Fo := Fo.set ⟨k1 + 1, 4, none⟩ (.int .i64 c)
  replace Fq := Fq.set ⟨k1 + 1, 4, none⟩ (.int .i64 c)
  replace BB := BB.setCell (p := ⟨k1 + 1, 4, none⟩) (by first | exact Nat.le_refl _ | (simp only; omega)) (.int .i64 c)
  replace To := To.set 5 (.int .i64 own) (by simp)
  replace Ta := Ta.other (k' := k1 + 1) (by omega) 5 (.int .i64 own)
  replace Tt := Tt.other (k' := k1 + 1) (by omega) 5 (.int .i64 own)
  replace Tq := Tq.other (k' := k1 + 1) (by omega) 5 (.int .i64 own)
  replace Fa := Fa.set ⟨k1 + 1, 5, none⟩ (.int .i64 own)
  replace Fo := Fo.set ⟨k1 + 1, 5, none⟩ (.int .i64 own)
  replace Fq := Fq.set ⟨k1 + 1, 5, none⟩ (.int .i64 own)
  replace BB := BB.setCell (p := ⟨k1 + 1, 5, none⟩) (by first | exact Nat.le_refl _ | (simp only; omega)) (.int .i64 own)
  replace To := To.set 6 (.int .i64 0) (by simp)
  replace Ta := Ta.other (k' := k1 + 1) (by omega) 6 (.int .i64 0)
  replace Tt := Tt.other (k' := k1 + 1) (by omega) 6 (.int .i64 0)
  replace Tq := Tq.other (k' := k1 + 1) (by omega) 6 (.int .i64 0)
  replace Fa := Fa.set ⟨k1 + 1, 6, none⟩ (.int .i64 0)
  replace Fo := Fo.set ⟨k1 + 1, 6, none⟩ (.int .i64 0)
  replace Fq := Fq.set ⟨k1 + 1, 6, none⟩ (.int .i64 0)
  replace BB := BB.setCell (p := ⟨k1 + 1, 6, none⟩) (by first | exact Nat.le_refl _ | (simp only; omega)) (.int .i64 0)
  replace To := To.set 7 (.int .i64 0) (by simp)
  replace Ta := Ta.other (k' := k1 + 1) (by omega) 7 (.int .i64 0)
  replace Tt := Tt.other (k' := k1 + 1) (by omega) 7 (.int .i64 0)
  replace Tq := Tq.other (k' := k1 + 1) (by omega) 7 (.int .i64 0)
  replace Fa := Fa.set ⟨k1 + 1, 7, none⟩ (.int .i64 0)
  replace Fo := Fo.set ⟨k1 + 1, 7, none⟩ (.int .i64 0)
  replace Fq := Fq.set ⟨k1 + 1, 7, none⟩ (.int .i64 0)
  replace BB := BB.setCell (p := ⟨k1 + 1, 7, none⟩) (by first | exact Nat.le_refl _ | (simp only; omega)) (.int .i64 0)
  obtain ⟨V7, hV7⟩ : ∃ V7, (((((((V6.setCell ⟨k1 + 1, 0, none⟩ (.int .i64 3)).setCell ⟨k1 + 1, 1, none⟩ (.int .i64 s)).setCell ⟨k1 + 1, 2, none⟩ (.int .i64 p)).setCell ⟨k1 + 1, 3, none⟩ (.int .i64 n)).setCell ⟨k1 + 1, 4, none⟩ (.int .i64 c)).setCell ⟨k1 + 1, 5, none⟩ (.int .i64 own)).setCell ⟨k1 + 1, 6, none⟩ (.int .i64 0)).setCell ⟨k1 + 1, 7, none⟩ (.int .i64 0) = V7 := ⟨_, rfl⟩
  rw [hV7] at BB Ta Tt To Tq Fa Fo Fq ⊢
  clear hV7
  have o0 := To 0 _ rfl
  have fo0 := Fo.1 0
  have o1 := To 1 _ rfl
  have fo1 := Fo.1 1
  have o2 := To 2 _ rfl
  have fo2 := Fo.1 2
  have o3 := To 3 _ rfl
  have fo3 := Fo.1 3
  have o4 := To 4 _ rfl
  have fo4 := Fo.1 4
  have o5 := To 5 _ rfl
  have fo5 := Fo.1 5
  have o6 := To 6 _ rfl
  have fo6 := Fo.1 6
  have o7 := To 7 _ rfl
  have fo7 := Fo.1 7
  refine bodyPost_ret (v := .tuple #[(⟨3, s, p, n, c, own, 0, 0⟩ : Wd).v, .bool true]) (by simp [results, Tryd.results48, go_sem, o0, o1, o2, o3, o4, o5, o6, o7]) rfl ⟨rfl, BB, Ta⟩
set_option maxRecDepth 100000 in
set_option maxHeartbeats 4000000 in
theorem hear_we (k0 : Nat) (sp jn si tr s p n c key f y own : Int) (w0 w : World) (BB : Below w0.heap.size w0 w) (hk0 : w0.heap.size ≤ k0) (Ta : CAt w k0 (⟨2, sp, jn, si, tr⟩ : Jn).cs) (Fa : Fz w k0) :
    Calls Tryd.prog 48 #[.pointer (some ⟨k0, 0, none⟩), (⟨4, s, p, n, c, key, f, y⟩ : Wd).v, .int .i64 key] w fun e w' => e = .returned (.tuple #[(zWd : Wd).v, .bool true]) ∧ Below w0.heap.size w0 w' ∧ CAt w' k0 (⟨3, sp, jn, si, tr⟩ : Jn).cs := by
  go_enter Tryd.func48, Tryd.ntmps48
  go_upto_region 2 with (fail)
  have bs1 : w0.heap.size ≤ w.heap.size := BB.size
  have lt1a : k0 < w.heap.size := World.block_lt_of_cell? w ⟨k0, 0, none⟩ (Ta 0 _ rfl)
  have Tt := CAt.new (w) [.int .i64 4, .int .i64 s, .int .i64 p, .int .i64 n, .int .i64 c, .int .i64 key, .int .i64 f, .int .i64 y] 43
  replace Ta := Ta.alloc (.cells #[.int .i64 4, .int .i64 s, .int .i64 p, .int .i64 n, .int .i64 c, .int .i64 key, .int .i64 f, .int .i64 y] 43)
  replace Fa := Fa.alloc (.cells #[.int .i64 4, .int .i64 s, .int .i64 p, .int .i64 n, .int .i64 c, .int .i64 key, .int .i64 f, .int .i64 y] 43)
  replace BB := ball BB (.cells #[.int .i64 4, .int .i64 s, .int .i64 p, .int .i64 n, .int .i64 c, .int .i64 key, .int .i64 f, .int .i64 y] 43)
  have To := CAt.new (w.alloc (.cells #[.int .i64 4, .int .i64 s, .int .i64 p, .int .i64 n, .int .i64 c, .int .i64 key, .int .i64 f, .int .i64 y] 43)) [.int .i64 0, .int .i64 0, .int .i64 0, .int .i64 0, .int .i64 0, .int .i64 0, .int .i64 0, .int .i64 0] 43
  have Fo := Fz.new (w.alloc (.cells #[.int .i64 4, .int .i64 s, .int .i64 p, .int .i64 n, .int .i64 c, .int .i64 key, .int .i64 f, .int .i64 y] 43)) #[.int .i64 0, .int .i64 0, .int .i64 0, .int .i64 0, .int .i64 0, .int .i64 0, .int .i64 0, .int .i64 0] 43
  replace Ta := Ta.alloc (.cells #[.int .i64 0, .int .i64 0, .int .i64 0, .int .i64 0, .int .i64 0, .int .i64 0, .int .i64 0, .int .i64 0] 43)
  replace Tt := Tt.alloc (.cells #[.int .i64 0, .int .i64 0, .int .i64 0, .int .i64 0, .int .i64 0, .int .i64 0, .int .i64 0, .int .i64 0] 43)
  replace Fa := Fa.alloc (.cells #[.int .i64 0, .int .i64 0, .int .i64 0, .int .i64 0, .int .i64 0, .int .i64 0, .int .i64 0, .int .i64 0] 43)
  replace BB := ball BB (.cells #[.int .i64 0, .int .i64 0, .int .i64 0, .int .i64 0, .int .i64 0, .int .i64 0, .int .i64 0, .int .i64 0] 43)
  have Tq := CAt.new ((w.alloc (.cells #[.int .i64 4, .int .i64 s, .int .i64 p, .int .i64 n, .int .i64 c, .int .i64 key, .int .i64 f, .int .i64 y] 43)).alloc (.cells #[.int .i64 0, .int .i64 0, .int .i64 0, .int .i64 0, .int .i64 0, .int .i64 0, .int .i64 0, .int .i64 0] 43)) [.int .i64 0, .int .i64 0, .int .i64 0, .int .i64 0, .int .i64 0, .int .i64 0, .int .i64 0, .int .i64 0] 43
  have Fq := Fz.new ((w.alloc (.cells #[.int .i64 4, .int .i64 s, .int .i64 p, .int .i64 n, .int .i64 c, .int .i64 key, .int .i64 f, .int .i64 y] 43)).alloc (.cells #[.int .i64 0, .int .i64 0, .int .i64 0, .int .i64 0, .int .i64 0, .int .i64 0, .int .i64 0, .int .i64 0] 43)) #[.int .i64 0, .int .i64 0, .int .i64 0, .int .i64 0, .int .i64 0, .int .i64 0, .int .i64 0, .int .i64 0] 43
  replace Ta := Ta.alloc (.cells #[.int .i64 0, .int .i64 0, .int .i64 0, .int .i64 0, .int .i64 0, .int .i64 0, .int .i64 0, .int .i64 0] 43)
  replace Tt := Tt.alloc (.cells #[.int .i64 0, .int .i64 0, .int .i64 0, .int .i64 0, .int .i64 0, .int .i64 0, .int .i64 0, .int .i64 0] 43)
  replace To := To.alloc (.cells #[.int .i64 0, .int .i64 0, .int .i64 0, .int .i64 0, .int .i64 0, .int .i64 0, .int .i64 0, .int .i64 0] 43)
  replace Fa := Fa.alloc (.cells #[.int .i64 0, .int .i64 0, .int .i64 0, .int .i64 0, .int .i64 0, .int .i64 0, .int .i64 0, .int .i64 0] 43)
  replace Fo := Fo.alloc (.cells #[.int .i64 0, .int .i64 0, .int .i64 0, .int .i64 0, .int .i64 0, .int .i64 0, .int .i64 0, .int .i64 0] 43)
  replace BB := ball BB (.cells #[.int .i64 0, .int .i64 0, .int .i64 0, .int .i64 0, .int .i64 0, .int .i64 0, .int .i64 0, .int .i64 0] 43)
  simp only [World.size_alloc, Nat.add_assoc, Nat.reduceAdd] at To Fo Tq Fq
  obtain ⟨V1, hV1⟩ : ∃ V1, ((w.alloc (.cells #[.int .i64 4, .int .i64 s, .int .i64 p, .int .i64 n, .int .i64 c, .int .i64 key, .int .i64 f, .int .i64 y] 43)).alloc (.cells #[.int .i64 0, .int .i64 0, .int .i64 0, .int .i64 0, .int .i64 0, .int .i64 0, .int .i64 0, .int .i64 0] 43)).alloc (.cells #[.int .i64 0, .int .i64 0, .int .i64 0, .int .i64 0, .int .i64 0, .int .i64 0, .int .i64 0, .int .i64 0] 43) = V1 := ⟨_, rfl⟩
  rw [hV1] at BB Ta Tt To Tq Fa Fo Fq ⊢
  clear hV1
  obtain ⟨k1, hk1⟩ : ∃ k1, w.heap.size = k1 := ⟨_, rfl⟩
  rw [hk1] at Tt To Fo Tq Fq bs1 lt1a ⊢
  clear hk1
  have t0 := Tt 0 _ rfl
  have t1 := Tt 1 _ rfl
  have t2 := Tt 2 _ rfl
  have t3 := Tt 3 _ rfl
  have t4 := Tt 4 _ rfl
  have t5 := Tt 5 _ rfl
  have t6 := Tt 6 _ rfl
  have t7 := Tt 7 _ rfl
  have a0 := Ta 0 _ rfl
  have fa0 := Fa.1 0
  have a1 := Ta 1 _ rfl
  have fa1 := Fa.1 1
  have a2 := Ta 2 _ rfl
  have fa2 := Fa.1 2
  have a3 := Ta 3 _ rfl
  have fa3 := Fa.1 3
  have a4 := Ta 4 _ rfl
  have fa4 := Fa.1 4
  go_upto_region 13 with (fail)
  clear t0 t1 t2 t3 t4 t5 t6 t7 a0 fa0 a1 fa1 a2 fa2 a3 fa3 a4 fa4
  replace Ta := Ta.set 0 (.int .i64 3) (by simp)
  replace Tt := Tt.other (k' := k0) (by omega) 0 (.int .i64 3)
  replace To := To.other (k' := k0) (by omega) 0 (.int .i64 3)
  replace Tq := Tq.other (k' := k0) (by omega) 0 (.int .i64 3)
  replace Fa := Fa.set ⟨k0, 0, none⟩ (.int .i64 3)
  replace Fo := Fo.set ⟨k0, 0, none⟩ (.int .i64 3)
  replace Fq := Fq.set ⟨k0, 0, none⟩ (.int .i64 3)
  replace BB := BB.setCell (p := ⟨k0, 0, none⟩) (by first | exact Nat.le_refl _ | (simp only; omega)) (.int .i64 3)
  obtain ⟨V2, hV2⟩ : ∃ V2, V1.setCell ⟨k0, 0, none⟩ (.int .i64 3) = V2 := ⟨_, rfl⟩
  rw [hV2] at BB Ta Tt To Tq Fa Fo Fq ⊢
  clear hV2
  have q0 := Tq 0 _ rfl
  have fq0 := Fq.1 0
  have q1 := Tq 1 _ rfl
  have fq1 := Fq.1 1
  have q2 := Tq 2 _ rfl
  have fq2 := Fq.1 2
  have q3 := Tq 3 _ rfl
  have fq3 := Fq.1 3
  have q4 := Tq 4 _ rfl
  have fq4 := Fq.1 4
  have q5 := Tq 5 _ rfl
  have fq5 := Fq.1 5
  have q6 := Tq 6 _ rfl
  have fq6 := Fq.1 6
  have q7 := Tq 7 _ rfl
  have fq7 := Fq.1 7
  have o0 := To 0 _ rfl
  have fo0 := Fo.1 0
  have o1 := To 1 _ rfl
  have fo1 := Fo.1 1
  have o2 := To 2 _ rfl
  have fo2 := Fo.1 2
  have o3 := To 3 _ rfl
  have fo3 := Fo.1 3
  have o4 := To 4 _ rfl
  have fo4 := Fo.1 4
  have o5 := To 5 _ rfl
  have fo5 := Fo.1 5
  have o6 := To 6 _ rfl
  have fo6 := Fo.1 6
  have o7 := To 7 _ rfl
  have fo7 := Fo.1 7
  go_wp2_with fail
  clear q0 fq0 q1 fq1 q2 fq2 q3 fq3 q4 fq4 q5 fq5 q6 fq6 q7 fq7 o0 fo0 o1 fo1 o2 fo2 o3 fo3 o4 fo4 o5 fo5 o6 fo6 o7 fo7
  replace To := To.set 0 (.int .i64 0) (by simp)
  replace Ta := Ta.other (k' := k1 + 1) (by omega) 0 (.int .i64 0)
  replace Tt := Tt.other (k' := k1 + 1) (by omega) 0 (.int .i64 0)
  replace Tq := Tq.other (k' := k1 + 1) (by omega) 0 (.int .i64 0)
  replace Fa := Fa.set ⟨k1 + 1, 0, none⟩ (.int .i64 0)
  replace Fo := Fo.set ⟨k1 + 1, 0, none⟩ (.int .i64 0)
  replace Fq := Fq.set ⟨k1 + 1, 0, none⟩ (.int .i64 0)
  replace BB := BB.setCell (p := ⟨k1 + 1, 0, none⟩) (by first | exact Nat.le_refl _ | (simp only; omega)) (.int .i64 0)
  replace To := To.set 1 (.int .i64 0) (by simp)
  replace Ta := Ta.other (k' := k1 + 1) (by omega) 1 (.int .i64 0)
  replace Tt := Tt.other (k' := k1 + 1) (by omega) 1 (.int .i64 0)
  replace Tq := Tq.other (k' := k1 + 1) (by omega) 1 (.int .i64 0)
  replace Fa := Fa.set ⟨k1 + 1, 1, none⟩ (.int .i64 0)
  replace Fo := Fo.set ⟨k1 + 1, 1, none⟩ (.int .i64 0)
  replace Fq := Fq.set ⟨k1 + 1, 1, none⟩ (.int .i64 0)
  replace BB := BB.setCell (p := ⟨k1 + 1, 1, none⟩) (by first | exact Nat.le_refl _ | (simp only; omega)) (.int .i64 0)
  replace To := To.set 2 (.int .i64 0) (by simp)
  replace Ta := Ta.other (k' := k1 + 1) (by omega) 2 (.int .i64 0)
  replace Tt := Tt.other (k' := k1 + 1) (by omega) 2 (.int .i64 0)
  replace Tq := Tq.other (k' := k1 + 1) (by omega) 2 (.int .i64 0)
  replace Fa := Fa.set ⟨k1 + 1, 2, none⟩ (.int .i64 0)
  replace Fo := Fo.set ⟨k1 + 1, 2, none⟩ (.int .i64 0)
  replace Fq := Fq.set ⟨k1 + 1, 2, none⟩ (.int .i64 0)
  replace BB := BB.setCell (p := ⟨k1 + 1, 2, none⟩) (by first | exact Nat.le_refl _ | (simp only; omega)) (.int .i64 0)
  replace To := To.set 3 (.int .i64 0) (by simp)
  replace Ta := Ta.other (k' := k1 + 1) (by omega) 3 (.int .i64 0)
  replace Tt := Tt.other (k' := k1 + 1) (by omega) 3 (.int .i64 0)
  replace Tq := Tq.other (k' := k1 + 1) (by omega) 3 (.int .i64 0)
  replace Fa := Fa.set ⟨k1 + 1, 3, none⟩ (.int .i64 0)
  replace Fo := Fo.set ⟨k1 + 1, 3, none⟩ (.int .i64 0)
  replace Fq := Fq.set ⟨k1 + 1, 3, none⟩ (.int .i64 0)
  replace BB := BB.setCell (p := ⟨k1 + 1, 3, none⟩) (by first | exact Nat.le_refl _ | (simp only; omega)) (.int .i64 0)
  replace To := To.set 4 (.int .i64 0) (by simp)
  replace Ta := Ta.other (k' := k1 + 1) (by omega) 4 (.int .i64 0)
  replace Tt := Tt.other (k' := k1 + 1) (by omega) 4 (.int .i64 0)
  replace Tq := Tq.other (k' := k1 + 1) (by omega) 4 (.int .i64 0)
  replace Fa := Fa.set ⟨k1 + 1, 4, none⟩ (.int .i64 0)
  replace Fo := Fo.set ⟨k1 + 1, 4, none⟩ (.int .i64 0)
  replace Fq := Fq.set ⟨k1 + 1, 4, none⟩ (.int .i64 0)
  replace BB := BB.setCell (p := ⟨k1 + 1, 4, none⟩) (by first | exact Nat.le_refl _ | (simp only; omega)) (.int .i64 0)
  replace To := To.set 5 (.int .i64 0) (by simp)
  replace Ta := Ta.other (k' := k1 + 1) (by omega) 5 (.int .i64 0)
  replace Tt := Tt.other (k' := k1 + 1) (by omega) 5 (.int .i64 0)
  replace Tq := Tq.other (k' := k1 + 1) (by omega) 5 (.int .i64 0)
  replace Fa := Fa.set ⟨k1 + 1, 5, none⟩ (.int .i64 0)
  replace Fo := Fo.set ⟨k1 + 1, 5, none⟩ (.int .i64 0)
  replace Fq := Fq.set ⟨k1 + 1, 5, none⟩ (.int .i64 0)
  replace BB := BB.setCell (p := ⟨k1 + 1, 5, none⟩) (by first | exact Nat.le_refl _ | (simp only; omega)) (.int .i64 0)
  replace To := To.set 6 (.int .i64 0) (by simp)
  replace Ta := Ta.other (k' := k1 + 1) (by omega) 6 (.int .i64 0)
  replace Tt := Tt.other (k' := k1 + 1) (by omega) 6 (.int .i64 0)
  replace Tq := Tq.other (k' := k1 + 1) (by omega) 6 (.int .i64 0)
  replace Fa := Fa.set ⟨k1 + 1, 6, none⟩ (.int .i64 0)
  replace Fo := Fo.set ⟨k1 + 1, 6, none⟩ (.int .i64 0)
  replace Fq := Fq.set ⟨k1 + 1, 6, none⟩ (.int .i64 0)
  replace BB := BB.setCell (p := ⟨k1 + 1, 6, none⟩) (by first | exact Nat.le_refl _ | (simp only; omega)) (.int .i64 0)
  replace To := To.set 7 (.int .i64 0) (by simp)
  replace Ta := Ta.other (k' := k1 + 1) (by omega) 7 (.int .i64 0)
  replace Tt := Tt.other (k' := k1 + 1) (by omega) 7 (.int .i64 0)
  replace Tq := Tq.other (k' := k1 + 1) (by omega) 7 (.int .i64 0)
  replace Fa := Fa.set ⟨k1 + 1, 7, none⟩ (.int .i64 0)
  replace Fo := Fo.set ⟨k1 + 1, 7, none⟩ (.int .i64 0)
  replace Fq := Fq.set ⟨k1 + 1, 7, none⟩ (.int .i64 0)
  replace BB := BB.setCell (p := ⟨k1 + 1, 7, none⟩) (by first | exact Nat.le_refl _ | (simp only; omega)) (.int .i64 0)
  obtain ⟨V3, hV3⟩ : ∃ V3, (((((((V2.setCell ⟨k1 + 1, 0, none⟩ (.int .i64 0)).setCell ⟨k1 + 1, 1, none⟩ (.int .i64 0)).setCell ⟨k1 + 1, 2, none⟩ (.int .i64 0)).setCell ⟨k1 + 1, 3, none⟩ (.int .i64 0)).setCell ⟨k1 + 1, 4, none⟩ (.int .i64 0)).setCell ⟨k1 + 1, 5, none⟩ (.int .i64 0)).setCell ⟨k1 + 1, 6, none⟩ (.int .i64 0)).setCell ⟨k1 + 1, 7, none⟩ (.int .i64 0) = V3 := ⟨_, rfl⟩
  rw [hV3] at BB Ta Tt To Tq Fa Fo Fq ⊢
  clear hV3
  have o0 := To 0 _ rfl
  have fo0 := Fo.1 0
  have o1 := To 1 _ rfl
  have fo1 := Fo.1 1
  have o2 := To 2 _ rfl
  have fo2 := Fo.1 2
  have o3 := To 3 _ rfl
  have fo3 := Fo.1 3
  have o4 := To 4 _ rfl
  have fo4 := Fo.1 4
  have o5 := To 5 _ rfl
  have fo5 := Fo.1 5
  have o6 := To 6 _ rfl
  have fo6 := Fo.1 6
  have o7 := To 7 _ rfl
  have fo7 := Fo.1 7
  refine bodyPost_ret (v := .tuple #[(zWd : Wd).v, .bool true]) (by simp [results, Tryd.results48, go_sem, o0, o1, o2, o3, o4, o5, o6, o7]) rfl ⟨rfl, BB, Ta⟩
end Go.Proofs.YtgmabjlehjpboaaDoor
