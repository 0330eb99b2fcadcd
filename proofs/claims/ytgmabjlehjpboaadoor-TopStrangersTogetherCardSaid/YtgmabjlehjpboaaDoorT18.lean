/- Proved: how a sponsor's table turns by a question and by a proof. Conditions: those that each theorem names. -/
import Derived.Test.YtgmabjlehjpboaaDoorT17
import Derived.Maps.AppendAt
import Derived.Test.YtgmabjlehjpboaaDoorR3
namespace Go.Proofs.YtgmabjlehjpboaaDoor
open Go.RowKit Go.Sort Go.BigFrame Go.Proofs.YtgmabjlehjpboaaDoor.K
set_option linter.unusedVariables false
set_option linter.unusedSimpArgs false
attribute [local go_sem] cell_alloc_old

open Go.Maps Go.Shelf
theorem grown_of {w w' : World} (h : Below w.heap.size w w') (row : Option Nat) : w.grownBy w' row := ⟨h.os, h.tape, h.output, h.size, fun i hi _ => h.block i hi⟩
/-- An entry is noted, at the operation. -/
theorem wpList_put {ops : Array Oper} {rest : List Oper} {o : Oper} {a : Act} {Q : Exit → Act → World → Prop} {w : World} (hg : o.guard = none) (m x v : Operand) (hop : o.op = Op.mapUpdate 76 m x v)
    (b n : Nat) (l : List Hf) (hT : TabH w b n l) (hn : n < maxLen) (h : Hf) (h64 : I64 h.s) (hm : a.eval m = .map (some b)) (hx : a.eval x = .int .i64 h.s) (hv : a.eval v = h.v)
    (hK : ∀ w', TabH w' b (n + 1) (putL l h) → w.grownBy w' (some b) → wpList Tryd.prog ops Q rest (a.put o.dst undef) w') : wpList Tryd.prog ops Q (o :: rest) a w := by
  obtain ⟨w', hrun, h1, h2⟩ := hT.put hn h h64
  refine wpList_plain hg fun K' hK' => ?_
  unfold Oper.wp
  simp [execOp, hop, hm, hx, hv, hrun, Result.andThen]
  exact hK' _ _ (hK w' h1 h2)
theorem TabH.other {w : World} {b n k : Nat} {l : List Hf} (h : TabH w b n l) (hk : k ≠ b) (j : Nat) (v : Value) : TabH (w.setCell ⟨k, j, none⟩ v) b n l := h.same (Below.heap_setCell _ _ _ _ (fun e => hk e.symm))
theorem TabH.drew {w : World} {b n : Nat} {l : List Hf} (h : TabH w b n l) : TabH w.drew b n l := h
theorem wrap_nn (k : Int) : 0 ≤ IntKind.u64.wrap k := by
  show 0 ≤ k % (2 ^ 64 : Int)
  omega
/-- What becomes of the table: the same, or an element more; nothing else turns. -/
def Turned (b n : Nat) (err : Int) (L : List Hf) (w : World) (e : Ending) (w' : World) : Prop := e = .returned (.int .i64 err) ∧ TabH w' b (n + 1) L ∧ w.grownBy w' (some b)
set_option maxRecDepth 100000 in
set_option maxHeartbeats 4000000 in
theorem asked_old (b m : Nat) (l : List Hf) (fr k s p n c key f y hs hn hc hu hk : Int) (hp : Bool) (w : World) (hT : TabH w b m l) (hs64 : I64 s) (hf : findL l s = some ⟨hs, hn, hc, hu, hp, hk⟩) (h1 : n < hn) :
    Calls Tryd.prog 32 #[.agg #[.map (some b), .int .i64 fr], (⟨k, s, p, n, c, key, f, y⟩ : Wd).v] w (Turned b m 14 l w) := by
  go_enter Tryd.func32, Tryd.ntmps32
  go_upto_region 1 with (fail)
  have Td := CAt.new (w) [.map (some b), .int .i64 fr] 78
  have BB : Below w.heap.size w ((w).alloc (.cells #[.map (some b), .int .i64 fr] 78)) := ball (Below.refl _ _) _
  have Tt := CAt.new (w.alloc (.cells #[.map (some b), .int .i64 fr] 78)) [.int .i64 k, .int .i64 s, .int .i64 p, .int .i64 n, .int .i64 c, .int .i64 key, .int .i64 f, .int .i64 y] 43
  replace Td := Td.alloc (.cells #[.int .i64 k, .int .i64 s, .int .i64 p, .int .i64 n, .int .i64 c, .int .i64 key, .int .i64 f, .int .i64 y] 43)
  replace BB := ball BB (.cells #[.int .i64 k, .int .i64 s, .int .i64 p, .int .i64 n, .int .i64 c, .int .i64 key, .int .i64 f, .int .i64 y] 43)
  simp only [World.size_alloc, Nat.add_assoc, Nat.reduceAdd] at Tt
  obtain ⟨V1, hV1⟩ : ∃ V1, (w.alloc (.cells #[.map (some b), .int .i64 fr] 78)).alloc (.cells #[.int .i64 k, .int .i64 s, .int .i64 p, .int .i64 n, .int .i64 c, .int .i64 key, .int .i64 f, .int .i64 y] 43) = V1 := ⟨_, rfl⟩
  rw [hV1] at BB Td Tt ⊢
  clear hV1
  have hT1 := hT.keep BB
  have hlk := hT1.look hs64
  rw [hf] at hlk
  simp only [Option.getD_some, Option.getD_none, Option.isSome_some, Option.isSome_none] at hlk
  have HF := Lib.hid hf; clear hf
  have d0 := Td 0 _ rfl
  have d1 := Td 1 _ rfl
  have t0 := Tt 0 _ rfl
  have t1 := Tt 1 _ rfl
  have t2 := Tt 2 _ rfl
  have t3 := Tt 3 _ rfl
  have t4 := Tt 4 _ rfl
  have t5 := Tt 5 _ rfl
  have t6 := Tt 6 _ rfl
  have t7 := Tt 7 _ rfl
  go_upto_region 2 with (fail)
  clear hlk
  clear d0 d1 t0 t1 t2 t3 t4 t5 t6 t7
  have bs2 : w.heap.size ≤ V1.heap.size := BB.size
  have lt2d : w.heap.size < V1.heap.size := World.block_lt_of_cell? V1 ⟨w.heap.size, 0, none⟩ (Td 0 _ rfl)
  have lt2t : w.heap.size + 1 < V1.heap.size := World.block_lt_of_cell? V1 ⟨w.heap.size + 1, 0, none⟩ (Tt 0 _ rfl)
  have Tg := CAt.new (V1) [.int .i64 hs, .int .i64 hn, .int .i64 hc, .int .i64 hu, .bool hp, .int .i64 hk] 70
  have Fg := Fz.new (V1) #[.int .i64 hs, .int .i64 hn, .int .i64 hc, .int .i64 hu, .bool hp, .int .i64 hk] 70
  replace Td := Td.alloc (.cells #[.int .i64 hs, .int .i64 hn, .int .i64 hc, .int .i64 hu, .bool hp, .int .i64 hk] 70)
  replace Tt := Tt.alloc (.cells #[.int .i64 hs, .int .i64 hn, .int .i64 hc, .int .i64 hu, .bool hp, .int .i64 hk] 70)
  replace hT1 := hT1.keep (Below.alloc (Below.refl _ (V1)) (Nat.le_refl _) (.cells #[.int .i64 hs, .int .i64 hn, .int .i64 hc, .int .i64 hu, .bool hp, .int .i64 hk] 70))
  replace BB := ball BB (.cells #[.int .i64 hs, .int .i64 hn, .int .i64 hc, .int .i64 hu, .bool hp, .int .i64 hk] 70)
  obtain ⟨V2, hV2⟩ : ∃ V2, V1.alloc (.cells #[.int .i64 hs, .int .i64 hn, .int .i64 hc, .int .i64 hu, .bool hp, .int .i64 hk] 70) = V2 := ⟨_, rfl⟩
  rw [hV2] at BB Td Tt Tg Fg hT1 ⊢
  clear hV2
  obtain ⟨k2, hk2⟩ : ∃ k2, V1.heap.size = k2 := ⟨_, rfl⟩
  rw [hk2] at Tg Fg bs2 lt2d lt2t ⊢
  clear hk2
  have g0 := Tg 0 _ rfl
  have fg0 := Fg.1 0
  have g1 := Tg 1 _ rfl
  have fg1 := Fg.1 1
  have g2 := Tg 2 _ rfl
  have fg2 := Fg.1 2
  have g3 := Tg 3 _ rfl
  have fg3 := Fg.1 3
  have g4 := Tg 4 _ rfl
  have fg4 := Fg.1 4
  have g5 := Tg 5 _ rfl
  have fg5 := Fg.1 5
  have t0 := Tt 0 _ rfl
  have t1 := Tt 1 _ rfl
  have t2 := Tt 2 _ rfl
  have t3 := Tt 3 _ rfl
  have t4 := Tt 4 _ rfl
  have t5 := Tt 5 _ rfl
  have t6 := Tt 6 _ rfl
  have t7 := Tt 7 _ rfl
  have d0 := Td 0 _ rfl
  have d1 := Td 1 _ rfl
  go_wp2_with fail
  go_ret
  exact ⟨rfl, (hT.keep BB).mono (Nat.le_succ _), grown_of BB _⟩
set_option maxRecDepth 100000 in
set_option maxHeartbeats 4000000 in
theorem asked_same (b m : Nat) (l : List Hf) (fr k s p n c key f y hs hn hc hu hk : Int) (hp : Bool) (w : World) (hT : TabH w b m l) (hs64 : I64 s) (hf : findL l s = some ⟨hs, hn, hc, hu, hp, hk⟩) (h1 : n = hn) :
    Calls Tryd.prog 32 #[.agg #[.map (some b), .int .i64 fr], (⟨k, s, p, n, c, key, f, y⟩ : Wd).v] w (Turned b m 0 l w) := by
  subst h1
  have h1 : ¬ n < n := by omega
  go_enter Tryd.func32, Tryd.ntmps32
  go_upto_region 1 with (fail)
  have Td := CAt.new (w) [.map (some b), .int .i64 fr] 78
  have BB : Below w.heap.size w ((w).alloc (.cells #[.map (some b), .int .i64 fr] 78)) := ball (Below.refl _ _) _
  have Tt := CAt.new (w.alloc (.cells #[.map (some b), .int .i64 fr] 78)) [.int .i64 k, .int .i64 s, .int .i64 p, .int .i64 n, .int .i64 c, .int .i64 key, .int .i64 f, .int .i64 y] 43
  replace Td := Td.alloc (.cells #[.int .i64 k, .int .i64 s, .int .i64 p, .int .i64 n, .int .i64 c, .int .i64 key, .int .i64 f, .int .i64 y] 43)
  replace BB := ball BB (.cells #[.int .i64 k, .int .i64 s, .int .i64 p, .int .i64 n, .int .i64 c, .int .i64 key, .int .i64 f, .int .i64 y] 43)
  simp only [World.size_alloc, Nat.add_assoc, Nat.reduceAdd] at Tt
  obtain ⟨V1, hV1⟩ : ∃ V1, (w.alloc (.cells #[.map (some b), .int .i64 fr] 78)).alloc (.cells #[.int .i64 k, .int .i64 s, .int .i64 p, .int .i64 n, .int .i64 c, .int .i64 key, .int .i64 f, .int .i64 y] 43) = V1 := ⟨_, rfl⟩
  rw [hV1] at BB Td Tt ⊢
  clear hV1
  have hT1 := hT.keep BB
  have hlk := hT1.look hs64
  rw [hf] at hlk
  simp only [Option.getD_some, Option.getD_none, Option.isSome_some, Option.isSome_none] at hlk
  have HF := Lib.hid hf; clear hf
  have d0 := Td 0 _ rfl
  have d1 := Td 1 _ rfl
  have t0 := Tt 0 _ rfl
  have t1 := Tt 1 _ rfl
  have t2 := Tt 2 _ rfl
  have t3 := Tt 3 _ rfl
  have t4 := Tt 4 _ rfl
  have t5 := Tt 5 _ rfl
  have t6 := Tt 6 _ rfl
  have t7 := Tt 7 _ rfl
  go_upto_region 2 with (fail)
  clear hlk
  clear d0 d1 t0 t1 t2 t3 t4 t5 t6 t7
  have bs2 : w.heap.size ≤ V1.heap.size := BB.size
  have lt2d : w.heap.size < V1.heap.size := World.block_lt_of_cell? V1 ⟨w.heap.size, 0, none⟩ (Td 0 _ rfl)
  have lt2t : w.heap.size + 1 < V1.heap.size := World.block_lt_of_cell? V1 ⟨w.heap.size + 1, 0, none⟩ (Tt 0 _ rfl)
  have Tg := CAt.new (V1) [.int .i64 hs, .int .i64 n, .int .i64 hc, .int .i64 hu, .bool hp, .int .i64 hk] 70
  have Fg := Fz.new (V1) #[.int .i64 hs, .int .i64 n, .int .i64 hc, .int .i64 hu, .bool hp, .int .i64 hk] 70
  replace Td := Td.alloc (.cells #[.int .i64 hs, .int .i64 n, .int .i64 hc, .int .i64 hu, .bool hp, .int .i64 hk] 70)
  replace Tt := Tt.alloc (.cells #[.int .i64 hs, .int .i64 n, .int .i64 hc, .int .i64 hu, .bool hp, .int .i64 hk] 70)
  replace hT1 := hT1.keep (Below.alloc (Below.refl _ (V1)) (Nat.le_refl _) (.cells #[.int .i64 hs, .int .i64 n, .int .i64 hc, .int .i64 hu, .bool hp, .int .i64 hk] 70))
  replace BB := ball BB (.cells #[.int .i64 hs, .int .i64 n, .int .i64 hc, .int .i64 hu, .bool hp, .int .i64 hk] 70)
  obtain ⟨V2, hV2⟩ : ∃ V2, V1.alloc (.cells #[.int .i64 hs, .int .i64 n, .int .i64 hc, .int .i64 hu, .bool hp, .int .i64 hk] 70) = V2 := ⟨_, rfl⟩
  rw [hV2] at BB Td Tt Tg Fg hT1 ⊢
  clear hV2
  obtain ⟨k2, hk2⟩ : ∃ k2, V1.heap.size = k2 := ⟨_, rfl⟩
  rw [hk2] at Tg Fg bs2 lt2d lt2t ⊢
  clear hk2
  have g0 := Tg 0 _ rfl
  have fg0 := Fg.1 0
  have g1 := Tg 1 _ rfl
  have fg1 := Fg.1 1
  have g2 := Tg 2 _ rfl
  have fg2 := Fg.1 2
  have g3 := Tg 3 _ rfl
  have fg3 := Fg.1 3
  have g4 := Tg 4 _ rfl
  have fg4 := Fg.1 4
  have g5 := Tg 5 _ rfl
  have fg5 := Fg.1 5
  have t0 := Tt 0 _ rfl
  have t1 := Tt 1 _ rfl
  have t2 := Tt 2 _ rfl
  have t3 := Tt 3 _ rfl
  have t4 := Tt 4 _ rfl
  have t5 := Tt 5 _ rfl
  have t6 := Tt 6 _ rfl
  have t7 := Tt 7 _ rfl
  have d0 := Td 0 _ rfl
  have d1 := Td 1 _ rfl
  go_wp2_with fail
  go_ret
  exact ⟨rfl, (hT.keep BB).mono (Nat.le_succ _), grown_of BB _⟩
set_option maxRecDepth 100000 in
set_option maxHeartbeats 4000000 in
theorem asked_full (b m : Nat) (l : List Hf) (fr k s p n c key f y : Int) (w : World) (hT : TabH w b m l) (hs64 : I64 s) (hf : findL l s = .none) (h1 : l.length = 4) :
    Calls Tryd.prog 32 #[.agg #[.map (some b), .int .i64 fr], (⟨k, s, p, n, c, key, f, y⟩ : Wd).v] w (Turned b m 10 l w) := by
  go_enter Tryd.func32, Tryd.ntmps32
  go_upto_region 1 with (fail)
  have Td := CAt.new (w) [.map (some b), .int .i64 fr] 78
  have BB : Below w.heap.size w ((w).alloc (.cells #[.map (some b), .int .i64 fr] 78)) := ball (Below.refl _ _) _
  have Tt := CAt.new (w.alloc (.cells #[.map (some b), .int .i64 fr] 78)) [.int .i64 k, .int .i64 s, .int .i64 p, .int .i64 n, .int .i64 c, .int .i64 key, .int .i64 f, .int .i64 y] 43
  replace Td := Td.alloc (.cells #[.int .i64 k, .int .i64 s, .int .i64 p, .int .i64 n, .int .i64 c, .int .i64 key, .int .i64 f, .int .i64 y] 43)
  replace BB := ball BB (.cells #[.int .i64 k, .int .i64 s, .int .i64 p, .int .i64 n, .int .i64 c, .int .i64 key, .int .i64 f, .int .i64 y] 43)
  simp only [World.size_alloc, Nat.add_assoc, Nat.reduceAdd] at Tt
  obtain ⟨V1, hV1⟩ : ∃ V1, (w.alloc (.cells #[.map (some b), .int .i64 fr] 78)).alloc (.cells #[.int .i64 k, .int .i64 s, .int .i64 p, .int .i64 n, .int .i64 c, .int .i64 key, .int .i64 f, .int .i64 y] 43) = V1 := ⟨_, rfl⟩
  rw [hV1] at BB Td Tt ⊢
  clear hV1
  have hT1 := hT.keep BB
  have hlk := hT1.look hs64
  rw [hf] at hlk
  simp only [Option.getD_some, Option.getD_none, Option.isSome_some, Option.isSome_none] at hlk
  have HF := Lib.hid hf; clear hf
  have d0 := Td 0 _ rfl
  have d1 := Td 1 _ rfl
  have t0 := Tt 0 _ rfl
  have t1 := Tt 1 _ rfl
  have t2 := Tt 2 _ rfl
  have t3 := Tt 3 _ rfl
  have t4 := Tt 4 _ rfl
  have t5 := Tt 5 _ rfl
  have t6 := Tt 6 _ rfl
  have t7 := Tt 7 _ rfl
  go_upto_region 2 with (fail)
  clear hlk
  clear d0 d1 t0 t1 t2 t3 t4 t5 t6 t7
  have bs2 : w.heap.size ≤ V1.heap.size := BB.size
  have lt2d : w.heap.size < V1.heap.size := World.block_lt_of_cell? V1 ⟨w.heap.size, 0, none⟩ (Td 0 _ rfl)
  have lt2t : w.heap.size + 1 < V1.heap.size := World.block_lt_of_cell? V1 ⟨w.heap.size + 1, 0, none⟩ (Tt 0 _ rfl)
  have Tg := CAt.new (V1) [.int .i64 0, .int .i64 0, .int .i64 0, .int .i64 0, .bool false, .int .i64 0] 70
  have Fg := Fz.new (V1) #[.int .i64 0, .int .i64 0, .int .i64 0, .int .i64 0, .bool false, .int .i64 0] 70
  replace Td := Td.alloc (.cells #[.int .i64 0, .int .i64 0, .int .i64 0, .int .i64 0, .bool false, .int .i64 0] 70)
  replace Tt := Tt.alloc (.cells #[.int .i64 0, .int .i64 0, .int .i64 0, .int .i64 0, .bool false, .int .i64 0] 70)
  replace hT1 := hT1.keep (Below.alloc (Below.refl _ (V1)) (Nat.le_refl _) (.cells #[.int .i64 0, .int .i64 0, .int .i64 0, .int .i64 0, .bool false, .int .i64 0] 70))
  replace BB := ball BB (.cells #[.int .i64 0, .int .i64 0, .int .i64 0, .int .i64 0, .bool false, .int .i64 0] 70)
  obtain ⟨V2, hV2⟩ : ∃ V2, V1.alloc (.cells #[.int .i64 0, .int .i64 0, .int .i64 0, .int .i64 0, .bool false, .int .i64 0] 70) = V2 := ⟨_, rfl⟩
  rw [hV2] at BB Td Tt Tg Fg hT1 ⊢
  clear hV2
  obtain ⟨k2, hk2⟩ : ∃ k2, V1.heap.size = k2 := ⟨_, rfl⟩
  rw [hk2] at Tg Fg bs2 lt2d lt2t ⊢
  clear hk2
  have hln := hT1.len 3
  rw [h1] at hln
  clear h1
  have g0 := Tg 0 _ rfl
  have fg0 := Fg.1 0
  have g1 := Tg 1 _ rfl
  have fg1 := Fg.1 1
  have g2 := Tg 2 _ rfl
  have fg2 := Fg.1 2
  have g3 := Tg 3 _ rfl
  have fg3 := Fg.1 3
  have g4 := Tg 4 _ rfl
  have fg4 := Fg.1 4
  have g5 := Tg 5 _ rfl
  have fg5 := Fg.1 5
  have t0 := Tt 0 _ rfl
  have t1 := Tt 1 _ rfl
  have t2 := Tt 2 _ rfl
  have t3 := Tt 3 _ rfl
  have t4 := Tt 4 _ rfl
  have t5 := Tt 5 _ rfl
  have t6 := Tt 6 _ rfl
  have t7 := Tt 7 _ rfl
  have d0 := Td 0 _ rfl
  have d1 := Td 1 _ rfl
  go_wp2_with fail
  go_ret
  exact ⟨rfl, (hT.keep BB).mono (Nat.le_succ _), grown_of BB _⟩
/-- The table has a new question. -/
def AskedNew (b m : Nat) (l : List Hf) (s n fr : Int) (w : World) (e : Ending) (w' : World) : Prop := ∃ c, 0 ≤ c ∧ c ≤ 1000000000 ∧ Turned b m 0 (putL l ⟨s, n, c, fr + 12, false, 0⟩) w e w'
theorem chal_bd (S : Int) : 0 ≤ belowV S 1000000000 ∧ belowV S 1000000000 ≤ 1000000000 := by unfold belowV; split <;> omega
set_option maxRecDepth 100000 in
set_option maxHeartbeats 4000000 in
theorem asked_newer (b m : Nat) (l : List Hf) (fr k s p n c key f y hs hn hc hu hk : Int) (hp : Bool) (w : World) (hT : TabH w b m l) (hs64 : I64 s) (hf : findL l s = some ⟨hs, hn, hc, hu, hp, hk⟩) (h1 : hn < n) (hf0 : 0 ≤ fr) (hf1 : fr ≤ 999999988) (hTab : Tab w) (hm : m < maxLen) :
    Calls Tryd.prog 32 #[.agg #[.map (some b), .int .i64 fr], (⟨k, s, p, n, c, key, f, y⟩ : Wd).v] w (AskedNew b m l s n fr w) := by
  have h2 : ¬ n < hn := by omega
  have h3 : ¬ hn = n := by omega
  clear h1
  go_enter Tryd.func32, Tryd.ntmps32
  go_upto_region 1 with (fail)
  have Td := CAt.new (w) [.map (some b), .int .i64 fr] 78
  have BB : Below w.heap.size w ((w).alloc (.cells #[.map (some b), .int .i64 fr] 78)) := ball (Below.refl _ _) _
  have Tt := CAt.new (w.alloc (.cells #[.map (some b), .int .i64 fr] 78)) [.int .i64 k, .int .i64 s, .int .i64 p, .int .i64 n, .int .i64 c, .int .i64 key, .int .i64 f, .int .i64 y] 43
  replace Td := Td.alloc (.cells #[.int .i64 k, .int .i64 s, .int .i64 p, .int .i64 n, .int .i64 c, .int .i64 key, .int .i64 f, .int .i64 y] 43)
  replace BB := ball BB (.cells #[.int .i64 k, .int .i64 s, .int .i64 p, .int .i64 n, .int .i64 c, .int .i64 key, .int .i64 f, .int .i64 y] 43)
  simp only [World.size_alloc, Nat.add_assoc, Nat.reduceAdd] at Tt
  obtain ⟨V1, hV1⟩ : ∃ V1, (w.alloc (.cells #[.map (some b), .int .i64 fr] 78)).alloc (.cells #[.int .i64 k, .int .i64 s, .int .i64 p, .int .i64 n, .int .i64 c, .int .i64 key, .int .i64 f, .int .i64 y] 43) = V1 := ⟨_, rfl⟩
  rw [hV1] at BB Td Tt ⊢
  clear hV1
  have hT1 := hT.keep BB
  have hlk := hT1.look hs64
  rw [hf] at hlk
  simp only [Option.getD_some, Option.getD_none, Option.isSome_some, Option.isSome_none] at hlk
  have HF := Lib.hid hf; clear hf
  have d0 := Td 0 _ rfl
  have d1 := Td 1 _ rfl
  have t0 := Tt 0 _ rfl
  have t1 := Tt 1 _ rfl
  have t2 := Tt 2 _ rfl
  have t3 := Tt 3 _ rfl
  have t4 := Tt 4 _ rfl
  have t5 := Tt 5 _ rfl
  have t6 := Tt 6 _ rfl
  have t7 := Tt 7 _ rfl
  go_upto_region 2 with (fail)
  clear hlk
  clear d0 d1 t0 t1 t2 t3 t4 t5 t6 t7
  have bs2 : w.heap.size ≤ V1.heap.size := BB.size
  have lt2d : w.heap.size < V1.heap.size := World.block_lt_of_cell? V1 ⟨w.heap.size, 0, none⟩ (Td 0 _ rfl)
  have lt2t : w.heap.size + 1 < V1.heap.size := World.block_lt_of_cell? V1 ⟨w.heap.size + 1, 0, none⟩ (Tt 0 _ rfl)
  have Tg := CAt.new (V1) [.int .i64 hs, .int .i64 hn, .int .i64 hc, .int .i64 hu, .bool hp, .int .i64 hk] 70
  have Fg := Fz.new (V1) #[.int .i64 hs, .int .i64 hn, .int .i64 hc, .int .i64 hu, .bool hp, .int .i64 hk] 70
  replace Td := Td.alloc (.cells #[.int .i64 hs, .int .i64 hn, .int .i64 hc, .int .i64 hu, .bool hp, .int .i64 hk] 70)
  replace Tt := Tt.alloc (.cells #[.int .i64 hs, .int .i64 hn, .int .i64 hc, .int .i64 hu, .bool hp, .int .i64 hk] 70)
  replace hT1 := hT1.keep (Below.alloc (Below.refl _ (V1)) (Nat.le_refl _) (.cells #[.int .i64 hs, .int .i64 hn, .int .i64 hc, .int .i64 hu, .bool hp, .int .i64 hk] 70))
  replace BB := ball BB (.cells #[.int .i64 hs, .int .i64 hn, .int .i64 hc, .int .i64 hu, .bool hp, .int .i64 hk] 70)
  obtain ⟨V2, hV2⟩ : ∃ V2, V1.alloc (.cells #[.int .i64 hs, .int .i64 hn, .int .i64 hc, .int .i64 hu, .bool hp, .int .i64 hk] 70) = V2 := ⟨_, rfl⟩
  rw [hV2] at BB Td Tt Tg Fg hT1 ⊢
  clear hV2
  obtain ⟨k2, hk2⟩ : ∃ k2, V1.heap.size = k2 := ⟨_, rfl⟩
  rw [hk2] at Tg Fg bs2 lt2d lt2t ⊢
  clear hk2
  have hwf : IntKind.i64.wrap (fr + 12) = fr + 12 := IntWalk.i64_in _ (by omega)
  have g0 := Tg 0 _ rfl
  have fg0 := Fg.1 0
  have g1 := Tg 1 _ rfl
  have fg1 := Fg.1 1
  have g2 := Tg 2 _ rfl
  have fg2 := Fg.1 2
  have g3 := Tg 3 _ rfl
  have fg3 := Fg.1 3
  have g4 := Tg 4 _ rfl
  have fg4 := Fg.1 4
  have g5 := Tg 5 _ rfl
  have fg5 := Fg.1 5
  have t0 := Tt 0 _ rfl
  have t1 := Tt 1 _ rfl
  have t2 := Tt 2 _ rfl
  have t3 := Tt 3 _ rfl
  have t4 := Tt 4 _ rfl
  have t5 := Tt 5 _ rfl
  have t6 := Tt 6 _ rfl
  have t7 := Tt 7 _ rfl
  have d0 := Td 0 _ rfl
  have d1 := Td 1 _ rfl
  go_upto_region 9 with (fail)
  have hTab1 := hTab.keep BB
  clear hTab
  clear g0 fg0 g1 fg1 g2 fg2 g3 fg3 g4 fg4 g5 fg5 t0 t1 t2 t3 t4 t5 t6 t7 d0 d1
  have bs3 : w.heap.size ≤ V2.heap.size := BB.size
  have lt3d : w.heap.size < V2.heap.size := World.block_lt_of_cell? V2 ⟨w.heap.size, 0, none⟩ (Td 0 _ rfl)
  have lt3t : w.heap.size + 1 < V2.heap.size := World.block_lt_of_cell? V2 ⟨w.heap.size + 1, 0, none⟩ (Tt 0 _ rfl)
  have lt3g : k2 < V2.heap.size := World.block_lt_of_cell? V2 ⟨k2, 0, none⟩ (Tg 0 _ rfl)
  have d0 := Td 0 _ rfl
  have kd0 := cell_regrown d0
  have d1 := Td 1 _ rfl
  have kd1 := cell_regrown d1
  have t0 := Tt 0 _ rfl
  have kt0 := cell_regrown t0
  have t1 := Tt 1 _ rfl
  have kt1 := cell_regrown t1
  have t2 := Tt 2 _ rfl
  have kt2 := cell_regrown t2
  have t3 := Tt 3 _ rfl
  have kt3 := cell_regrown t3
  have t4 := Tt 4 _ rfl
  have kt4 := cell_regrown t4
  have t5 := Tt 5 _ rfl
  have kt5 := cell_regrown t5
  have t6 := Tt 6 _ rfl
  have kt6 := cell_regrown t6
  have t7 := Tt 7 _ rfl
  have kt7 := cell_regrown t7
  have g0 := Tg 0 _ rfl
  have kg0 := cell_regrown g0
  have g1 := Tg 1 _ rfl
  have kg1 := cell_regrown g1
  have g2 := Tg 2 _ rfl
  have kg2 := cell_regrown g2
  have g3 := Tg 3 _ rfl
  have kg3 := cell_regrown g3
  have g4 := Tg 4 _ rfl
  have kg4 := cell_regrown g4
  have g5 := Tg 5 _ rfl
  have kg5 := cell_regrown g5
  refine' wp_region_mixed [0, 1, 2, 3, 4, 5, 6, 7, 8, 9, 10, 11, 12, 13] [] [14] (by kernel_rfl) (by kernel_rfl) _ (fun Z hZ hN => quiet_hole ?hq9) (fun _ => .cells #[] 0) (fun _ p => .pointer (some ⟨p, 0, none⟩)) (fun i hi => by cases hi) ?ht9
  case hq9 =>
    intro Q9 hQ9
    show wpQuiet _ _ _ _ [_, _, _, _, _, _, _, _, _, _, _, _, _, _] _
    repeat (go_big_quiet_step (first
      | (go_at_call 53; exact rgX hZ fun w' h => below_any _ _ w' (wrap_nn _) (hTab1.keep h))))
    exact wpQuiet_nil hQ9
  rintro π z3 hz3 hπ hπd
  simp only [List.filterMap_cons, List.filterMap_nil, List.getElem?_cons_zero, List.getElem?_cons_succ, putsA, Option.bind_some, Act.put, List.setIfInBounds_toArray, List.set_cons_zero, List.set_cons_succ]
  show wpList _ _ _ [_] _ _
  clear d0 kd0 d1 kd1 t0 kt0 t1 kt1 t2 kt2 t3 kt3 t4 kt4 t5 kt5 t6 kt6 t7 kt7 g0 kg0 g1 kg1 g2 kg2 g3 kg3 g4 kg4 g5 kg5
  replace Td := Td.keep hz3
  replace Tt := Tt.keep hz3
  replace Tg := Tg.keep hz3
  replace Fg := Fg.keep hz3
  replace hT1 := hT1.keep hz3
  replace hTab1 := hTab1.keep hz3
  replace BB := bstep BB hz3
  refine wpList_put rfl _ _ _ rfl b m l hT1 hm ⟨s, n, _, fr + 12, false, 0⟩ hs64 rfl rfl rfl ?_
  intro w9 hT9 hg9
  have hT9' := hT9
  simp only [wpList]
  go_wp2_with fail
  go_ret
  exact ⟨_, (chal_bd _).1, (chal_bd _).2, rfl, hT9, (grown_of BB _).trans hg9⟩
set_option maxRecDepth 100000 in
set_option maxHeartbeats 4000000 in
theorem asked_new (b m : Nat) (l : List Hf) (fr k s p n c key f y : Int) (w : World) (hT : TabH w b m l) (hs64 : I64 s) (hf : findL l s = .none) (h1 : ¬ l.length = 4) (hf0 : 0 ≤ fr) (hf1 : fr ≤ 999999988) (hTab : Tab w) (hm : m < maxLen) :
    Calls Tryd.prog 32 #[.agg #[.map (some b), .int .i64 fr], (⟨k, s, p, n, c, key, f, y⟩ : Wd).v] w (AskedNew b m l s n fr w) := by
  go_enter Tryd.func32, Tryd.ntmps32
  go_upto_region 1 with (fail)
  have Td := CAt.new (w) [.map (some b), .int .i64 fr] 78
  have BB : Below w.heap.size w ((w).alloc (.cells #[.map (some b), .int .i64 fr] 78)) := ball (Below.refl _ _) _
  have Tt := CAt.new (w.alloc (.cells #[.map (some b), .int .i64 fr] 78)) [.int .i64 k, .int .i64 s, .int .i64 p, .int .i64 n, .int .i64 c, .int .i64 key, .int .i64 f, .int .i64 y] 43
  replace Td := Td.alloc (.cells #[.int .i64 k, .int .i64 s, .int .i64 p, .int .i64 n, .int .i64 c, .int .i64 key, .int .i64 f, .int .i64 y] 43)
  replace BB := ball BB (.cells #[.int .i64 k, .int .i64 s, .int .i64 p, .int .i64 n, .int .i64 c, .int .i64 key, .int .i64 f, .int .i64 y] 43)
  simp only [World.size_alloc, Nat.add_assoc, Nat.reduceAdd] at Tt
  obtain ⟨V1, hV1⟩ : ∃ V1, (w.alloc (.cells #[.map (some b), .int .i64 fr] 78)).alloc (.cells #[.int .i64 k, .int .i64 s, .int .i64 p, .int .i64 n, .int .i64 c, .int .i64 key, .int .i64 f, .int .i64 y] 43) = V1 := ⟨_, rfl⟩
  rw [hV1] at BB Td Tt ⊢
  clear hV1
  have hT1 := hT.keep BB
  have hlk := hT1.look hs64
  rw [hf] at hlk
  simp only [Option.getD_some, Option.getD_none, Option.isSome_some, Option.isSome_none] at hlk
  have HF := Lib.hid hf; clear hf
  have d0 := Td 0 _ rfl
  have d1 := Td 1 _ rfl
  have t0 := Tt 0 _ rfl
  have t1 := Tt 1 _ rfl
  have t2 := Tt 2 _ rfl
  have t3 := Tt 3 _ rfl
  have t4 := Tt 4 _ rfl
  have t5 := Tt 5 _ rfl
  have t6 := Tt 6 _ rfl
  have t7 := Tt 7 _ rfl
  go_upto_region 2 with (fail)
  clear hlk
  clear d0 d1 t0 t1 t2 t3 t4 t5 t6 t7
  have bs2 : w.heap.size ≤ V1.heap.size := BB.size
  have lt2d : w.heap.size < V1.heap.size := World.block_lt_of_cell? V1 ⟨w.heap.size, 0, none⟩ (Td 0 _ rfl)
  have lt2t : w.heap.size + 1 < V1.heap.size := World.block_lt_of_cell? V1 ⟨w.heap.size + 1, 0, none⟩ (Tt 0 _ rfl)
  have Tg := CAt.new (V1) [.int .i64 0, .int .i64 0, .int .i64 0, .int .i64 0, .bool false, .int .i64 0] 70
  have Fg := Fz.new (V1) #[.int .i64 0, .int .i64 0, .int .i64 0, .int .i64 0, .bool false, .int .i64 0] 70
  replace Td := Td.alloc (.cells #[.int .i64 0, .int .i64 0, .int .i64 0, .int .i64 0, .bool false, .int .i64 0] 70)
  replace Tt := Tt.alloc (.cells #[.int .i64 0, .int .i64 0, .int .i64 0, .int .i64 0, .bool false, .int .i64 0] 70)
  replace hT1 := hT1.keep (Below.alloc (Below.refl _ (V1)) (Nat.le_refl _) (.cells #[.int .i64 0, .int .i64 0, .int .i64 0, .int .i64 0, .bool false, .int .i64 0] 70))
  replace BB := ball BB (.cells #[.int .i64 0, .int .i64 0, .int .i64 0, .int .i64 0, .bool false, .int .i64 0] 70)
  obtain ⟨V2, hV2⟩ : ∃ V2, V1.alloc (.cells #[.int .i64 0, .int .i64 0, .int .i64 0, .int .i64 0, .bool false, .int .i64 0] 70) = V2 := ⟨_, rfl⟩
  rw [hV2] at BB Td Tt Tg Fg hT1 ⊢
  clear hV2
  obtain ⟨k2, hk2⟩ : ∃ k2, V1.heap.size = k2 := ⟨_, rfl⟩
  rw [hk2] at Tg Fg bs2 lt2d lt2t ⊢
  clear hk2
  have hln := hT1.len 3
  have hl4 : ¬ ((l.length : Int) = 4) := by omega
  clear h1
  have hwf : IntKind.i64.wrap (fr + 12) = fr + 12 := IntWalk.i64_in _ (by omega)
  have g0 := Tg 0 _ rfl
  have fg0 := Fg.1 0
  have g1 := Tg 1 _ rfl
  have fg1 := Fg.1 1
  have g2 := Tg 2 _ rfl
  have fg2 := Fg.1 2
  have g3 := Tg 3 _ rfl
  have fg3 := Fg.1 3
  have g4 := Tg 4 _ rfl
  have fg4 := Fg.1 4
  have g5 := Tg 5 _ rfl
  have fg5 := Fg.1 5
  have t0 := Tt 0 _ rfl
  have t1 := Tt 1 _ rfl
  have t2 := Tt 2 _ rfl
  have t3 := Tt 3 _ rfl
  have t4 := Tt 4 _ rfl
  have t5 := Tt 5 _ rfl
  have t6 := Tt 6 _ rfl
  have t7 := Tt 7 _ rfl
  have d0 := Td 0 _ rfl
  have d1 := Td 1 _ rfl
  go_upto_region 9 with (fail)
  clear hln hl4
  have hTab1 := hTab.keep BB
  clear hTab
  clear g0 fg0 g1 fg1 g2 fg2 g3 fg3 g4 fg4 g5 fg5 t0 t1 t2 t3 t4 t5 t6 t7 d0 d1
  have bs3 : w.heap.size ≤ V2.heap.size := BB.size
  have lt3d : w.heap.size < V2.heap.size := World.block_lt_of_cell? V2 ⟨w.heap.size, 0, none⟩ (Td 0 _ rfl)
  have lt3t : w.heap.size + 1 < V2.heap.size := World.block_lt_of_cell? V2 ⟨w.heap.size + 1, 0, none⟩ (Tt 0 _ rfl)
  have lt3g : k2 < V2.heap.size := World.block_lt_of_cell? V2 ⟨k2, 0, none⟩ (Tg 0 _ rfl)
  have d0 := Td 0 _ rfl
  have kd0 := cell_regrown d0
  have d1 := Td 1 _ rfl
  have kd1 := cell_regrown d1
  have t0 := Tt 0 _ rfl
  have kt0 := cell_regrown t0
  have t1 := Tt 1 _ rfl
  have kt1 := cell_regrown t1
  have t2 := Tt 2 _ rfl
  have kt2 := cell_regrown t2
  have t3 := Tt 3 _ rfl
  have kt3 := cell_regrown t3
  have t4 := Tt 4 _ rfl
  have kt4 := cell_regrown t4
  have t5 := Tt 5 _ rfl
  have kt5 := cell_regrown t5
  have t6 := Tt 6 _ rfl
  have kt6 := cell_regrown t6
  have t7 := Tt 7 _ rfl
  have kt7 := cell_regrown t7
  have g0 := Tg 0 _ rfl
  have kg0 := cell_regrown g0
  have g1 := Tg 1 _ rfl
  have kg1 := cell_regrown g1
  have g2 := Tg 2 _ rfl
  have kg2 := cell_regrown g2
  have g3 := Tg 3 _ rfl
  have kg3 := cell_regrown g3
  have g4 := Tg 4 _ rfl
  have kg4 := cell_regrown g4
  have g5 := Tg 5 _ rfl
  have kg5 := cell_regrown g5
  refine' wp_region_mixed [0, 1, 2, 3, 4, 5, 6, 7, 8, 9, 10, 11, 12, 13] [] [14] (by kernel_rfl) (by kernel_rfl) _ (fun Z hZ hN => quiet_hole ?hq9) (fun _ => .cells #[] 0) (fun _ p => .pointer (some ⟨p, 0, none⟩)) (fun i hi => by cases hi) ?ht9
  case hq9 =>
    intro Q9 hQ9
    show wpQuiet _ _ _ _ [_, _, _, _, _, _, _, _, _, _, _, _, _, _] _
    repeat (go_big_quiet_step (first
      | (go_at_call 53; exact rgX hZ fun w' h => below_any _ _ w' (wrap_nn _) (hTab1.keep h))))
    exact wpQuiet_nil hQ9
  rintro π z3 hz3 hπ hπd
  simp only [List.filterMap_cons, List.filterMap_nil, List.getElem?_cons_zero, List.getElem?_cons_succ, putsA, Option.bind_some, Act.put, List.setIfInBounds_toArray, List.set_cons_zero, List.set_cons_succ]
  show wpList _ _ _ [_] _ _
  clear d0 kd0 d1 kd1 t0 kt0 t1 kt1 t2 kt2 t3 kt3 t4 kt4 t5 kt5 t6 kt6 t7 kt7 g0 kg0 g1 kg1 g2 kg2 g3 kg3 g4 kg4 g5 kg5
  replace Td := Td.keep hz3
  replace Tt := Tt.keep hz3
  replace Tg := Tg.keep hz3
  replace Fg := Fg.keep hz3
  replace hT1 := hT1.keep hz3
  replace hTab1 := hTab1.keep hz3
  replace BB := bstep BB hz3
  refine wpList_put rfl _ _ _ rfl b m l hT1 hm ⟨s, n, _, fr + 12, false, 0⟩ hs64 rfl rfl rfl ?_
  intro w9 hT9 hg9
  have hT9' := hT9
  simp only [wpList]
  go_wp2_with fail
  go_ret
  exact ⟨_, (chal_bd _).1, (chal_bd _).2, rfl, hT9, (grown_of BB _).trans hg9⟩
set_option maxRecDepth 100000 in
set_option maxHeartbeats 4000000 in
theorem proved_no (b m : Nat) (l : List Hf) (fr k s p n c key f y : Int) (w : World) (hT : TabH w b m l) (hs64 : I64 s) (hf : findL l s = .none) :
    Calls Tryd.prog 33 #[.agg #[.map (some b), .int .i64 fr], (⟨k, s, p, n, c, key, f, y⟩ : Wd).v] w (Turned b m 4 l w) := by
  go_enter Tryd.func33, Tryd.ntmps33
  go_upto_region 1 with (fail)
  have Td := CAt.new (w) [.map (some b), .int .i64 fr] 78
  have BB : Below w.heap.size w ((w).alloc (.cells #[.map (some b), .int .i64 fr] 78)) := ball (Below.refl _ _) _
  have Tt := CAt.new (w.alloc (.cells #[.map (some b), .int .i64 fr] 78)) [.int .i64 k, .int .i64 s, .int .i64 p, .int .i64 n, .int .i64 c, .int .i64 key, .int .i64 f, .int .i64 y] 43
  replace Td := Td.alloc (.cells #[.int .i64 k, .int .i64 s, .int .i64 p, .int .i64 n, .int .i64 c, .int .i64 key, .int .i64 f, .int .i64 y] 43)
  replace BB := ball BB (.cells #[.int .i64 k, .int .i64 s, .int .i64 p, .int .i64 n, .int .i64 c, .int .i64 key, .int .i64 f, .int .i64 y] 43)
  simp only [World.size_alloc, Nat.add_assoc, Nat.reduceAdd] at Tt
  obtain ⟨V1, hV1⟩ : ∃ V1, (w.alloc (.cells #[.map (some b), .int .i64 fr] 78)).alloc (.cells #[.int .i64 k, .int .i64 s, .int .i64 p, .int .i64 n, .int .i64 c, .int .i64 key, .int .i64 f, .int .i64 y] 43) = V1 := ⟨_, rfl⟩
  rw [hV1] at BB Td Tt ⊢
  clear hV1
  have hT1 := hT.keep BB
  have hlk := hT1.look hs64
  rw [hf] at hlk
  simp only [Option.getD_some, Option.getD_none, Option.isSome_some, Option.isSome_none] at hlk
  have HF := Lib.hid hf; clear hf
  have d0 := Td 0 _ rfl
  have d1 := Td 1 _ rfl
  have t0 := Tt 0 _ rfl
  have t1 := Tt 1 _ rfl
  have t2 := Tt 2 _ rfl
  have t3 := Tt 3 _ rfl
  have t4 := Tt 4 _ rfl
  have t5 := Tt 5 _ rfl
  have t6 := Tt 6 _ rfl
  have t7 := Tt 7 _ rfl
  go_upto_region 2 with (fail)
  clear hlk
  clear d0 d1 t0 t1 t2 t3 t4 t5 t6 t7
  have bs2 : w.heap.size ≤ V1.heap.size := BB.size
  have lt2d : w.heap.size < V1.heap.size := World.block_lt_of_cell? V1 ⟨w.heap.size, 0, none⟩ (Td 0 _ rfl)
  have lt2t : w.heap.size + 1 < V1.heap.size := World.block_lt_of_cell? V1 ⟨w.heap.size + 1, 0, none⟩ (Tt 0 _ rfl)
  have Tg := CAt.new (V1) [.int .i64 0, .int .i64 0, .int .i64 0, .int .i64 0, .bool false, .int .i64 0] 70
  have Fg := Fz.new (V1) #[.int .i64 0, .int .i64 0, .int .i64 0, .int .i64 0, .bool false, .int .i64 0] 70
  replace Td := Td.alloc (.cells #[.int .i64 0, .int .i64 0, .int .i64 0, .int .i64 0, .bool false, .int .i64 0] 70)
  replace Tt := Tt.alloc (.cells #[.int .i64 0, .int .i64 0, .int .i64 0, .int .i64 0, .bool false, .int .i64 0] 70)
  replace hT1 := hT1.keep (Below.alloc (Below.refl _ (V1)) (Nat.le_refl _) (.cells #[.int .i64 0, .int .i64 0, .int .i64 0, .int .i64 0, .bool false, .int .i64 0] 70))
  replace BB := ball BB (.cells #[.int .i64 0, .int .i64 0, .int .i64 0, .int .i64 0, .bool false, .int .i64 0] 70)
  obtain ⟨V2, hV2⟩ : ∃ V2, V1.alloc (.cells #[.int .i64 0, .int .i64 0, .int .i64 0, .int .i64 0, .bool false, .int .i64 0] 70) = V2 := ⟨_, rfl⟩
  rw [hV2] at BB Td Tt Tg Fg hT1 ⊢
  clear hV2
  obtain ⟨k2, hk2⟩ : ∃ k2, V1.heap.size = k2 := ⟨_, rfl⟩
  rw [hk2] at Tg Fg bs2 lt2d lt2t ⊢
  clear hk2
  have g0 := Tg 0 _ rfl
  have fg0 := Fg.1 0
  have g1 := Tg 1 _ rfl
  have fg1 := Fg.1 1
  have g2 := Tg 2 _ rfl
  have fg2 := Fg.1 2
  have g3 := Tg 3 _ rfl
  have fg3 := Fg.1 3
  have g4 := Tg 4 _ rfl
  have fg4 := Fg.1 4
  have g5 := Tg 5 _ rfl
  have fg5 := Fg.1 5
  have t0 := Tt 0 _ rfl
  have t1 := Tt 1 _ rfl
  have t2 := Tt 2 _ rfl
  have t3 := Tt 3 _ rfl
  have t4 := Tt 4 _ rfl
  have t5 := Tt 5 _ rfl
  have t6 := Tt 6 _ rfl
  have t7 := Tt 7 _ rfl
  have d0 := Td 0 _ rfl
  have d1 := Td 1 _ rfl
  go_wp2_with fail
  go_ret
  exact ⟨rfl, (hT.keep BB).mono (Nat.le_succ _), grown_of BB _⟩
set_option maxRecDepth 100000 in
set_option maxHeartbeats 4000000 in
theorem proved_n (b m : Nat) (l : List Hf) (fr k s p n c key f y hs hn hc hu hk : Int) (hp : Bool) (w : World) (hT : TabH w b m l) (hs64 : I64 s) (hf : findL l s = some ⟨hs, hn, hc, hu, hp, hk⟩) (h1 : ¬ hn = n) :
    Calls Tryd.prog 33 #[.agg #[.map (some b), .int .i64 fr], (⟨k, s, p, n, c, key, f, y⟩ : Wd).v] w (Turned b m 4 l w) := by
  go_enter Tryd.func33, Tryd.ntmps33
  go_upto_region 1 with (fail)
  have Td := CAt.new (w) [.map (some b), .int .i64 fr] 78
  have BB : Below w.heap.size w ((w).alloc (.cells #[.map (some b), .int .i64 fr] 78)) := ball (Below.refl _ _) _
  have Tt := CAt.new (w.alloc (.cells #[.map (some b), .int .i64 fr] 78)) [.int .i64 k, .int .i64 s, .int .i64 p, .int .i64 n, .int .i64 c, .int .i64 key, .int .i64 f, .int .i64 y] 43
  replace Td := Td.alloc (.cells #[.int .i64 k, .int .i64 s, .int .i64 p, .int .i64 n, .int .i64 c, .int .i64 key, .int .i64 f, .int .i64 y] 43)
  replace BB := ball BB (.cells #[.int .i64 k, .int .i64 s, .int .i64 p, .int .i64 n, .int .i64 c, .int .i64 key, .int .i64 f, .int .i64 y] 43)
  simp only [World.size_alloc, Nat.add_assoc, Nat.reduceAdd] at Tt
  obtain ⟨V1, hV1⟩ : ∃ V1, (w.alloc (.cells #[.map (some b), .int .i64 fr] 78)).alloc (.cells #[.int .i64 k, .int .i64 s, .int .i64 p, .int .i64 n, .int .i64 c, .int .i64 key, .int .i64 f, .int .i64 y] 43) = V1 := ⟨_, rfl⟩
  rw [hV1] at BB Td Tt ⊢
  clear hV1
  have hT1 := hT.keep BB
  have hlk := hT1.look hs64
  rw [hf] at hlk
  simp only [Option.getD_some, Option.getD_none, Option.isSome_some, Option.isSome_none] at hlk
  have HF := Lib.hid hf; clear hf
  have d0 := Td 0 _ rfl
  have d1 := Td 1 _ rfl
  have t0 := Tt 0 _ rfl
  have t1 := Tt 1 _ rfl
  have t2 := Tt 2 _ rfl
  have t3 := Tt 3 _ rfl
  have t4 := Tt 4 _ rfl
  have t5 := Tt 5 _ rfl
  have t6 := Tt 6 _ rfl
  have t7 := Tt 7 _ rfl
  go_upto_region 2 with (fail)
  clear hlk
  clear d0 d1 t0 t1 t2 t3 t4 t5 t6 t7
  have bs2 : w.heap.size ≤ V1.heap.size := BB.size
  have lt2d : w.heap.size < V1.heap.size := World.block_lt_of_cell? V1 ⟨w.heap.size, 0, none⟩ (Td 0 _ rfl)
  have lt2t : w.heap.size + 1 < V1.heap.size := World.block_lt_of_cell? V1 ⟨w.heap.size + 1, 0, none⟩ (Tt 0 _ rfl)
  have Tg := CAt.new (V1) [.int .i64 hs, .int .i64 hn, .int .i64 hc, .int .i64 hu, .bool hp, .int .i64 hk] 70
  have Fg := Fz.new (V1) #[.int .i64 hs, .int .i64 hn, .int .i64 hc, .int .i64 hu, .bool hp, .int .i64 hk] 70
  replace Td := Td.alloc (.cells #[.int .i64 hs, .int .i64 hn, .int .i64 hc, .int .i64 hu, .bool hp, .int .i64 hk] 70)
  replace Tt := Tt.alloc (.cells #[.int .i64 hs, .int .i64 hn, .int .i64 hc, .int .i64 hu, .bool hp, .int .i64 hk] 70)
  replace hT1 := hT1.keep (Below.alloc (Below.refl _ (V1)) (Nat.le_refl _) (.cells #[.int .i64 hs, .int .i64 hn, .int .i64 hc, .int .i64 hu, .bool hp, .int .i64 hk] 70))
  replace BB := ball BB (.cells #[.int .i64 hs, .int .i64 hn, .int .i64 hc, .int .i64 hu, .bool hp, .int .i64 hk] 70)
  obtain ⟨V2, hV2⟩ : ∃ V2, V1.alloc (.cells #[.int .i64 hs, .int .i64 hn, .int .i64 hc, .int .i64 hu, .bool hp, .int .i64 hk] 70) = V2 := ⟨_, rfl⟩
  rw [hV2] at BB Td Tt Tg Fg hT1 ⊢
  clear hV2
  obtain ⟨k2, hk2⟩ : ∃ k2, V1.heap.size = k2 := ⟨_, rfl⟩
  rw [hk2] at Tg Fg bs2 lt2d lt2t ⊢
  clear hk2
  have g0 := Tg 0 _ rfl
  have fg0 := Fg.1 0
  have g1 := Tg 1 _ rfl
  have fg1 := Fg.1 1
  have g2 := Tg 2 _ rfl
  have fg2 := Fg.1 2
  have g3 := Tg 3 _ rfl
  have fg3 := Fg.1 3
  have g4 := Tg 4 _ rfl
  have fg4 := Fg.1 4
  have g5 := Tg 5 _ rfl
  have fg5 := Fg.1 5
  have t0 := Tt 0 _ rfl
  have t1 := Tt 1 _ rfl
  have t2 := Tt 2 _ rfl
  have t3 := Tt 3 _ rfl
  have t4 := Tt 4 _ rfl
  have t5 := Tt 5 _ rfl
  have t6 := Tt 6 _ rfl
  have t7 := Tt 7 _ rfl
  have d0 := Td 0 _ rfl
  have d1 := Td 1 _ rfl
  go_wp2_with fail
  go_ret
  exact ⟨rfl, (hT.keep BB).mono (Nat.le_succ _), grown_of BB _⟩
set_option maxRecDepth 100000 in
set_option maxHeartbeats 4000000 in
theorem proved_c (b m : Nat) (l : List Hf) (fr k s p n c key f y hs hn hc hu hk : Int) (hp : Bool) (w : World) (hT : TabH w b m l) (hs64 : I64 s) (hf : findL l s = some ⟨hs, hn, hc, hu, hp, hk⟩) (h1 : n = hn) (h2 : ¬ hc = c) :
    Calls Tryd.prog 33 #[.agg #[.map (some b), .int .i64 fr], (⟨k, s, p, n, c, key, f, y⟩ : Wd).v] w (Turned b m 4 l w) := by
  subst h1
  go_enter Tryd.func33, Tryd.ntmps33
  go_upto_region 1 with (fail)
  have Td := CAt.new (w) [.map (some b), .int .i64 fr] 78
  have BB : Below w.heap.size w ((w).alloc (.cells #[.map (some b), .int .i64 fr] 78)) := ball (Below.refl _ _) _
  have Tt := CAt.new (w.alloc (.cells #[.map (some b), .int .i64 fr] 78)) [.int .i64 k, .int .i64 s, .int .i64 p, .int .i64 n, .int .i64 c, .int .i64 key, .int .i64 f, .int .i64 y] 43
  replace Td := Td.alloc (.cells #[.int .i64 k, .int .i64 s, .int .i64 p, .int .i64 n, .int .i64 c, .int .i64 key, .int .i64 f, .int .i64 y] 43)
  replace BB := ball BB (.cells #[.int .i64 k, .int .i64 s, .int .i64 p, .int .i64 n, .int .i64 c, .int .i64 key, .int .i64 f, .int .i64 y] 43)
  simp only [World.size_alloc, Nat.add_assoc, Nat.reduceAdd] at Tt
  obtain ⟨V1, hV1⟩ : ∃ V1, (w.alloc (.cells #[.map (some b), .int .i64 fr] 78)).alloc (.cells #[.int .i64 k, .int .i64 s, .int .i64 p, .int .i64 n, .int .i64 c, .int .i64 key, .int .i64 f, .int .i64 y] 43) = V1 := ⟨_, rfl⟩
  rw [hV1] at BB Td Tt ⊢
  clear hV1
  have hT1 := hT.keep BB
  have hlk := hT1.look hs64
  rw [hf] at hlk
  simp only [Option.getD_some, Option.getD_none, Option.isSome_some, Option.isSome_none] at hlk
  have HF := Lib.hid hf; clear hf
  have d0 := Td 0 _ rfl
  have d1 := Td 1 _ rfl
  have t0 := Tt 0 _ rfl
  have t1 := Tt 1 _ rfl
  have t2 := Tt 2 _ rfl
  have t3 := Tt 3 _ rfl
  have t4 := Tt 4 _ rfl
  have t5 := Tt 5 _ rfl
  have t6 := Tt 6 _ rfl
  have t7 := Tt 7 _ rfl
  go_upto_region 2 with (fail)
  clear hlk
  clear d0 d1 t0 t1 t2 t3 t4 t5 t6 t7
  have bs2 : w.heap.size ≤ V1.heap.size := BB.size
  have lt2d : w.heap.size < V1.heap.size := World.block_lt_of_cell? V1 ⟨w.heap.size, 0, none⟩ (Td 0 _ rfl)
  have lt2t : w.heap.size + 1 < V1.heap.size := World.block_lt_of_cell? V1 ⟨w.heap.size + 1, 0, none⟩ (Tt 0 _ rfl)
  have Tg := CAt.new (V1) [.int .i64 hs, .int .i64 n, .int .i64 hc, .int .i64 hu, .bool hp, .int .i64 hk] 70
  have Fg := Fz.new (V1) #[.int .i64 hs, .int .i64 n, .int .i64 hc, .int .i64 hu, .bool hp, .int .i64 hk] 70
  replace Td := Td.alloc (.cells #[.int .i64 hs, .int .i64 n, .int .i64 hc, .int .i64 hu, .bool hp, .int .i64 hk] 70)
  replace Tt := Tt.alloc (.cells #[.int .i64 hs, .int .i64 n, .int .i64 hc, .int .i64 hu, .bool hp, .int .i64 hk] 70)
  replace hT1 := hT1.keep (Below.alloc (Below.refl _ (V1)) (Nat.le_refl _) (.cells #[.int .i64 hs, .int .i64 n, .int .i64 hc, .int .i64 hu, .bool hp, .int .i64 hk] 70))
  replace BB := ball BB (.cells #[.int .i64 hs, .int .i64 n, .int .i64 hc, .int .i64 hu, .bool hp, .int .i64 hk] 70)
  obtain ⟨V2, hV2⟩ : ∃ V2, V1.alloc (.cells #[.int .i64 hs, .int .i64 n, .int .i64 hc, .int .i64 hu, .bool hp, .int .i64 hk] 70) = V2 := ⟨_, rfl⟩
  rw [hV2] at BB Td Tt Tg Fg hT1 ⊢
  clear hV2
  obtain ⟨k2, hk2⟩ : ∃ k2, V1.heap.size = k2 := ⟨_, rfl⟩
  rw [hk2] at Tg Fg bs2 lt2d lt2t ⊢
  clear hk2
  have g0 := Tg 0 _ rfl
  have fg0 := Fg.1 0
  have g1 := Tg 1 _ rfl
  have fg1 := Fg.1 1
  have g2 := Tg 2 _ rfl
  have fg2 := Fg.1 2
  have g3 := Tg 3 _ rfl
  have fg3 := Fg.1 3
  have g4 := Tg 4 _ rfl
  have fg4 := Fg.1 4
  have g5 := Tg 5 _ rfl
  have fg5 := Fg.1 5
  have t0 := Tt 0 _ rfl
  have t1 := Tt 1 _ rfl
  have t2 := Tt 2 _ rfl
  have t3 := Tt 3 _ rfl
  have t4 := Tt 4 _ rfl
  have t5 := Tt 5 _ rfl
  have t6 := Tt 6 _ rfl
  have t7 := Tt 7 _ rfl
  have d0 := Td 0 _ rfl
  have d1 := Td 1 _ rfl
  go_wp2_with fail
  go_ret
  exact ⟨rfl, (hT.keep BB).mono (Nat.le_succ _), grown_of BB _⟩
set_option maxRecDepth 100000 in
set_option maxHeartbeats 4000000 in
theorem proved_yes (b m : Nat) (l : List Hf) (fr k s p n c key f y hs hn hc hu hk : Int) (hp : Bool) (w : World) (hT : TabH w b m l) (hs64 : I64 s) (hf : findL l s = some ⟨hs, hn, hc, hu, hp, hk⟩) (h1 : n = hn) (h2 : c = hc) (h3 : s = hs) (hm : m < maxLen) :
    Calls Tryd.prog 33 #[.agg #[.map (some b), .int .i64 fr], (⟨k, s, p, n, c, key, f, y⟩ : Wd).v] w (Turned b m 0 (putL l ⟨s, n, c, hu, true, key⟩) w) := by
  subst h1 h2 h3
  go_enter Tryd.func33, Tryd.ntmps33
  go_upto_region 1 with (fail)
  have Td := CAt.new (w) [.map (some b), .int .i64 fr] 78
  have BB : Below w.heap.size w ((w).alloc (.cells #[.map (some b), .int .i64 fr] 78)) := ball (Below.refl _ _) _
  have Tt := CAt.new (w.alloc (.cells #[.map (some b), .int .i64 fr] 78)) [.int .i64 k, .int .i64 s, .int .i64 p, .int .i64 n, .int .i64 c, .int .i64 key, .int .i64 f, .int .i64 y] 43
  replace Td := Td.alloc (.cells #[.int .i64 k, .int .i64 s, .int .i64 p, .int .i64 n, .int .i64 c, .int .i64 key, .int .i64 f, .int .i64 y] 43)
  replace BB := ball BB (.cells #[.int .i64 k, .int .i64 s, .int .i64 p, .int .i64 n, .int .i64 c, .int .i64 key, .int .i64 f, .int .i64 y] 43)
  simp only [World.size_alloc, Nat.add_assoc, Nat.reduceAdd] at Tt
  obtain ⟨V1, hV1⟩ : ∃ V1, (w.alloc (.cells #[.map (some b), .int .i64 fr] 78)).alloc (.cells #[.int .i64 k, .int .i64 s, .int .i64 p, .int .i64 n, .int .i64 c, .int .i64 key, .int .i64 f, .int .i64 y] 43) = V1 := ⟨_, rfl⟩
  rw [hV1] at BB Td Tt ⊢
  clear hV1
  have hT1 := hT.keep BB
  have hlk := hT1.look hs64
  rw [hf] at hlk
  simp only [Option.getD_some, Option.getD_none, Option.isSome_some, Option.isSome_none] at hlk
  have HF := Lib.hid hf; clear hf
  have d0 := Td 0 _ rfl
  have d1 := Td 1 _ rfl
  have t0 := Tt 0 _ rfl
  have t1 := Tt 1 _ rfl
  have t2 := Tt 2 _ rfl
  have t3 := Tt 3 _ rfl
  have t4 := Tt 4 _ rfl
  have t5 := Tt 5 _ rfl
  have t6 := Tt 6 _ rfl
  have t7 := Tt 7 _ rfl
  go_upto_region 2 with (fail)
  clear hlk
  clear d0 d1 t0 t1 t2 t3 t4 t5 t6 t7
  have bs2 : w.heap.size ≤ V1.heap.size := BB.size
  have lt2d : w.heap.size < V1.heap.size := World.block_lt_of_cell? V1 ⟨w.heap.size, 0, none⟩ (Td 0 _ rfl)
  have lt2t : w.heap.size + 1 < V1.heap.size := World.block_lt_of_cell? V1 ⟨w.heap.size + 1, 0, none⟩ (Tt 0 _ rfl)
  have Tg := CAt.new (V1) [.int .i64 s, .int .i64 n, .int .i64 c, .int .i64 hu, .bool hp, .int .i64 hk] 70
  have Fg := Fz.new (V1) #[.int .i64 s, .int .i64 n, .int .i64 c, .int .i64 hu, .bool hp, .int .i64 hk] 70
  replace Td := Td.alloc (.cells #[.int .i64 s, .int .i64 n, .int .i64 c, .int .i64 hu, .bool hp, .int .i64 hk] 70)
  replace Tt := Tt.alloc (.cells #[.int .i64 s, .int .i64 n, .int .i64 c, .int .i64 hu, .bool hp, .int .i64 hk] 70)
  replace hT1 := hT1.keep (Below.alloc (Below.refl _ (V1)) (Nat.le_refl _) (.cells #[.int .i64 s, .int .i64 n, .int .i64 c, .int .i64 hu, .bool hp, .int .i64 hk] 70))
  replace BB := ball BB (.cells #[.int .i64 s, .int .i64 n, .int .i64 c, .int .i64 hu, .bool hp, .int .i64 hk] 70)
  obtain ⟨V2, hV2⟩ : ∃ V2, V1.alloc (.cells #[.int .i64 s, .int .i64 n, .int .i64 c, .int .i64 hu, .bool hp, .int .i64 hk] 70) = V2 := ⟨_, rfl⟩
  rw [hV2] at BB Td Tt Tg Fg hT1 ⊢
  clear hV2
  obtain ⟨k2, hk2⟩ : ∃ k2, V1.heap.size = k2 := ⟨_, rfl⟩
  rw [hk2] at Tg Fg bs2 lt2d lt2t ⊢
  clear hk2
  have g0 := Tg 0 _ rfl
  have fg0 := Fg.1 0
  have g1 := Tg 1 _ rfl
  have fg1 := Fg.1 1
  have g2 := Tg 2 _ rfl
  have fg2 := Fg.1 2
  have g3 := Tg 3 _ rfl
  have fg3 := Fg.1 3
  have g4 := Tg 4 _ rfl
  have fg4 := Fg.1 4
  have g5 := Tg 5 _ rfl
  have fg5 := Fg.1 5
  have t0 := Tt 0 _ rfl
  have t1 := Tt 1 _ rfl
  have t2 := Tt 2 _ rfl
  have t3 := Tt 3 _ rfl
  have t4 := Tt 4 _ rfl
  have t5 := Tt 5 _ rfl
  have t6 := Tt 6 _ rfl
  have t7 := Tt 7 _ rfl
  have d0 := Td 0 _ rfl
  have d1 := Td 1 _ rfl
  go_upto_region 4 with (fail)
  go_region
  have hbk : b < k2 := Nat.lt_of_lt_of_le hT.lt bs2
  have hT2 := (hT1.other (k := k2) (by omega) 4 (.bool true)).other (k := k2) (by omega) 5 (.int .i64 key)
  clear g0 fg0 g1 fg1 g2 fg2 g3 fg3 g4 fg4 g5 fg5 t0 t1 t2 t3 t4 t5 t6 t7 d0 d1
  replace Tg := Tg.set 4 (.bool true) (by simp)
  replace Td := Td.other (k' := k2) (by omega) 4 (.bool true)
  replace Tt := Tt.other (k' := k2) (by omega) 4 (.bool true)
  replace Fg := Fg.set ⟨k2, 4, none⟩ (.bool true)
  replace BB := BB.setCell (p := ⟨k2, 4, none⟩) (by first | exact Nat.le_refl _ | (simp only; omega)) (.bool true)
  replace Tg := Tg.set 5 (.int .i64 key) (by simp)
  replace Td := Td.other (k' := k2) (by omega) 5 (.int .i64 key)
  replace Tt := Tt.other (k' := k2) (by omega) 5 (.int .i64 key)
  replace Fg := Fg.set ⟨k2, 5, none⟩ (.int .i64 key)
  replace BB := BB.setCell (p := ⟨k2, 5, none⟩) (by first | exact Nat.le_refl _ | (simp only; omega)) (.int .i64 key)
  obtain ⟨V3, hV3⟩ : ∃ V3, (V2.setCell ⟨k2, 4, none⟩ (.bool true)).setCell ⟨k2, 5, none⟩ (.int .i64 key) = V3 := ⟨_, rfl⟩
  rw [hV3] at BB Td Tt Tg Fg hT2 ⊢
  clear hV3
  replace Td := Td.drew
  replace Tt := Tt.drew
  replace Tg := Tg.drew
  replace Fg := Fg.drew
  replace BB : Below w.heap.size w V3.drew := ⟨BB.os, BB.tape, BB.output, BB.size, BB.block⟩
  replace hT2 := hT2.drew
  obtain ⟨V4, hV4⟩ : ∃ V4, V3.drew = V4 := ⟨_, rfl⟩
  rw [hV4] at BB Td Tt Tg Fg hT2 ⊢
  clear hV4
  obtain ⟨w9, hrun, hT9, hg9⟩ := hT2.put hm ⟨s, n, c, hu, true, key⟩ hs64
  have g0 := Tg 0 _ rfl
  have fg0 := Fg.1 0
  have g1 := Tg 1 _ rfl
  have fg1 := Fg.1 1
  have g2 := Tg 2 _ rfl
  have fg2 := Fg.1 2
  have g3 := Tg 3 _ rfl
  have fg3 := Fg.1 3
  have g4 := Tg 4 _ rfl
  have fg4 := Fg.1 4
  have g5 := Tg 5 _ rfl
  have fg5 := Fg.1 5
  have t0 := Tt 0 _ rfl
  have t1 := Tt 1 _ rfl
  have t2 := Tt 2 _ rfl
  have t3 := Tt 3 _ rfl
  have t4 := Tt 4 _ rfl
  have t5 := Tt 5 _ rfl
  have t6 := Tt 6 _ rfl
  have t7 := Tt 7 _ rfl
  have d0 := Td 0 _ rfl
  have d1 := Td 1 _ rfl
  go_wp2_with fail
  go_ret
  exact ⟨rfl, hT9, (grown_of BB _).trans hg9⟩
end Go.Proofs.YtgmabjlehjpboaaDoor
