/- Proved: what a stranger does with a word that it hears. Conditions: those that each theorem names. -/
import Derived.Test.YtgmabjlehjpboaaDoorT12
namespace Go.Proofs.YtgmabjlehjpboaaDoor
open Go.RowKit Go.Sort Go.BigFrame Go.Proofs.YtgmabjlehjpboaaDoor.K
set_option linter.unusedVariables false
set_option linter.unusedSimpArgs false
attribute [local go_sem] cell_alloc_old

theorem ne_wd (k s p n c key f y k' s' p' n' c' key' f' y' : Int) (z : Bool) (hz : decide (k = k' ∧ s = s' ∧ p = p' ∧ n = n' ∧ c = c' ∧ key = key' ∧ f = f' ∧ y = y') = z) (w : World) :
    (Go.binOp .neq 43 (⟨k, s, p, n, c, key, f, y⟩ : Wd).v (⟨k', s', p', n', c', key', f', y'⟩ : Wd).v).run Tryd.prog w = .ok (.bool (!z)) w := by
  rw [← hz]
  by_cases h0 : k = k'
  · by_cases h1 : s = s'
    · by_cases h2 : p = p'
      · by_cases h3 : n = n'
        · by_cases h4 : c = c'
          · by_cases h5 : key = key'
            · by_cases h6 : f = f'
              · by_cases h7 : y = y'
                · go_simp
                · go_simp
              · go_simp
            · go_simp
          · go_simp
        · go_simp
      · go_simp
    · go_simp
  · go_simp
theorem wd_same (k s p n c key f y : Int) (w : World) : (Go.binOp .neq 43 (⟨k, s, p, n, c, key, f, y⟩ : Wd).v (⟨k, s, p, n, c, key, f, y⟩ : Wd).v).run Tryd.prog w = .ok (.bool false) w := ne_wd k s p n c key f y k s p n c key f y true (by simp) w
theorem wd_other (k s p n c key f y s' p' n' : Int) (h : ¬ (s = s' ∧ p = p' ∧ n = n')) (w : World) : (Go.binOp .neq 43 (⟨k, s, p, n, c, key, f, y⟩ : Wd).v (⟨k, s', p', n', c, key, f, y⟩ : Wd).v).run Tryd.prog w = .ok (.bool true) w :=
  ne_wd k s p n c key f y k s' p' n' c key f y false (by simp; intro a b; exact fun e => h ⟨a, b, e⟩) w
set_option maxRecDepth 100000 in
set_option maxHeartbeats 4000000 in
theorem jhear_no (ph sp jn si tr me k s p n c key f y fr : Int) (w : World) (ok : Jn.ok ⟨ph, sp, jn, si, tr⟩) (ht : triesB tr = true) (hm : nodeB me = true) (hf : formedB ⟨k, s, p, n, c, key, f, y⟩ = true) (h0 : ¬ fr < 0) (h1 : ¬ 1000000000 < fr) (hx : ¬ (s = me ∧ p = sp ∧ n = jn)) :
    Calls Tryd.prog 23 #[(⟨ph, sp, jn, si, tr⟩ : Jn).v, .int .i64 me, (⟨k, s, p, n, c, key, f, y⟩ : Wd).v, .int .i64 fr] w (Ans (.tuple #[(⟨ph, sp, jn, si, tr⟩ : Jn).v, (zWd : Wd).v, .bool false]) w) := by
  have OK := Lib.hid ok; clear ok
  have HT := Lib.hid ht; clear ht
  have HM := Lib.hid hm; clear hm
  have HF := Lib.hid hf; clear hf
  have hne := wd_other k s p n c key f y me sp jn hx
  clear hx
  go_enter Tryd.func23, Tryd.ntmps23
  go_upto_region 1 with (fail)
  have Tj := CAt.new (w) [.int .i64 ph, .int .i64 sp, .int .i64 jn, .int .i64 si, .int .i64 tr] 28
  have BB : Below w.heap.size w ((w).alloc (.cells #[.int .i64 ph, .int .i64 sp, .int .i64 jn, .int .i64 si, .int .i64 tr] 28)) := ball (Below.refl _ _) _
  have Tt := CAt.new (w.alloc (.cells #[.int .i64 ph, .int .i64 sp, .int .i64 jn, .int .i64 si, .int .i64 tr] 28)) [.int .i64 k, .int .i64 s, .int .i64 p, .int .i64 n, .int .i64 c, .int .i64 key, .int .i64 f, .int .i64 y] 43
  replace Tj := Tj.alloc (.cells #[.int .i64 k, .int .i64 s, .int .i64 p, .int .i64 n, .int .i64 c, .int .i64 key, .int .i64 f, .int .i64 y] 43)
  replace BB := ball BB (.cells #[.int .i64 k, .int .i64 s, .int .i64 p, .int .i64 n, .int .i64 c, .int .i64 key, .int .i64 f, .int .i64 y] 43)
  have To := CAt.new ((w.alloc (.cells #[.int .i64 ph, .int .i64 sp, .int .i64 jn, .int .i64 si, .int .i64 tr] 28)).alloc (.cells #[.int .i64 k, .int .i64 s, .int .i64 p, .int .i64 n, .int .i64 c, .int .i64 key, .int .i64 f, .int .i64 y] 43)) [.int .i64 0, .int .i64 0, .int .i64 0, .int .i64 0, .int .i64 0] 28
  have Fo := Fz.new ((w.alloc (.cells #[.int .i64 ph, .int .i64 sp, .int .i64 jn, .int .i64 si, .int .i64 tr] 28)).alloc (.cells #[.int .i64 k, .int .i64 s, .int .i64 p, .int .i64 n, .int .i64 c, .int .i64 key, .int .i64 f, .int .i64 y] 43)) #[.int .i64 0, .int .i64 0, .int .i64 0, .int .i64 0, .int .i64 0] 28
  replace Tj := Tj.alloc (.cells #[.int .i64 0, .int .i64 0, .int .i64 0, .int .i64 0, .int .i64 0] 28)
  replace Tt := Tt.alloc (.cells #[.int .i64 0, .int .i64 0, .int .i64 0, .int .i64 0, .int .i64 0] 28)
  replace BB := ball BB (.cells #[.int .i64 0, .int .i64 0, .int .i64 0, .int .i64 0, .int .i64 0] 28)
  have Tq := CAt.new (((w.alloc (.cells #[.int .i64 ph, .int .i64 sp, .int .i64 jn, .int .i64 si, .int .i64 tr] 28)).alloc (.cells #[.int .i64 k, .int .i64 s, .int .i64 p, .int .i64 n, .int .i64 c, .int .i64 key, .int .i64 f, .int .i64 y] 43)).alloc (.cells #[.int .i64 0, .int .i64 0, .int .i64 0, .int .i64 0, .int .i64 0] 28)) [.int .i64 0, .int .i64 0, .int .i64 0, .int .i64 0, .int .i64 0, .int .i64 0, .int .i64 0, .int .i64 0] 43
  have Fq := Fz.new (((w.alloc (.cells #[.int .i64 ph, .int .i64 sp, .int .i64 jn, .int .i64 si, .int .i64 tr] 28)).alloc (.cells #[.int .i64 k, .int .i64 s, .int .i64 p, .int .i64 n, .int .i64 c, .int .i64 key, .int .i64 f, .int .i64 y] 43)).alloc (.cells #[.int .i64 0, .int .i64 0, .int .i64 0, .int .i64 0, .int .i64 0] 28)) #[.int .i64 0, .int .i64 0, .int .i64 0, .int .i64 0, .int .i64 0, .int .i64 0, .int .i64 0, .int .i64 0] 43
  replace Tj := Tj.alloc (.cells #[.int .i64 0, .int .i64 0, .int .i64 0, .int .i64 0, .int .i64 0, .int .i64 0, .int .i64 0, .int .i64 0] 43)
  replace Tt := Tt.alloc (.cells #[.int .i64 0, .int .i64 0, .int .i64 0, .int .i64 0, .int .i64 0, .int .i64 0, .int .i64 0, .int .i64 0] 43)
  replace To := To.alloc (.cells #[.int .i64 0, .int .i64 0, .int .i64 0, .int .i64 0, .int .i64 0, .int .i64 0, .int .i64 0, .int .i64 0] 43)
  replace Fo := Fo.alloc (.cells #[.int .i64 0, .int .i64 0, .int .i64 0, .int .i64 0, .int .i64 0, .int .i64 0, .int .i64 0, .int .i64 0] 43)
  replace BB := ball BB (.cells #[.int .i64 0, .int .i64 0, .int .i64 0, .int .i64 0, .int .i64 0, .int .i64 0, .int .i64 0, .int .i64 0] 43)
  simp only [World.size_alloc, Nat.add_assoc, Nat.reduceAdd] at Tt To Fo Tq Fq
  obtain ⟨V1, hV1⟩ : ∃ V1, (((w.alloc (.cells #[.int .i64 ph, .int .i64 sp, .int .i64 jn, .int .i64 si, .int .i64 tr] 28)).alloc (.cells #[.int .i64 k, .int .i64 s, .int .i64 p, .int .i64 n, .int .i64 c, .int .i64 key, .int .i64 f, .int .i64 y] 43)).alloc (.cells #[.int .i64 0, .int .i64 0, .int .i64 0, .int .i64 0, .int .i64 0] 28)).alloc (.cells #[.int .i64 0, .int .i64 0, .int .i64 0, .int .i64 0, .int .i64 0, .int .i64 0, .int .i64 0, .int .i64 0] 43) = V1 := ⟨_, rfl⟩
  rw [hV1] at BB Tj Tt To Tq Fo Fq ⊢
  clear hV1
  have X1 : Fr V1 V1 := Below.refl _ _
  have j0 := Tj 0 _ rfl
  have j1 := Tj 1 _ rfl
  have j2 := Tj 2 _ rfl
  have j3 := Tj 3 _ rfl
  have j4 := Tj 4 _ rfl
  go_upto_region 2 with (fail)
  have Tt9 := Tt; have To9 := To; have Fo9 := Fo; have Tq9 := Tq; have Fq9 := Fq; have BB9 := BB
  clear j0 j1 j2 j3 j4
  have bs2 : w.heap.size ≤ V1.heap.size := BB.size
  have lt2j : w.heap.size < V1.heap.size := World.block_lt_of_cell? V1 ⟨w.heap.size, 0, none⟩ (Tj 0 _ rfl)
  have lt2t : w.heap.size + 1 < V1.heap.size := World.block_lt_of_cell? V1 ⟨w.heap.size + 1, 0, none⟩ (Tt 0 _ rfl)
  have lt2o : w.heap.size + 2 < V1.heap.size := World.block_lt_of_cell? V1 ⟨w.heap.size + 2, 0, none⟩ (To 0 _ rfl)
  have lt2q : w.heap.size + 3 < V1.heap.size := World.block_lt_of_cell? V1 ⟨w.heap.size + 3, 0, none⟩ (Tq 0 _ rfl)
  have Ta := CAt.new (V1) [.int .i64 ph, .int .i64 sp, .int .i64 jn, .int .i64 si, .int .i64 tr] 97
  have Fa := Fz.new (V1) #[.int .i64 ph, .int .i64 sp, .int .i64 jn, .int .i64 si, .int .i64 tr] 97
  replace Tj := Tj.alloc (.cells #[.int .i64 ph, .int .i64 sp, .int .i64 jn, .int .i64 si, .int .i64 tr] 97)
  replace Tt := Tt.alloc (.cells #[.int .i64 ph, .int .i64 sp, .int .i64 jn, .int .i64 si, .int .i64 tr] 97)
  replace To := To.alloc (.cells #[.int .i64 ph, .int .i64 sp, .int .i64 jn, .int .i64 si, .int .i64 tr] 97)
  replace Tq := Tq.alloc (.cells #[.int .i64 ph, .int .i64 sp, .int .i64 jn, .int .i64 si, .int .i64 tr] 97)
  replace Fo := Fo.alloc (.cells #[.int .i64 ph, .int .i64 sp, .int .i64 jn, .int .i64 si, .int .i64 tr] 97)
  replace Fq := Fq.alloc (.cells #[.int .i64 ph, .int .i64 sp, .int .i64 jn, .int .i64 si, .int .i64 tr] 97)
  replace X1 := X1.keep (Below.alloc (Below.refl _ (V1)) (Nat.le_refl _) (.cells #[.int .i64 ph, .int .i64 sp, .int .i64 jn, .int .i64 si, .int .i64 tr] 97))
  replace BB := ball BB (.cells #[.int .i64 ph, .int .i64 sp, .int .i64 jn, .int .i64 si, .int .i64 tr] 97)
  obtain ⟨V2, hV2⟩ : ∃ V2, V1.alloc (.cells #[.int .i64 ph, .int .i64 sp, .int .i64 jn, .int .i64 si, .int .i64 tr] 97) = V2 := ⟨_, rfl⟩
  rw [hV2] at BB Tj Tt To Tq Ta Fo Fq Fa X1 ⊢
  clear hV2
  obtain ⟨k2, hk2⟩ : ∃ k2, V1.heap.size = k2 := ⟨_, rfl⟩
  rw [hk2] at Ta Fa bs2 lt2j lt2t lt2o lt2q ⊢
  have HK2 := Lib.hid hk2; clear hk2
  have t0 := Tt 0 _ rfl
  have t1 := Tt 1 _ rfl
  have t2 := Tt 2 _ rfl
  have t3 := Tt 3 _ rfl
  have t4 := Tt 4 _ rfl
  have t5 := Tt 5 _ rfl
  have t6 := Tt 6 _ rfl
  have t7 := Tt 7 _ rfl
  have a0 := Ta 0 _ rfl
  have fa0 := Fa.1 0
  have a1 := Ta 1 _ rfl
  have fa1 := Fa.1 1
  have a2 := Ta 2 _ rfl
  have fa2 := Fa.1 2
  have a3 := Ta 3 _ rfl
  have fa3 := Fa.1 3
  have a4 := Ta 4 _ rfl
  have fa4 := Fa.1 4
  go_upto_region 4 with (fail)
  clear t0 t1 t2 t3 t4 t5 t6 t7 a0 fa0 a1 fa1 a2 fa2 a3 fa3 a4 fa4
  have bs3 : w.heap.size ≤ V2.heap.size := BB.size
  have lt3j : w.heap.size < V2.heap.size := World.block_lt_of_cell? V2 ⟨w.heap.size, 0, none⟩ (Tj 0 _ rfl)
  have lt3t : w.heap.size + 1 < V2.heap.size := World.block_lt_of_cell? V2 ⟨w.heap.size + 1, 0, none⟩ (Tt 0 _ rfl)
  have lt3o : w.heap.size + 2 < V2.heap.size := World.block_lt_of_cell? V2 ⟨w.heap.size + 2, 0, none⟩ (To 0 _ rfl)
  have lt3q : w.heap.size + 3 < V2.heap.size := World.block_lt_of_cell? V2 ⟨w.heap.size + 3, 0, none⟩ (Tq 0 _ rfl)
  have lt3a : k2 < V2.heap.size := World.block_lt_of_cell? V2 ⟨k2, 0, none⟩ (Ta 0 _ rfl)
  have Tm := CAt.new (V2) [.int .i64 k, .int .i64 me, .int .i64 sp, .int .i64 jn, .int .i64 c, .int .i64 key, .int .i64 f, .int .i64 y] 43
  replace Tj := Tj.alloc (.cells #[.int .i64 k, .int .i64 me, .int .i64 sp, .int .i64 jn, .int .i64 c, .int .i64 key, .int .i64 f, .int .i64 y] 43)
  replace Tt := Tt.alloc (.cells #[.int .i64 k, .int .i64 me, .int .i64 sp, .int .i64 jn, .int .i64 c, .int .i64 key, .int .i64 f, .int .i64 y] 43)
  replace To := To.alloc (.cells #[.int .i64 k, .int .i64 me, .int .i64 sp, .int .i64 jn, .int .i64 c, .int .i64 key, .int .i64 f, .int .i64 y] 43)
  replace Tq := Tq.alloc (.cells #[.int .i64 k, .int .i64 me, .int .i64 sp, .int .i64 jn, .int .i64 c, .int .i64 key, .int .i64 f, .int .i64 y] 43)
  replace Ta := Ta.alloc (.cells #[.int .i64 k, .int .i64 me, .int .i64 sp, .int .i64 jn, .int .i64 c, .int .i64 key, .int .i64 f, .int .i64 y] 43)
  replace Fo := Fo.alloc (.cells #[.int .i64 k, .int .i64 me, .int .i64 sp, .int .i64 jn, .int .i64 c, .int .i64 key, .int .i64 f, .int .i64 y] 43)
  replace Fq := Fq.alloc (.cells #[.int .i64 k, .int .i64 me, .int .i64 sp, .int .i64 jn, .int .i64 c, .int .i64 key, .int .i64 f, .int .i64 y] 43)
  replace Fa := Fa.alloc (.cells #[.int .i64 k, .int .i64 me, .int .i64 sp, .int .i64 jn, .int .i64 c, .int .i64 key, .int .i64 f, .int .i64 y] 43)
  replace X1 := X1.keep (Below.alloc (Below.refl _ (V2)) (Nat.le_refl _) (.cells #[.int .i64 k, .int .i64 me, .int .i64 sp, .int .i64 jn, .int .i64 c, .int .i64 key, .int .i64 f, .int .i64 y] 43))
  replace BB := ball BB (.cells #[.int .i64 k, .int .i64 me, .int .i64 sp, .int .i64 jn, .int .i64 c, .int .i64 key, .int .i64 f, .int .i64 y] 43)
  obtain ⟨V3, hV3⟩ : ∃ V3, V2.alloc (.cells #[.int .i64 k, .int .i64 me, .int .i64 sp, .int .i64 jn, .int .i64 c, .int .i64 key, .int .i64 f, .int .i64 y] 43) = V3 := ⟨_, rfl⟩
  rw [hV3] at BB Tj Tt To Tq Ta Tm Fo Fq Fa X1 ⊢
  clear hV3
  obtain ⟨k3, hk3⟩ : ∃ k3, V2.heap.size = k3 := ⟨_, rfl⟩
  rw [hk3] at Tm bs3 lt3j lt3t lt3o lt3q lt3a ⊢
  clear hk3
  go_wp2_with fail
  refine (own_yes me _ HM.out).mono ?_
  rintro e w' ⟨rfl, rfl⟩
  go_wp2_with fail
  refine (jvalid_at ⟨ph, sp, jn, si, tr⟩ _ true V3 OK.out HT.out Ta).mono ?_
  rintro e w4 ⟨rfl, b4⟩
  replace Tj := Tj.keep b4
  replace Tt := Tt.keep b4
  replace To := To.keep b4
  replace Tq := Tq.keep b4
  replace Ta := Ta.keep b4
  replace Tm := Tm.keep b4
  replace Fo := Fo.keep b4
  replace Fq := Fq.keep b4
  replace Fa := Fa.keep b4
  replace X1 := X1.keep b4
  replace BB := bstep BB b4
  clear b4
  have t0 := Tt 0 _ rfl
  have t1 := Tt 1 _ rfl
  have t2 := Tt 2 _ rfl
  have t3 := Tt 3 _ rfl
  have t4 := Tt 4 _ rfl
  have t5 := Tt 5 _ rfl
  have t6 := Tt 6 _ rfl
  have t7 := Tt 7 _ rfl
  go_wp2_with fail
  refine (formed_at ⟨k, s, p, n, c, key, f, y⟩ true w4 HF.out).mono ?_
  clear t0 t1 t2 t3 t4 t5 t6 t7
  rintro e w5 ⟨rfl, b5⟩
  replace Tj := Tj.keep b5
  replace Tt := Tt.keep b5
  replace To := To.keep b5
  replace Tq := Tq.keep b5
  replace Ta := Ta.keep b5
  replace Tm := Tm.keep b5
  replace Fo := Fo.keep b5
  replace Fq := Fq.keep b5
  replace Fa := Fa.keep b5
  replace X1 := X1.keep b5
  replace BB := bstep BB b5
  clear b5
  have t0 := Tt 0 _ rfl
  have t1 := Tt 1 _ rfl
  have t2 := Tt 2 _ rfl
  have t3 := Tt 3 _ rfl
  have t4 := Tt 4 _ rfl
  have t5 := Tt 5 _ rfl
  have t6 := Tt 6 _ rfl
  have t7 := Tt 7 _ rfl
  have m0 := Tm 0 _ rfl
  have m1 := Tm 1 _ rfl
  have m2 := Tm 2 _ rfl
  have m3 := Tm 3 _ rfl
  have m4 := Tm 4 _ rfl
  have m5 := Tm 5 _ rfl
  have m6 := Tm 6 _ rfl
  have m7 := Tm 7 _ rfl
  have j0 := Tj 0 _ rfl
  have j1 := Tj 1 _ rfl
  have j2 := Tj 2 _ rfl
  have j3 := Tj 3 _ rfl
  have j4 := Tj 4 _ rfl
  clear t0 t1 t2 t3 t4 t5 t6 t7 m0 m1 m2 m3 m4 m5 m6 m7 j0 j1 j2 j3 j4
  have t0 := Tt 0 _ rfl
  have t1 := Tt 1 _ rfl
  have t2 := Tt 2 _ rfl
  have t3 := Tt 3 _ rfl
  have t4 := Tt 4 _ rfl
  have t5 := Tt 5 _ rfl
  have t6 := Tt 6 _ rfl
  have t7 := Tt 7 _ rfl
  have m0 := Tm 0 _ rfl
  have m1 := Tm 1 _ rfl
  have m2 := Tm 2 _ rfl
  have m3 := Tm 3 _ rfl
  have m4 := Tm 4 _ rfl
  have m5 := Tm 5 _ rfl
  have m6 := Tm 6 _ rfl
  have m7 := Tm 7 _ rfl
  have j0 := Tj 0 _ rfl
  have j1 := Tj 1 _ rfl
  have j2 := Tj 2 _ rfl
  have j3 := Tj 3 _ rfl
  have j4 := Tj 4 _ rfl
  have o0 := To 0 _ rfl
  have fo0 := Fo.1 0
  have o1 := To 1 _ rfl
  have fo1 := Fo.1 1
  have o2 := To 2 _ rfl
  have fo2 := Fo.1 2
  have o3 := To 3 _ rfl
  have fo3 := Fo.1 3
  have o4 := To 4 _ rfl
  have fo4 := Fo.1 4
  have q0 := Tq 0 _ rfl
  have fq0 := Fq.1 0
  have q1 := Tq 1 _ rfl
  have fq1 := Fq.1 1
  have q2 := Tq 2 _ rfl
  have fq2 := Fq.1 2
  have q3 := Tq 3 _ rfl
  have fq3 := Fq.1 3
  have q4 := Tq 4 _ rfl
  have fq4 := Fq.1 4
  have q5 := Tq 5 _ rfl
  have fq5 := Fq.1 5
  have q6 := Tq 6 _ rfl
  have fq6 := Fq.1 6
  have q7 := Tq 7 _ rfl
  have fq7 := Fq.1 7
  go_wp2_with fail
  clear t0 t1 t2 t3 t4 t5 t6 t7 m0 m1 m2 m3 m4 m5 m6 m7 j0 j1 j2 j3 j4 o0 fo0 o1 fo1 o2 fo2 o3 fo3 o4 fo4 q0 fq0 q1 fq1 q2 fq2 q3 fq3 q4 fq4 q5 fq5 q6 fq6 q7 fq7
  replace To := To.set 0 (.int .i64 ph) (by simp)
  replace Tj := Tj.other (k' := w.heap.size + 2) (by omega) 0 (.int .i64 ph)
  replace Tt := Tt.other (k' := w.heap.size + 2) (by omega) 0 (.int .i64 ph)
  replace Tq := Tq.other (k' := w.heap.size + 2) (by omega) 0 (.int .i64 ph)
  replace Ta := Ta.other (k' := w.heap.size + 2) (by omega) 0 (.int .i64 ph)
  replace Tm := Tm.other (k' := w.heap.size + 2) (by omega) 0 (.int .i64 ph)
  replace Fo := Fo.set ⟨w.heap.size + 2, 0, none⟩ (.int .i64 ph)
  replace Fq := Fq.set ⟨w.heap.size + 2, 0, none⟩ (.int .i64 ph)
  replace Fa := Fa.set ⟨w.heap.size + 2, 0, none⟩ (.int .i64 ph)
  replace BB := BB.setCell (p := ⟨w.heap.size + 2, 0, none⟩) (by first | exact Nat.le_refl _ | (simp only; omega)) (.int .i64 ph)
  replace To := To.set 1 (.int .i64 sp) (by simp)
  replace Tj := Tj.other (k' := w.heap.size + 2) (by omega) 1 (.int .i64 sp)
  replace Tt := Tt.other (k' := w.heap.size + 2) (by omega) 1 (.int .i64 sp)
  replace Tq := Tq.other (k' := w.heap.size + 2) (by omega) 1 (.int .i64 sp)
  replace Ta := Ta.other (k' := w.heap.size + 2) (by omega) 1 (.int .i64 sp)
  replace Tm := Tm.other (k' := w.heap.size + 2) (by omega) 1 (.int .i64 sp)
  replace Fo := Fo.set ⟨w.heap.size + 2, 1, none⟩ (.int .i64 sp)
  replace Fq := Fq.set ⟨w.heap.size + 2, 1, none⟩ (.int .i64 sp)
  replace Fa := Fa.set ⟨w.heap.size + 2, 1, none⟩ (.int .i64 sp)
  replace BB := BB.setCell (p := ⟨w.heap.size + 2, 1, none⟩) (by first | exact Nat.le_refl _ | (simp only; omega)) (.int .i64 sp)
  replace To := To.set 2 (.int .i64 jn) (by simp)
  replace Tj := Tj.other (k' := w.heap.size + 2) (by omega) 2 (.int .i64 jn)
  replace Tt := Tt.other (k' := w.heap.size + 2) (by omega) 2 (.int .i64 jn)
  replace Tq := Tq.other (k' := w.heap.size + 2) (by omega) 2 (.int .i64 jn)
  replace Ta := Ta.other (k' := w.heap.size + 2) (by omega) 2 (.int .i64 jn)
  replace Tm := Tm.other (k' := w.heap.size + 2) (by omega) 2 (.int .i64 jn)
  replace Fo := Fo.set ⟨w.heap.size + 2, 2, none⟩ (.int .i64 jn)
  replace Fq := Fq.set ⟨w.heap.size + 2, 2, none⟩ (.int .i64 jn)
  replace Fa := Fa.set ⟨w.heap.size + 2, 2, none⟩ (.int .i64 jn)
  replace BB := BB.setCell (p := ⟨w.heap.size + 2, 2, none⟩) (by first | exact Nat.le_refl _ | (simp only; omega)) (.int .i64 jn)
  replace To := To.set 3 (.int .i64 si) (by simp)
  replace Tj := Tj.other (k' := w.heap.size + 2) (by omega) 3 (.int .i64 si)
  replace Tt := Tt.other (k' := w.heap.size + 2) (by omega) 3 (.int .i64 si)
  replace Tq := Tq.other (k' := w.heap.size + 2) (by omega) 3 (.int .i64 si)
  replace Ta := Ta.other (k' := w.heap.size + 2) (by omega) 3 (.int .i64 si)
  replace Tm := Tm.other (k' := w.heap.size + 2) (by omega) 3 (.int .i64 si)
  replace Fo := Fo.set ⟨w.heap.size + 2, 3, none⟩ (.int .i64 si)
  replace Fq := Fq.set ⟨w.heap.size + 2, 3, none⟩ (.int .i64 si)
  replace Fa := Fa.set ⟨w.heap.size + 2, 3, none⟩ (.int .i64 si)
  replace BB := BB.setCell (p := ⟨w.heap.size + 2, 3, none⟩) (by first | exact Nat.le_refl _ | (simp only; omega)) (.int .i64 si)
  replace To := To.set 4 (.int .i64 tr) (by simp)
  replace Tj := Tj.other (k' := w.heap.size + 2) (by omega) 4 (.int .i64 tr)
  replace Tt := Tt.other (k' := w.heap.size + 2) (by omega) 4 (.int .i64 tr)
  replace Tq := Tq.other (k' := w.heap.size + 2) (by omega) 4 (.int .i64 tr)
  replace Ta := Ta.other (k' := w.heap.size + 2) (by omega) 4 (.int .i64 tr)
  replace Tm := Tm.other (k' := w.heap.size + 2) (by omega) 4 (.int .i64 tr)
  replace Fo := Fo.set ⟨w.heap.size + 2, 4, none⟩ (.int .i64 tr)
  replace Fq := Fq.set ⟨w.heap.size + 2, 4, none⟩ (.int .i64 tr)
  replace Fa := Fa.set ⟨w.heap.size + 2, 4, none⟩ (.int .i64 tr)
  replace BB := BB.setCell (p := ⟨w.heap.size + 2, 4, none⟩) (by first | exact Nat.le_refl _ | (simp only; omega)) (.int .i64 tr)
  obtain ⟨V6, hV6⟩ : ∃ V6, ((((w5.setCell ⟨w.heap.size + 2, 0, none⟩ (.int .i64 ph)).setCell ⟨w.heap.size + 2, 1, none⟩ (.int .i64 sp)).setCell ⟨w.heap.size + 2, 2, none⟩ (.int .i64 jn)).setCell ⟨w.heap.size + 2, 3, none⟩ (.int .i64 si)).setCell ⟨w.heap.size + 2, 4, none⟩ (.int .i64 tr) = V6 := ⟨_, rfl⟩
  rw [hV6] at BB Tj Tt To Tq Ta Tm Fo Fq Fa ⊢
  clear hV6
  replace Tq := Tq.set 0 (.int .i64 0) (by simp)
  replace Tj := Tj.other (k' := w.heap.size + 3) (by omega) 0 (.int .i64 0)
  replace Tt := Tt.other (k' := w.heap.size + 3) (by omega) 0 (.int .i64 0)
  replace To := To.other (k' := w.heap.size + 3) (by omega) 0 (.int .i64 0)
  replace Ta := Ta.other (k' := w.heap.size + 3) (by omega) 0 (.int .i64 0)
  replace Tm := Tm.other (k' := w.heap.size + 3) (by omega) 0 (.int .i64 0)
  replace Fo := Fo.set ⟨w.heap.size + 3, 0, none⟩ (.int .i64 0)
  replace Fq := Fq.set ⟨w.heap.size + 3, 0, none⟩ (.int .i64 0)
  replace Fa := Fa.set ⟨w.heap.size + 3, 0, none⟩ (.int .i64 0)
  replace BB := BB.setCell (p := ⟨w.heap.size + 3, 0, none⟩) (by first | exact Nat.le_refl _ | (simp only; omega)) (.int .i64 0)
  replace Tq := Tq.set 1 (.int .i64 0) (by simp)
  replace Tj := Tj.other (k' := w.heap.size + 3) (by omega) 1 (.int .i64 0)
  replace Tt := Tt.other (k' := w.heap.size + 3) (by omega) 1 (.int .i64 0)
  replace To := To.other (k' := w.heap.size + 3) (by omega) 1 (.int .i64 0)
  replace Ta := Ta.other (k' := w.heap.size + 3) (by omega) 1 (.int .i64 0)
  replace Tm := Tm.other (k' := w.heap.size + 3) (by omega) 1 (.int .i64 0)
  replace Fo := Fo.set ⟨w.heap.size + 3, 1, none⟩ (.int .i64 0)
  replace Fq := Fq.set ⟨w.heap.size + 3, 1, none⟩ (.int .i64 0)
  replace Fa := Fa.set ⟨w.heap.size + 3, 1, none⟩ (.int .i64 0)
  replace BB := BB.setCell (p := ⟨w.heap.size + 3, 1, none⟩) (by first | exact Nat.le_refl _ | (simp only; omega)) (.int .i64 0)
  replace Tq := Tq.set 2 (.int .i64 0) (by simp)
  replace Tj := Tj.other (k' := w.heap.size + 3) (by omega) 2 (.int .i64 0)
  replace Tt := Tt.other (k' := w.heap.size + 3) (by omega) 2 (.int .i64 0)
  replace To := To.other (k' := w.heap.size + 3) (by omega) 2 (.int .i64 0)
  replace Ta := Ta.other (k' := w.heap.size + 3) (by omega) 2 (.int .i64 0)
  replace Tm := Tm.other (k' := w.heap.size + 3) (by omega) 2 (.int .i64 0)
  replace Fo := Fo.set ⟨w.heap.size + 3, 2, none⟩ (.int .i64 0)
  replace Fq := Fq.set ⟨w.heap.size + 3, 2, none⟩ (.int .i64 0)
  replace Fa := Fa.set ⟨w.heap.size + 3, 2, none⟩ (.int .i64 0)
  replace BB := BB.setCell (p := ⟨w.heap.size + 3, 2, none⟩) (by first | exact Nat.le_refl _ | (simp only; omega)) (.int .i64 0)
  replace Tq := Tq.set 3 (.int .i64 0) (by simp)
  replace Tj := Tj.other (k' := w.heap.size + 3) (by omega) 3 (.int .i64 0)
  replace Tt := Tt.other (k' := w.heap.size + 3) (by omega) 3 (.int .i64 0)
  replace To := To.other (k' := w.heap.size + 3) (by omega) 3 (.int .i64 0)
  replace Ta := Ta.other (k' := w.heap.size + 3) (by omega) 3 (.int .i64 0)
  replace Tm := Tm.other (k' := w.heap.size + 3) (by omega) 3 (.int .i64 0)
  replace Fo := Fo.set ⟨w.heap.size + 3, 3, none⟩ (.int .i64 0)
  replace Fq := Fq.set ⟨w.heap.size + 3, 3, none⟩ (.int .i64 0)
  replace Fa := Fa.set ⟨w.heap.size + 3, 3, none⟩ (.int .i64 0)
  replace BB := BB.setCell (p := ⟨w.heap.size + 3, 3, none⟩) (by first | exact Nat.le_refl _ | (simp only; omega)) (.int .i64 0)
  replace Tq := Tq.set 4 (.int .i64 0) (by simp)
  replace Tj := Tj.other (k' := w.heap.size + 3) (by omega) 4 (.int .i64 0)
  replace Tt := Tt.other (k' := w.heap.size + 3) (by omega) 4 (.int .i64 0)
  replace To := To.other (k' := w.heap.size + 3) (by omega) 4 (.int .i64 0)
  replace Ta := Ta.other (k' := w.heap.size + 3) (by omega) 4 (.int .i64 0)
  replace Tm := Tm.other (k' := w.heap.size + 3) (by omega) 4 (.int .i64 0)
  replace Fo := Fo.set ⟨w.heap.size + 3, 4, none⟩ (.int .i64 0)
  replace Fq := Fq.set ⟨w.heap.size + 3, 4, none⟩ (.int .i64 0)
  replace Fa := Fa.set ⟨w.heap.size + 3, 4, none⟩ (.int .i64 0)
  replace BB := BB.setCell (p := ⟨w.heap.size + 3, 4, none⟩) (by first | exact Nat.le_refl _ | (simp only; omega)) (.int .i64 0)
  replace Tq := Tq.set 5 (.int .i64 0) (by simp)
  replace Tj := Tj.other (k' := w.heap.size + 3) (by omega) 5 (.int .i64 0)
  replace Tt := Tt.other (k' := w.heap.size + 3) (by omega) 5 (.int .i64 0)
  replace To := To.other (k' := w.heap.size + 3) (by omega) 5 (.int .i64 0)
  replace Ta := Ta.other (k' := w.heap.size + 3) (by omega) 5 (.int .i64 0)
  replace Tm := Tm.other (k' := w.heap.size + 3) (by omega) 5 (.int .i64 0)
  replace Fo := Fo.set ⟨w.heap.size + 3, 5, none⟩ (.int .i64 0)
  replace Fq := Fq.set ⟨w.heap.size + 3, 5, none⟩ (.int .i64 0)
  replace Fa := Fa.set ⟨w.heap.size + 3, 5, none⟩ (.int .i64 0)
  replace BB := BB.setCell (p := ⟨w.heap.size + 3, 5, none⟩) (by first | exact Nat.le_refl _ | (simp only; omega)) (.int .i64 0)
  replace Tq := Tq.set 6 (.int .i64 0) (by simp)
  replace Tj := Tj.other (k' := w.heap.size + 3) (by omega) 6 (.int .i64 0)
  replace Tt := Tt.other (k' := w.heap.size + 3) (by omega) 6 (.int .i64 0)
  replace To := To.other (k' := w.heap.size + 3) (by omega) 6 (.int .i64 0)
  replace Ta := Ta.other (k' := w.heap.size + 3) (by omega) 6 (.int .i64 0)
  replace Tm := Tm.other (k' := w.heap.size + 3) (by omega) 6 (.int .i64 0)
  replace Fo := Fo.set ⟨w.heap.size + 3, 6, none⟩ (.int .i64 0)
  replace Fq := Fq.set ⟨w.heap.size + 3, 6, none⟩ (.int .i64 0)
  replace Fa := Fa.set ⟨w.heap.size + 3, 6, none⟩ (.int .i64 0)
  replace BB := BB.setCell (p := ⟨w.heap.size + 3, 6, none⟩) (by first | exact Nat.le_refl _ | (simp only; omega)) (.int .i64 0)
  replace Tq := Tq.set 7 (.int .i64 0) (by simp)
  replace Tj := Tj.other (k' := w.heap.size + 3) (by omega) 7 (.int .i64 0)
  replace Tt := Tt.other (k' := w.heap.size + 3) (by omega) 7 (.int .i64 0)
  replace To := To.other (k' := w.heap.size + 3) (by omega) 7 (.int .i64 0)
  replace Ta := Ta.other (k' := w.heap.size + 3) (by omega) 7 (.int .i64 0)
  replace Tm := Tm.other (k' := w.heap.size + 3) (by omega) 7 (.int .i64 0)
  replace Fo := Fo.set ⟨w.heap.size + 3, 7, none⟩ (.int .i64 0)
  replace Fq := Fq.set ⟨w.heap.size + 3, 7, none⟩ (.int .i64 0)
  replace Fa := Fa.set ⟨w.heap.size + 3, 7, none⟩ (.int .i64 0)
  replace BB := BB.setCell (p := ⟨w.heap.size + 3, 7, none⟩) (by first | exact Nat.le_refl _ | (simp only; omega)) (.int .i64 0)
  obtain ⟨V7, hV7⟩ : ∃ V7, (((((((V6.setCell ⟨w.heap.size + 3, 0, none⟩ (.int .i64 0)).setCell ⟨w.heap.size + 3, 1, none⟩ (.int .i64 0)).setCell ⟨w.heap.size + 3, 2, none⟩ (.int .i64 0)).setCell ⟨w.heap.size + 3, 3, none⟩ (.int .i64 0)).setCell ⟨w.heap.size + 3, 4, none⟩ (.int .i64 0)).setCell ⟨w.heap.size + 3, 5, none⟩ (.int .i64 0)).setCell ⟨w.heap.size + 3, 6, none⟩ (.int .i64 0)).setCell ⟨w.heap.size + 3, 7, none⟩ (.int .i64 0) = V7 := ⟨_, rfl⟩
  rw [hV7] at BB Tj Tt To Tq Ta Tm Fo Fq Fa ⊢
  clear hV7
  have o0 := To 0 _ rfl
  have fo0 := Fo.1 0
  have o1 := To 1 _ rfl
  have fo1 := Fo.1 1
  have o2 := To 2 _ rfl
  have fo2 := Fo.1 2
  have o3 := To 3 _ rfl
  have fo3 := Fo.1 3
  have o4 := To 4 _ rfl
  have fo4 := Fo.1 4
  have q0 := Tq 0 _ rfl
  have fq0 := Fq.1 0
  have q1 := Tq 1 _ rfl
  have fq1 := Fq.1 1
  have q2 := Tq 2 _ rfl
  have fq2 := Fq.1 2
  have q3 := Tq 3 _ rfl
  have fq3 := Fq.1 3
  have q4 := Tq 4 _ rfl
  have fq4 := Fq.1 4
  have q5 := Tq 5 _ rfl
  have fq5 := Fq.1 5
  have q6 := Tq 6 _ rfl
  have fq6 := Fq.1 6
  have q7 := Tq 7 _ rfl
  have fq7 := Fq.1 7
  refine bodyPost_ret (v := .tuple #[(⟨ph, sp, jn, si, tr⟩ : Jn).v, zWd.v, .bool false]) (by simp [results, Tryd.results23, go_sem, o0, o1, o2, o3, o4, q0, q1, q2, q3, q4, q5, q6, q7]) rfl ⟨rfl, BB⟩
set_option maxRecDepth 100000 in
set_option maxHeartbeats 4000000 in
theorem jhear_ch (sp jn si tr me c key f y fr : Int) (w : World) (ok : Jn.ok ⟨1, sp, jn, si, tr⟩) (ht : triesB tr = true) (hm : nodeB me = true) (hf : formedB ⟨2, me, sp, jn, c, key, f, y⟩ = true) (h0 : ¬ fr < 0) (h1 : ¬ 1000000000 < fr) :
    Calls Tryd.prog 23 #[(⟨1, sp, jn, si, tr⟩ : Jn).v, .int .i64 me, (⟨2, me, sp, jn, c, key, f, y⟩ : Wd).v, .int .i64 fr] w (Ans (.tuple #[(⟨2, sp, jn, si, tr⟩ : Jn).v, (⟨3, me, sp, jn, c, 1000000 + me, 0, 0⟩ : Wd).v, .bool true]) w) := by
  have OK := Lib.hid ok; clear ok
  have HT := Lib.hid ht; clear ht
  have HM := Lib.hid hm; clear hm
  have HF := Lib.hid hf; clear hf
  have hne := wd_same 2 me sp jn c (key) f y
  go_enter Tryd.func23, Tryd.ntmps23
  go_upto_region 1 with (fail)
  have Tj := CAt.new (w) [.int .i64 1, .int .i64 sp, .int .i64 jn, .int .i64 si, .int .i64 tr] 28
  have BB : Below w.heap.size w ((w).alloc (.cells #[.int .i64 1, .int .i64 sp, .int .i64 jn, .int .i64 si, .int .i64 tr] 28)) := ball (Below.refl _ _) _
  have Tt := CAt.new (w.alloc (.cells #[.int .i64 1, .int .i64 sp, .int .i64 jn, .int .i64 si, .int .i64 tr] 28)) [.int .i64 2, .int .i64 me, .int .i64 sp, .int .i64 jn, .int .i64 c, .int .i64 key, .int .i64 f, .int .i64 y] 43
  replace Tj := Tj.alloc (.cells #[.int .i64 2, .int .i64 me, .int .i64 sp, .int .i64 jn, .int .i64 c, .int .i64 key, .int .i64 f, .int .i64 y] 43)
  replace BB := ball BB (.cells #[.int .i64 2, .int .i64 me, .int .i64 sp, .int .i64 jn, .int .i64 c, .int .i64 key, .int .i64 f, .int .i64 y] 43)
  have To := CAt.new ((w.alloc (.cells #[.int .i64 1, .int .i64 sp, .int .i64 jn, .int .i64 si, .int .i64 tr] 28)).alloc (.cells #[.int .i64 2, .int .i64 me, .int .i64 sp, .int .i64 jn, .int .i64 c, .int .i64 key, .int .i64 f, .int .i64 y] 43)) [.int .i64 0, .int .i64 0, .int .i64 0, .int .i64 0, .int .i64 0] 28
  have Fo := Fz.new ((w.alloc (.cells #[.int .i64 1, .int .i64 sp, .int .i64 jn, .int .i64 si, .int .i64 tr] 28)).alloc (.cells #[.int .i64 2, .int .i64 me, .int .i64 sp, .int .i64 jn, .int .i64 c, .int .i64 key, .int .i64 f, .int .i64 y] 43)) #[.int .i64 0, .int .i64 0, .int .i64 0, .int .i64 0, .int .i64 0] 28
  replace Tj := Tj.alloc (.cells #[.int .i64 0, .int .i64 0, .int .i64 0, .int .i64 0, .int .i64 0] 28)
  replace Tt := Tt.alloc (.cells #[.int .i64 0, .int .i64 0, .int .i64 0, .int .i64 0, .int .i64 0] 28)
  replace BB := ball BB (.cells #[.int .i64 0, .int .i64 0, .int .i64 0, .int .i64 0, .int .i64 0] 28)
  have Tq := CAt.new (((w.alloc (.cells #[.int .i64 1, .int .i64 sp, .int .i64 jn, .int .i64 si, .int .i64 tr] 28)).alloc (.cells #[.int .i64 2, .int .i64 me, .int .i64 sp, .int .i64 jn, .int .i64 c, .int .i64 key, .int .i64 f, .int .i64 y] 43)).alloc (.cells #[.int .i64 0, .int .i64 0, .int .i64 0, .int .i64 0, .int .i64 0] 28)) [.int .i64 0, .int .i64 0, .int .i64 0, .int .i64 0, .int .i64 0, .int .i64 0, .int .i64 0, .int .i64 0] 43
  have Fq := Fz.new (((w.alloc (.cells #[.int .i64 1, .int .i64 sp, .int .i64 jn, .int .i64 si, .int .i64 tr] 28)).alloc (.cells #[.int .i64 2, .int .i64 me, .int .i64 sp, .int .i64 jn, .int .i64 c, .int .i64 key, .int .i64 f, .int .i64 y] 43)).alloc (.cells #[.int .i64 0, .int .i64 0, .int .i64 0, .int .i64 0, .int .i64 0] 28)) #[.int .i64 0, .int .i64 0, .int .i64 0, .int .i64 0, .int .i64 0, .int .i64 0, .int .i64 0, .int .i64 0] 43
  replace Tj := Tj.alloc (.cells #[.int .i64 0, .int .i64 0, .int .i64 0, .int .i64 0, .int .i64 0, .int .i64 0, .int .i64 0, .int .i64 0] 43)
  replace Tt := Tt.alloc (.cells #[.int .i64 0, .int .i64 0, .int .i64 0, .int .i64 0, .int .i64 0, .int .i64 0, .int .i64 0, .int .i64 0] 43)
  replace To := To.alloc (.cells #[.int .i64 0, .int .i64 0, .int .i64 0, .int .i64 0, .int .i64 0, .int .i64 0, .int .i64 0, .int .i64 0] 43)
  replace Fo := Fo.alloc (.cells #[.int .i64 0, .int .i64 0, .int .i64 0, .int .i64 0, .int .i64 0, .int .i64 0, .int .i64 0, .int .i64 0] 43)
  replace BB := ball BB (.cells #[.int .i64 0, .int .i64 0, .int .i64 0, .int .i64 0, .int .i64 0, .int .i64 0, .int .i64 0, .int .i64 0] 43)
  simp only [World.size_alloc, Nat.add_assoc, Nat.reduceAdd] at Tt To Fo Tq Fq
  obtain ⟨V1, hV1⟩ : ∃ V1, (((w.alloc (.cells #[.int .i64 1, .int .i64 sp, .int .i64 jn, .int .i64 si, .int .i64 tr] 28)).alloc (.cells #[.int .i64 2, .int .i64 me, .int .i64 sp, .int .i64 jn, .int .i64 c, .int .i64 key, .int .i64 f, .int .i64 y] 43)).alloc (.cells #[.int .i64 0, .int .i64 0, .int .i64 0, .int .i64 0, .int .i64 0] 28)).alloc (.cells #[.int .i64 0, .int .i64 0, .int .i64 0, .int .i64 0, .int .i64 0, .int .i64 0, .int .i64 0, .int .i64 0] 43) = V1 := ⟨_, rfl⟩
  rw [hV1] at BB Tj Tt To Tq Fo Fq ⊢
  clear hV1
  have X1 : Fr V1 V1 := Below.refl _ _
  have j0 := Tj 0 _ rfl
  have j1 := Tj 1 _ rfl
  have j2 := Tj 2 _ rfl
  have j3 := Tj 3 _ rfl
  have j4 := Tj 4 _ rfl
  go_upto_region 2 with (fail)
  have Tt9 := Tt; have To9 := To; have Fo9 := Fo; have Tq9 := Tq; have Fq9 := Fq; have BB9 := BB
  clear j0 j1 j2 j3 j4
  have bs2 : w.heap.size ≤ V1.heap.size := BB.size
  have lt2j : w.heap.size < V1.heap.size := World.block_lt_of_cell? V1 ⟨w.heap.size, 0, none⟩ (Tj 0 _ rfl)
  have lt2t : w.heap.size + 1 < V1.heap.size := World.block_lt_of_cell? V1 ⟨w.heap.size + 1, 0, none⟩ (Tt 0 _ rfl)
  have lt2o : w.heap.size + 2 < V1.heap.size := World.block_lt_of_cell? V1 ⟨w.heap.size + 2, 0, none⟩ (To 0 _ rfl)
  have lt2q : w.heap.size + 3 < V1.heap.size := World.block_lt_of_cell? V1 ⟨w.heap.size + 3, 0, none⟩ (Tq 0 _ rfl)
  have Ta := CAt.new (V1) [.int .i64 1, .int .i64 sp, .int .i64 jn, .int .i64 si, .int .i64 tr] 97
  have Fa := Fz.new (V1) #[.int .i64 1, .int .i64 sp, .int .i64 jn, .int .i64 si, .int .i64 tr] 97
  replace Tj := Tj.alloc (.cells #[.int .i64 1, .int .i64 sp, .int .i64 jn, .int .i64 si, .int .i64 tr] 97)
  replace Tt := Tt.alloc (.cells #[.int .i64 1, .int .i64 sp, .int .i64 jn, .int .i64 si, .int .i64 tr] 97)
  replace To := To.alloc (.cells #[.int .i64 1, .int .i64 sp, .int .i64 jn, .int .i64 si, .int .i64 tr] 97)
  replace Tq := Tq.alloc (.cells #[.int .i64 1, .int .i64 sp, .int .i64 jn, .int .i64 si, .int .i64 tr] 97)
  replace Fo := Fo.alloc (.cells #[.int .i64 1, .int .i64 sp, .int .i64 jn, .int .i64 si, .int .i64 tr] 97)
  replace Fq := Fq.alloc (.cells #[.int .i64 1, .int .i64 sp, .int .i64 jn, .int .i64 si, .int .i64 tr] 97)
  replace X1 := X1.keep (Below.alloc (Below.refl _ (V1)) (Nat.le_refl _) (.cells #[.int .i64 1, .int .i64 sp, .int .i64 jn, .int .i64 si, .int .i64 tr] 97))
  replace BB := ball BB (.cells #[.int .i64 1, .int .i64 sp, .int .i64 jn, .int .i64 si, .int .i64 tr] 97)
  obtain ⟨V2, hV2⟩ : ∃ V2, V1.alloc (.cells #[.int .i64 1, .int .i64 sp, .int .i64 jn, .int .i64 si, .int .i64 tr] 97) = V2 := ⟨_, rfl⟩
  rw [hV2] at BB Tj Tt To Tq Ta Fo Fq Fa X1 ⊢
  clear hV2
  obtain ⟨k2, hk2⟩ : ∃ k2, V1.heap.size = k2 := ⟨_, rfl⟩
  rw [hk2] at Ta Fa bs2 lt2j lt2t lt2o lt2q ⊢
  have HK2 := Lib.hid hk2; clear hk2
  have t0 := Tt 0 _ rfl
  have t1 := Tt 1 _ rfl
  have t2 := Tt 2 _ rfl
  have t3 := Tt 3 _ rfl
  have t4 := Tt 4 _ rfl
  have t5 := Tt 5 _ rfl
  have t6 := Tt 6 _ rfl
  have t7 := Tt 7 _ rfl
  have a0 := Ta 0 _ rfl
  have fa0 := Fa.1 0
  have a1 := Ta 1 _ rfl
  have fa1 := Fa.1 1
  have a2 := Ta 2 _ rfl
  have fa2 := Fa.1 2
  have a3 := Ta 3 _ rfl
  have fa3 := Fa.1 3
  have a4 := Ta 4 _ rfl
  have fa4 := Fa.1 4
  go_upto_region 4 with (fail)
  clear t0 t1 t2 t3 t4 t5 t6 t7 a0 fa0 a1 fa1 a2 fa2 a3 fa3 a4 fa4
  have bs3 : w.heap.size ≤ V2.heap.size := BB.size
  have lt3j : w.heap.size < V2.heap.size := World.block_lt_of_cell? V2 ⟨w.heap.size, 0, none⟩ (Tj 0 _ rfl)
  have lt3t : w.heap.size + 1 < V2.heap.size := World.block_lt_of_cell? V2 ⟨w.heap.size + 1, 0, none⟩ (Tt 0 _ rfl)
  have lt3o : w.heap.size + 2 < V2.heap.size := World.block_lt_of_cell? V2 ⟨w.heap.size + 2, 0, none⟩ (To 0 _ rfl)
  have lt3q : w.heap.size + 3 < V2.heap.size := World.block_lt_of_cell? V2 ⟨w.heap.size + 3, 0, none⟩ (Tq 0 _ rfl)
  have lt3a : k2 < V2.heap.size := World.block_lt_of_cell? V2 ⟨k2, 0, none⟩ (Ta 0 _ rfl)
  have Tm := CAt.new (V2) [.int .i64 2, .int .i64 me, .int .i64 sp, .int .i64 jn, .int .i64 c, .int .i64 key, .int .i64 f, .int .i64 y] 43
  replace Tj := Tj.alloc (.cells #[.int .i64 2, .int .i64 me, .int .i64 sp, .int .i64 jn, .int .i64 c, .int .i64 key, .int .i64 f, .int .i64 y] 43)
  replace Tt := Tt.alloc (.cells #[.int .i64 2, .int .i64 me, .int .i64 sp, .int .i64 jn, .int .i64 c, .int .i64 key, .int .i64 f, .int .i64 y] 43)
  replace To := To.alloc (.cells #[.int .i64 2, .int .i64 me, .int .i64 sp, .int .i64 jn, .int .i64 c, .int .i64 key, .int .i64 f, .int .i64 y] 43)
  replace Tq := Tq.alloc (.cells #[.int .i64 2, .int .i64 me, .int .i64 sp, .int .i64 jn, .int .i64 c, .int .i64 key, .int .i64 f, .int .i64 y] 43)
  replace Ta := Ta.alloc (.cells #[.int .i64 2, .int .i64 me, .int .i64 sp, .int .i64 jn, .int .i64 c, .int .i64 key, .int .i64 f, .int .i64 y] 43)
  replace Fo := Fo.alloc (.cells #[.int .i64 2, .int .i64 me, .int .i64 sp, .int .i64 jn, .int .i64 c, .int .i64 key, .int .i64 f, .int .i64 y] 43)
  replace Fq := Fq.alloc (.cells #[.int .i64 2, .int .i64 me, .int .i64 sp, .int .i64 jn, .int .i64 c, .int .i64 key, .int .i64 f, .int .i64 y] 43)
  replace Fa := Fa.alloc (.cells #[.int .i64 2, .int .i64 me, .int .i64 sp, .int .i64 jn, .int .i64 c, .int .i64 key, .int .i64 f, .int .i64 y] 43)
  replace X1 := X1.keep (Below.alloc (Below.refl _ (V2)) (Nat.le_refl _) (.cells #[.int .i64 2, .int .i64 me, .int .i64 sp, .int .i64 jn, .int .i64 c, .int .i64 key, .int .i64 f, .int .i64 y] 43))
  replace BB := ball BB (.cells #[.int .i64 2, .int .i64 me, .int .i64 sp, .int .i64 jn, .int .i64 c, .int .i64 key, .int .i64 f, .int .i64 y] 43)
  obtain ⟨V3, hV3⟩ : ∃ V3, V2.alloc (.cells #[.int .i64 2, .int .i64 me, .int .i64 sp, .int .i64 jn, .int .i64 c, .int .i64 key, .int .i64 f, .int .i64 y] 43) = V3 := ⟨_, rfl⟩
  rw [hV3] at BB Tj Tt To Tq Ta Tm Fo Fq Fa X1 ⊢
  clear hV3
  obtain ⟨k3, hk3⟩ : ∃ k3, V2.heap.size = k3 := ⟨_, rfl⟩
  rw [hk3] at Tm bs3 lt3j lt3t lt3o lt3q lt3a ⊢
  clear hk3
  go_wp2_with fail
  refine (own_yes me _ HM.out).mono ?_
  rintro e w' ⟨rfl, rfl⟩
  go_wp2_with fail
  refine (jvalid_at ⟨1, sp, jn, si, tr⟩ _ true V3 OK.out HT.out Ta).mono ?_
  rintro e w4 ⟨rfl, b4⟩
  replace Tj := Tj.keep b4
  replace Tt := Tt.keep b4
  replace To := To.keep b4
  replace Tq := Tq.keep b4
  replace Ta := Ta.keep b4
  replace Tm := Tm.keep b4
  replace Fo := Fo.keep b4
  replace Fq := Fq.keep b4
  replace Fa := Fa.keep b4
  replace X1 := X1.keep b4
  replace BB := bstep BB b4
  clear b4
  have t0 := Tt 0 _ rfl
  have t1 := Tt 1 _ rfl
  have t2 := Tt 2 _ rfl
  have t3 := Tt 3 _ rfl
  have t4 := Tt 4 _ rfl
  have t5 := Tt 5 _ rfl
  have t6 := Tt 6 _ rfl
  have t7 := Tt 7 _ rfl
  go_wp2_with fail
  refine (formed_at ⟨2, me, sp, jn, c, key, f, y⟩ true w4 HF.out).mono ?_
  clear t0 t1 t2 t3 t4 t5 t6 t7
  rintro e w5 ⟨rfl, b5⟩
  replace Tj := Tj.keep b5
  replace Tt := Tt.keep b5
  replace To := To.keep b5
  replace Tq := Tq.keep b5
  replace Ta := Ta.keep b5
  replace Tm := Tm.keep b5
  replace Fo := Fo.keep b5
  replace Fq := Fq.keep b5
  replace Fa := Fa.keep b5
  replace X1 := X1.keep b5
  replace BB := bstep BB b5
  clear b5
  have t0 := Tt 0 _ rfl
  have t1 := Tt 1 _ rfl
  have t2 := Tt 2 _ rfl
  have t3 := Tt 3 _ rfl
  have t4 := Tt 4 _ rfl
  have t5 := Tt 5 _ rfl
  have t6 := Tt 6 _ rfl
  have t7 := Tt 7 _ rfl
  have m0 := Tm 0 _ rfl
  have m1 := Tm 1 _ rfl
  have m2 := Tm 2 _ rfl
  have m3 := Tm 3 _ rfl
  have m4 := Tm 4 _ rfl
  have m5 := Tm 5 _ rfl
  have m6 := Tm 6 _ rfl
  have m7 := Tm 7 _ rfl
  have j0 := Tj 0 _ rfl
  have j1 := Tj 1 _ rfl
  have j2 := Tj 2 _ rfl
  have j3 := Tj 3 _ rfl
  have j4 := Tj 4 _ rfl
  go_wp2_with fail
  refine (hear_ch k2 sp jn si tr me sp jn c key f y (1000000 + me) V1 w5 X1 (Nat.le_of_eq HK2.out) Ta Fa).mono ?_
  clear t0 t1 t2 t3 t4 t5 t6 t7 m0 m1 m2 m3 m4 m5 m6 m7 j0 j1 j2 j3 j4
  rintro e w9 ⟨rfl, b9, Ta9⟩
  replace Tt := Tt9.keep b9; replace To := To9.keep b9; replace Fo := Fo9.keep b9; replace Tq := Tq9.keep b9; replace Fq := Fq9.keep b9; replace BB := bstep BB9 b9; replace Ta := Ta9
  clear Tt9 To9 Fo9 Tq9 Fq9 BB9 X1 Fa Tj Tm Ta9
  go_upto_region 8 with (fail)
  have bs6 : w.heap.size ≤ w9.heap.size := BB.size
  have lt6o : w.heap.size + 2 < w9.heap.size := World.block_lt_of_cell? w9 ⟨w.heap.size + 2, 0, none⟩ (To 0 _ rfl)
  have lt6q : w.heap.size + 3 < w9.heap.size := World.block_lt_of_cell? w9 ⟨w.heap.size + 3, 0, none⟩ (Tq 0 _ rfl)
  have lt6a : k2 < w9.heap.size := World.block_lt_of_cell? w9 ⟨k2, 0, none⟩ (Ta 0 _ rfl)
  have Tr := CAt.new (w9) [.int .i64 3, .int .i64 me, .int .i64 sp, .int .i64 jn, .int .i64 c, .int .i64 (1000000 + me), .int .i64 0, .int .i64 0] 43
  replace To := To.alloc (.cells #[.int .i64 3, .int .i64 me, .int .i64 sp, .int .i64 jn, .int .i64 c, .int .i64 (1000000 + me), .int .i64 0, .int .i64 0] 43)
  replace Tq := Tq.alloc (.cells #[.int .i64 3, .int .i64 me, .int .i64 sp, .int .i64 jn, .int .i64 c, .int .i64 (1000000 + me), .int .i64 0, .int .i64 0] 43)
  replace Ta := Ta.alloc (.cells #[.int .i64 3, .int .i64 me, .int .i64 sp, .int .i64 jn, .int .i64 c, .int .i64 (1000000 + me), .int .i64 0, .int .i64 0] 43)
  replace Fo := Fo.alloc (.cells #[.int .i64 3, .int .i64 me, .int .i64 sp, .int .i64 jn, .int .i64 c, .int .i64 (1000000 + me), .int .i64 0, .int .i64 0] 43)
  replace Fq := Fq.alloc (.cells #[.int .i64 3, .int .i64 me, .int .i64 sp, .int .i64 jn, .int .i64 c, .int .i64 (1000000 + me), .int .i64 0, .int .i64 0] 43)
  replace BB := ball BB (.cells #[.int .i64 3, .int .i64 me, .int .i64 sp, .int .i64 jn, .int .i64 c, .int .i64 (1000000 + me), .int .i64 0, .int .i64 0] 43)
  obtain ⟨V6, hV6⟩ : ∃ V6, w9.alloc (.cells #[.int .i64 3, .int .i64 me, .int .i64 sp, .int .i64 jn, .int .i64 c, .int .i64 (1000000 + me), .int .i64 0, .int .i64 0] 43) = V6 := ⟨_, rfl⟩
  rw [hV6] at BB To Tq Ta Tr Fo Fq ⊢
  clear hV6
  obtain ⟨k6, hk6⟩ : ∃ k6, w9.heap.size = k6 := ⟨_, rfl⟩
  rw [hk6] at Tr bs6 lt6o lt6q lt6a ⊢
  clear hk6
  have o0 := To 0 _ rfl
  have fo0 := Fo.1 0
  have o1 := To 1 _ rfl
  have fo1 := Fo.1 1
  have o2 := To 2 _ rfl
  have fo2 := Fo.1 2
  have o3 := To 3 _ rfl
  have fo3 := Fo.1 3
  have o4 := To 4 _ rfl
  have fo4 := Fo.1 4
  have q0 := Tq 0 _ rfl
  have fq0 := Fq.1 0
  have q1 := Tq 1 _ rfl
  have fq1 := Fq.1 1
  have q2 := Tq 2 _ rfl
  have fq2 := Fq.1 2
  have q3 := Tq 3 _ rfl
  have fq3 := Fq.1 3
  have q4 := Tq 4 _ rfl
  have fq4 := Fq.1 4
  have q5 := Tq 5 _ rfl
  have fq5 := Fq.1 5
  have q6 := Tq 6 _ rfl
  have fq6 := Fq.1 6
  have q7 := Tq 7 _ rfl
  have fq7 := Fq.1 7
  have a0 := Ta 0 _ rfl
  have a1 := Ta 1 _ rfl
  have a2 := Ta 2 _ rfl
  have a3 := Ta 3 _ rfl
  have a4 := Ta 4 _ rfl
  have r0 := Tr 0 _ rfl
  have r1 := Tr 1 _ rfl
  have r2 := Tr 2 _ rfl
  have r3 := Tr 3 _ rfl
  have r4 := Tr 4 _ rfl
  have r5 := Tr 5 _ rfl
  have r6 := Tr 6 _ rfl
  have r7 := Tr 7 _ rfl
  go_region
  go_wp2_with fail
  clear o0 fo0 o1 fo1 o2 fo2 o3 fo3 o4 fo4 q0 fq0 q1 fq1 q2 fq2 q3 fq3 q4 fq4 q5 fq5 q6 fq6 q7 fq7 a0 a1 a2 a3 a4 r0 r1 r2 r3 r4 r5 r6 r7
  replace To := To.set 0 (.int .i64 2) (by simp)
  replace Tq := Tq.other (k' := w.heap.size + 2) (by omega) 0 (.int .i64 2)
  replace Ta := Ta.other (k' := w.heap.size + 2) (by omega) 0 (.int .i64 2)
  replace Tr := Tr.other (k' := w.heap.size + 2) (by omega) 0 (.int .i64 2)
  replace Fo := Fo.set ⟨w.heap.size + 2, 0, none⟩ (.int .i64 2)
  replace Fq := Fq.set ⟨w.heap.size + 2, 0, none⟩ (.int .i64 2)
  replace BB := BB.setCell (p := ⟨w.heap.size + 2, 0, none⟩) (by first | exact Nat.le_refl _ | (simp only; omega)) (.int .i64 2)
  replace To := To.set 1 (.int .i64 sp) (by simp)
  replace Tq := Tq.other (k' := w.heap.size + 2) (by omega) 1 (.int .i64 sp)
  replace Ta := Ta.other (k' := w.heap.size + 2) (by omega) 1 (.int .i64 sp)
  replace Tr := Tr.other (k' := w.heap.size + 2) (by omega) 1 (.int .i64 sp)
  replace Fo := Fo.set ⟨w.heap.size + 2, 1, none⟩ (.int .i64 sp)
  replace Fq := Fq.set ⟨w.heap.size + 2, 1, none⟩ (.int .i64 sp)
  replace BB := BB.setCell (p := ⟨w.heap.size + 2, 1, none⟩) (by first | exact Nat.le_refl _ | (simp only; omega)) (.int .i64 sp)
  replace To := To.set 2 (.int .i64 jn) (by simp)
  replace Tq := Tq.other (k' := w.heap.size + 2) (by omega) 2 (.int .i64 jn)
  replace Ta := Ta.other (k' := w.heap.size + 2) (by omega) 2 (.int .i64 jn)
  replace Tr := Tr.other (k' := w.heap.size + 2) (by omega) 2 (.int .i64 jn)
  replace Fo := Fo.set ⟨w.heap.size + 2, 2, none⟩ (.int .i64 jn)
  replace Fq := Fq.set ⟨w.heap.size + 2, 2, none⟩ (.int .i64 jn)
  replace BB := BB.setCell (p := ⟨w.heap.size + 2, 2, none⟩) (by first | exact Nat.le_refl _ | (simp only; omega)) (.int .i64 jn)
  replace To := To.set 3 (.int .i64 si) (by simp)
  replace Tq := Tq.other (k' := w.heap.size + 2) (by omega) 3 (.int .i64 si)
  replace Ta := Ta.other (k' := w.heap.size + 2) (by omega) 3 (.int .i64 si)
  replace Tr := Tr.other (k' := w.heap.size + 2) (by omega) 3 (.int .i64 si)
  replace Fo := Fo.set ⟨w.heap.size + 2, 3, none⟩ (.int .i64 si)
  replace Fq := Fq.set ⟨w.heap.size + 2, 3, none⟩ (.int .i64 si)
  replace BB := BB.setCell (p := ⟨w.heap.size + 2, 3, none⟩) (by first | exact Nat.le_refl _ | (simp only; omega)) (.int .i64 si)
  replace To := To.set 4 (.int .i64 tr) (by simp)
  replace Tq := Tq.other (k' := w.heap.size + 2) (by omega) 4 (.int .i64 tr)
  replace Ta := Ta.other (k' := w.heap.size + 2) (by omega) 4 (.int .i64 tr)
  replace Tr := Tr.other (k' := w.heap.size + 2) (by omega) 4 (.int .i64 tr)
  replace Fo := Fo.set ⟨w.heap.size + 2, 4, none⟩ (.int .i64 tr)
  replace Fq := Fq.set ⟨w.heap.size + 2, 4, none⟩ (.int .i64 tr)
  replace BB := BB.setCell (p := ⟨w.heap.size + 2, 4, none⟩) (by first | exact Nat.le_refl _ | (simp only; omega)) (.int .i64 tr)
  obtain ⟨V7, hV7⟩ : ∃ V7, ((((V6.setCell ⟨w.heap.size + 2, 0, none⟩ (.int .i64 2)).setCell ⟨w.heap.size + 2, 1, none⟩ (.int .i64 sp)).setCell ⟨w.heap.size + 2, 2, none⟩ (.int .i64 jn)).setCell ⟨w.heap.size + 2, 3, none⟩ (.int .i64 si)).setCell ⟨w.heap.size + 2, 4, none⟩ (.int .i64 tr) = V7 := ⟨_, rfl⟩
  rw [hV7] at BB To Tq Ta Tr Fo Fq ⊢
  clear hV7
  replace Tq := Tq.set 0 (.int .i64 3) (by simp)
  replace To := To.other (k' := w.heap.size + 3) (by omega) 0 (.int .i64 3)
  replace Ta := Ta.other (k' := w.heap.size + 3) (by omega) 0 (.int .i64 3)
  replace Tr := Tr.other (k' := w.heap.size + 3) (by omega) 0 (.int .i64 3)
  replace Fo := Fo.set ⟨w.heap.size + 3, 0, none⟩ (.int .i64 3)
  replace Fq := Fq.set ⟨w.heap.size + 3, 0, none⟩ (.int .i64 3)
  replace BB := BB.setCell (p := ⟨w.heap.size + 3, 0, none⟩) (by first | exact Nat.le_refl _ | (simp only; omega)) (.int .i64 3)
  replace Tq := Tq.set 1 (.int .i64 me) (by simp)
  replace To := To.other (k' := w.heap.size + 3) (by omega) 1 (.int .i64 me)
  replace Ta := Ta.other (k' := w.heap.size + 3) (by omega) 1 (.int .i64 me)
  replace Tr := Tr.other (k' := w.heap.size + 3) (by omega) 1 (.int .i64 me)
  replace Fo := Fo.set ⟨w.heap.size + 3, 1, none⟩ (.int .i64 me)
  replace Fq := Fq.set ⟨w.heap.size + 3, 1, none⟩ (.int .i64 me)
  replace BB := BB.setCell (p := ⟨w.heap.size + 3, 1, none⟩) (by first | exact Nat.le_refl _ | (simp only; omega)) (.int .i64 me)
  replace Tq := Tq.set 2 (.int .i64 sp) (by simp)
  replace To := To.other (k' := w.heap.size + 3) (by omega) 2 (.int .i64 sp)
  replace Ta := Ta.other (k' := w.heap.size + 3) (by omega) 2 (.int .i64 sp)
  replace Tr := Tr.other (k' := w.heap.size + 3) (by omega) 2 (.int .i64 sp)
  replace Fo := Fo.set ⟨w.heap.size + 3, 2, none⟩ (.int .i64 sp)
  replace Fq := Fq.set ⟨w.heap.size + 3, 2, none⟩ (.int .i64 sp)
  replace BB := BB.setCell (p := ⟨w.heap.size + 3, 2, none⟩) (by first | exact Nat.le_refl _ | (simp only; omega)) (.int .i64 sp)
  replace Tq := Tq.set 3 (.int .i64 jn) (by simp)
  replace To := To.other (k' := w.heap.size + 3) (by omega) 3 (.int .i64 jn)
  replace Ta := Ta.other (k' := w.heap.size + 3) (by omega) 3 (.int .i64 jn)
  replace Tr := Tr.other (k' := w.heap.size + 3) (by omega) 3 (.int .i64 jn)
  replace Fo := Fo.set ⟨w.heap.size + 3, 3, none⟩ (.int .i64 jn)
  replace Fq := Fq.set ⟨w.heap.size + 3, 3, none⟩ (.int .i64 jn)
  replace BB := BB.setCell (p := ⟨w.heap.size + 3, 3, none⟩) (by first | exact Nat.le_refl _ | (simp only; omega)) (.int .i64 jn)
  replace Tq := Tq.set 4 (.int .i64 c) (by simp)
  replace To := To.other (k' := w.heap.size + 3) (by omega) 4 (.int .i64 c)
  replace Ta := Ta.other (k' := w.heap.size + 3) (by omega) 4 (.int .i64 c)
  replace Tr := Tr.other (k' := w.heap.size + 3) (by omega) 4 (.int .i64 c)
  replace Fo := Fo.set ⟨w.heap.size + 3, 4, none⟩ (.int .i64 c)
  replace Fq := Fq.set ⟨w.heap.size + 3, 4, none⟩ (.int .i64 c)
  replace BB := BB.setCell (p := ⟨w.heap.size + 3, 4, none⟩) (by first | exact Nat.le_refl _ | (simp only; omega)) (.int .i64 c)
  replace Tq := Tq.set 5 (.int .i64 (1000000 + me)) (by simp)
  replace To := To.other (k' := w.heap.size + 3) (by omega) 5 (.int .i64 (1000000 + me))
  replace Ta := Ta.other (k' := w.heap.size + 3) (by omega) 5 (.int .i64 (1000000 + me))
  replace Tr := Tr.other (k' := w.heap.size + 3) (by omega) 5 (.int .i64 (1000000 + me))
  replace Fo := Fo.set ⟨w.heap.size + 3, 5, none⟩ (.int .i64 (1000000 + me))
  replace Fq := Fq.set ⟨w.heap.size + 3, 5, none⟩ (.int .i64 (1000000 + me))
  replace BB := BB.setCell (p := ⟨w.heap.size + 3, 5, none⟩) (by first | exact Nat.le_refl _ | (simp only; omega)) (.int .i64 (1000000 + me))
  replace Tq := Tq.set 6 (.int .i64 0) (by simp)
  replace To := To.other (k' := w.heap.size + 3) (by omega) 6 (.int .i64 0)
  replace Ta := Ta.other (k' := w.heap.size + 3) (by omega) 6 (.int .i64 0)
  replace Tr := Tr.other (k' := w.heap.size + 3) (by omega) 6 (.int .i64 0)
  replace Fo := Fo.set ⟨w.heap.size + 3, 6, none⟩ (.int .i64 0)
  replace Fq := Fq.set ⟨w.heap.size + 3, 6, none⟩ (.int .i64 0)
  replace BB := BB.setCell (p := ⟨w.heap.size + 3, 6, none⟩) (by first | exact Nat.le_refl _ | (simp only; omega)) (.int .i64 0)
  replace Tq := Tq.set 7 (.int .i64 0) (by simp)
  replace To := To.other (k' := w.heap.size + 3) (by omega) 7 (.int .i64 0)
  replace Ta := Ta.other (k' := w.heap.size + 3) (by omega) 7 (.int .i64 0)
  replace Tr := Tr.other (k' := w.heap.size + 3) (by omega) 7 (.int .i64 0)
  replace Fo := Fo.set ⟨w.heap.size + 3, 7, none⟩ (.int .i64 0)
  replace Fq := Fq.set ⟨w.heap.size + 3, 7, none⟩ (.int .i64 0)
  replace BB := BB.setCell (p := ⟨w.heap.size + 3, 7, none⟩) (by first | exact Nat.le_refl _ | (simp only; omega)) (.int .i64 0)
  obtain ⟨V8, hV8⟩ : ∃ V8, (((((((V7.setCell ⟨w.heap.size + 3, 0, none⟩ (.int .i64 3)).setCell ⟨w.heap.size + 3, 1, none⟩ (.int .i64 me)).setCell ⟨w.heap.size + 3, 2, none⟩ (.int .i64 sp)).setCell ⟨w.heap.size + 3, 3, none⟩ (.int .i64 jn)).setCell ⟨w.heap.size + 3, 4, none⟩ (.int .i64 c)).setCell ⟨w.heap.size + 3, 5, none⟩ (.int .i64 (1000000 + me))).setCell ⟨w.heap.size + 3, 6, none⟩ (.int .i64 0)).setCell ⟨w.heap.size + 3, 7, none⟩ (.int .i64 0) = V8 := ⟨_, rfl⟩
  rw [hV8] at BB To Tq Ta Tr Fo Fq ⊢
  clear hV8
  replace To := To.drew
  replace Tq := Tq.drew
  replace Ta := Ta.drew
  replace Tr := Tr.drew
  replace Fo := Fo.drew
  replace Fq := Fq.drew
  replace BB : Below w.heap.size w V8.drew := ⟨BB.os, BB.tape, BB.output, BB.size, BB.block⟩
  obtain ⟨V9, hV9⟩ : ∃ V9, V8.drew = V9 := ⟨_, rfl⟩
  rw [hV9] at BB To Tq Ta Tr Fo Fq ⊢
  clear hV9
  have o0 := To 0 _ rfl
  have fo0 := Fo.1 0
  have o1 := To 1 _ rfl
  have fo1 := Fo.1 1
  have o2 := To 2 _ rfl
  have fo2 := Fo.1 2
  have o3 := To 3 _ rfl
  have fo3 := Fo.1 3
  have o4 := To 4 _ rfl
  have fo4 := Fo.1 4
  have q0 := Tq 0 _ rfl
  have fq0 := Fq.1 0
  have q1 := Tq 1 _ rfl
  have fq1 := Fq.1 1
  have q2 := Tq 2 _ rfl
  have fq2 := Fq.1 2
  have q3 := Tq 3 _ rfl
  have fq3 := Fq.1 3
  have q4 := Tq 4 _ rfl
  have fq4 := Fq.1 4
  have q5 := Tq 5 _ rfl
  have fq5 := Fq.1 5
  have q6 := Tq 6 _ rfl
  have fq6 := Fq.1 6
  have q7 := Tq 7 _ rfl
  have fq7 := Fq.1 7
  refine bodyPost_ret (v := .tuple #[(⟨2, sp, jn, si, tr⟩ : Jn).v, (⟨3, me, sp, jn, c, 1000000 + me, 0, 0⟩ : Wd).v, .bool true]) (by simp [results, Tryd.results23, go_sem, o0, o1, o2, o3, o4, q0, q1, q2, q3, q4, q5, q6, q7]) rfl ⟨rfl, BB⟩
set_option maxRecDepth 100000 in
set_option maxHeartbeats 4000000 in
theorem jhear_we (sp jn si tr me c f y fr : Int) (w : World) (ok : Jn.ok ⟨2, sp, jn, si, tr⟩) (ht : triesB tr = true) (hm : nodeB me = true) (hf : formedB ⟨4, me, sp, jn, c, 1000000 + me, f, y⟩ = true) (h0 : ¬ fr < 0) (h1 : ¬ 1000000000 < fr) :
    Calls Tryd.prog 23 #[(⟨2, sp, jn, si, tr⟩ : Jn).v, .int .i64 me, (⟨4, me, sp, jn, c, 1000000 + me, f, y⟩ : Wd).v, .int .i64 fr] w (Ans (.tuple #[(⟨3, sp, jn, si, tr⟩ : Jn).v, (zWd : Wd).v, .bool true]) w) := by
  have OK := Lib.hid ok; clear ok
  have HT := Lib.hid ht; clear ht
  have HM := Lib.hid hm; clear hm
  have HF := Lib.hid hf; clear hf
  have hne := wd_same 4 me sp jn c (1000000 + me) f y
  go_enter Tryd.func23, Tryd.ntmps23
  go_upto_region 1 with (fail)
  have Tj := CAt.new (w) [.int .i64 2, .int .i64 sp, .int .i64 jn, .int .i64 si, .int .i64 tr] 28
  have BB : Below w.heap.size w ((w).alloc (.cells #[.int .i64 2, .int .i64 sp, .int .i64 jn, .int .i64 si, .int .i64 tr] 28)) := ball (Below.refl _ _) _
  have Tt := CAt.new (w.alloc (.cells #[.int .i64 2, .int .i64 sp, .int .i64 jn, .int .i64 si, .int .i64 tr] 28)) [.int .i64 4, .int .i64 me, .int .i64 sp, .int .i64 jn, .int .i64 c, .int .i64 (1000000 + me), .int .i64 f, .int .i64 y] 43
  replace Tj := Tj.alloc (.cells #[.int .i64 4, .int .i64 me, .int .i64 sp, .int .i64 jn, .int .i64 c, .int .i64 (1000000 + me), .int .i64 f, .int .i64 y] 43)
  replace BB := ball BB (.cells #[.int .i64 4, .int .i64 me, .int .i64 sp, .int .i64 jn, .int .i64 c, .int .i64 (1000000 + me), .int .i64 f, .int .i64 y] 43)
  have To := CAt.new ((w.alloc (.cells #[.int .i64 2, .int .i64 sp, .int .i64 jn, .int .i64 si, .int .i64 tr] 28)).alloc (.cells #[.int .i64 4, .int .i64 me, .int .i64 sp, .int .i64 jn, .int .i64 c, .int .i64 (1000000 + me), .int .i64 f, .int .i64 y] 43)) [.int .i64 0, .int .i64 0, .int .i64 0, .int .i64 0, .int .i64 0] 28
  have Fo := Fz.new ((w.alloc (.cells #[.int .i64 2, .int .i64 sp, .int .i64 jn, .int .i64 si, .int .i64 tr] 28)).alloc (.cells #[.int .i64 4, .int .i64 me, .int .i64 sp, .int .i64 jn, .int .i64 c, .int .i64 (1000000 + me), .int .i64 f, .int .i64 y] 43)) #[.int .i64 0, .int .i64 0, .int .i64 0, .int .i64 0, .int .i64 0] 28
  replace Tj := Tj.alloc (.cells #[.int .i64 0, .int .i64 0, .int .i64 0, .int .i64 0, .int .i64 0] 28)
  replace Tt := Tt.alloc (.cells #[.int .i64 0, .int .i64 0, .int .i64 0, .int .i64 0, .int .i64 0] 28)
  replace BB := ball BB (.cells #[.int .i64 0, .int .i64 0, .int .i64 0, .int .i64 0, .int .i64 0] 28)
  have Tq := CAt.new (((w.alloc (.cells #[.int .i64 2, .int .i64 sp, .int .i64 jn, .int .i64 si, .int .i64 tr] 28)).alloc (.cells #[.int .i64 4, .int .i64 me, .int .i64 sp, .int .i64 jn, .int .i64 c, .int .i64 (1000000 + me), .int .i64 f, .int .i64 y] 43)).alloc (.cells #[.int .i64 0, .int .i64 0, .int .i64 0, .int .i64 0, .int .i64 0] 28)) [.int .i64 0, .int .i64 0, .int .i64 0, .int .i64 0, .int .i64 0, .int .i64 0, .int .i64 0, .int .i64 0] 43
  have Fq := Fz.new (((w.alloc (.cells #[.int .i64 2, .int .i64 sp, .int .i64 jn, .int .i64 si, .int .i64 tr] 28)).alloc (.cells #[.int .i64 4, .int .i64 me, .int .i64 sp, .int .i64 jn, .int .i64 c, .int .i64 (1000000 + me), .int .i64 f, .int .i64 y] 43)).alloc (.cells #[.int .i64 0, .int .i64 0, .int .i64 0, .int .i64 0, .int .i64 0] 28)) #[.int .i64 0, .int .i64 0, .int .i64 0, .int .i64 0, .int .i64 0, .int .i64 0, .int .i64 0, .int .i64 0] 43
  replace Tj := Tj.alloc (.cells #[.int .i64 0, .int .i64 0, .int .i64 0, .int .i64 0, .int .i64 0, .int .i64 0, .int .i64 0, .int .i64 0] 43)
  replace Tt := Tt.alloc (.cells #[.int .i64 0, .int .i64 0, .int .i64 0, .int .i64 0, .int .i64 0, .int .i64 0, .int .i64 0, .int .i64 0] 43)
  replace To := To.alloc (.cells #[.int .i64 0, .int .i64 0, .int .i64 0, .int .i64 0, .int .i64 0, .int .i64 0, .int .i64 0, .int .i64 0] 43)
  replace Fo := Fo.alloc (.cells #[.int .i64 0, .int .i64 0, .int .i64 0, .int .i64 0, .int .i64 0, .int .i64 0, .int .i64 0, .int .i64 0] 43)
  replace BB := ball BB (.cells #[.int .i64 0, .int .i64 0, .int .i64 0, .int .i64 0, .int .i64 0, .int .i64 0, .int .i64 0, .int .i64 0] 43)
  simp only [World.size_alloc, Nat.add_assoc, Nat.reduceAdd] at Tt To Fo Tq Fq
  obtain ⟨V1, hV1⟩ : ∃ V1, (((w.alloc (.cells #[.int .i64 2, .int .i64 sp, .int .i64 jn, .int .i64 si, .int .i64 tr] 28)).alloc (.cells #[.int .i64 4, .int .i64 me, .int .i64 sp, .int .i64 jn, .int .i64 c, .int .i64 (1000000 + me), .int .i64 f, .int .i64 y] 43)).alloc (.cells #[.int .i64 0, .int .i64 0, .int .i64 0, .int .i64 0, .int .i64 0] 28)).alloc (.cells #[.int .i64 0, .int .i64 0, .int .i64 0, .int .i64 0, .int .i64 0, .int .i64 0, .int .i64 0, .int .i64 0] 43) = V1 := ⟨_, rfl⟩
  rw [hV1] at BB Tj Tt To Tq Fo Fq ⊢
  clear hV1
  have X1 : Fr V1 V1 := Below.refl _ _
  have j0 := Tj 0 _ rfl
  have j1 := Tj 1 _ rfl
  have j2 := Tj 2 _ rfl
  have j3 := Tj 3 _ rfl
  have j4 := Tj 4 _ rfl
  go_upto_region 2 with (fail)
  have Tt9 := Tt; have To9 := To; have Fo9 := Fo; have Tq9 := Tq; have Fq9 := Fq; have BB9 := BB
  clear j0 j1 j2 j3 j4
  have bs2 : w.heap.size ≤ V1.heap.size := BB.size
  have lt2j : w.heap.size < V1.heap.size := World.block_lt_of_cell? V1 ⟨w.heap.size, 0, none⟩ (Tj 0 _ rfl)
  have lt2t : w.heap.size + 1 < V1.heap.size := World.block_lt_of_cell? V1 ⟨w.heap.size + 1, 0, none⟩ (Tt 0 _ rfl)
  have lt2o : w.heap.size + 2 < V1.heap.size := World.block_lt_of_cell? V1 ⟨w.heap.size + 2, 0, none⟩ (To 0 _ rfl)
  have lt2q : w.heap.size + 3 < V1.heap.size := World.block_lt_of_cell? V1 ⟨w.heap.size + 3, 0, none⟩ (Tq 0 _ rfl)
  have Ta := CAt.new (V1) [.int .i64 2, .int .i64 sp, .int .i64 jn, .int .i64 si, .int .i64 tr] 97
  have Fa := Fz.new (V1) #[.int .i64 2, .int .i64 sp, .int .i64 jn, .int .i64 si, .int .i64 tr] 97
  replace Tj := Tj.alloc (.cells #[.int .i64 2, .int .i64 sp, .int .i64 jn, .int .i64 si, .int .i64 tr] 97)
  replace Tt := Tt.alloc (.cells #[.int .i64 2, .int .i64 sp, .int .i64 jn, .int .i64 si, .int .i64 tr] 97)
  replace To := To.alloc (.cells #[.int .i64 2, .int .i64 sp, .int .i64 jn, .int .i64 si, .int .i64 tr] 97)
  replace Tq := Tq.alloc (.cells #[.int .i64 2, .int .i64 sp, .int .i64 jn, .int .i64 si, .int .i64 tr] 97)
  replace Fo := Fo.alloc (.cells #[.int .i64 2, .int .i64 sp, .int .i64 jn, .int .i64 si, .int .i64 tr] 97)
  replace Fq := Fq.alloc (.cells #[.int .i64 2, .int .i64 sp, .int .i64 jn, .int .i64 si, .int .i64 tr] 97)
  replace X1 := X1.keep (Below.alloc (Below.refl _ (V1)) (Nat.le_refl _) (.cells #[.int .i64 2, .int .i64 sp, .int .i64 jn, .int .i64 si, .int .i64 tr] 97))
  replace BB := ball BB (.cells #[.int .i64 2, .int .i64 sp, .int .i64 jn, .int .i64 si, .int .i64 tr] 97)
  obtain ⟨V2, hV2⟩ : ∃ V2, V1.alloc (.cells #[.int .i64 2, .int .i64 sp, .int .i64 jn, .int .i64 si, .int .i64 tr] 97) = V2 := ⟨_, rfl⟩
  rw [hV2] at BB Tj Tt To Tq Ta Fo Fq Fa X1 ⊢
  clear hV2
  obtain ⟨k2, hk2⟩ : ∃ k2, V1.heap.size = k2 := ⟨_, rfl⟩
  rw [hk2] at Ta Fa bs2 lt2j lt2t lt2o lt2q ⊢
  have HK2 := Lib.hid hk2; clear hk2
  have t0 := Tt 0 _ rfl
  have t1 := Tt 1 _ rfl
  have t2 := Tt 2 _ rfl
  have t3 := Tt 3 _ rfl
  have t4 := Tt 4 _ rfl
  have t5 := Tt 5 _ rfl
  have t6 := Tt 6 _ rfl
  have t7 := Tt 7 _ rfl
  have a0 := Ta 0 _ rfl
  have fa0 := Fa.1 0
  have a1 := Ta 1 _ rfl
  have fa1 := Fa.1 1
  have a2 := Ta 2 _ rfl
  have fa2 := Fa.1 2
  have a3 := Ta 3 _ rfl
  have fa3 := Fa.1 3
  have a4 := Ta 4 _ rfl
  have fa4 := Fa.1 4
  go_upto_region 4 with (fail)
  clear t0 t1 t2 t3 t4 t5 t6 t7 a0 fa0 a1 fa1 a2 fa2 a3 fa3 a4 fa4
  have bs3 : w.heap.size ≤ V2.heap.size := BB.size
  have lt3j : w.heap.size < V2.heap.size := World.block_lt_of_cell? V2 ⟨w.heap.size, 0, none⟩ (Tj 0 _ rfl)
  have lt3t : w.heap.size + 1 < V2.heap.size := World.block_lt_of_cell? V2 ⟨w.heap.size + 1, 0, none⟩ (Tt 0 _ rfl)
  have lt3o : w.heap.size + 2 < V2.heap.size := World.block_lt_of_cell? V2 ⟨w.heap.size + 2, 0, none⟩ (To 0 _ rfl)
  have lt3q : w.heap.size + 3 < V2.heap.size := World.block_lt_of_cell? V2 ⟨w.heap.size + 3, 0, none⟩ (Tq 0 _ rfl)
  have lt3a : k2 < V2.heap.size := World.block_lt_of_cell? V2 ⟨k2, 0, none⟩ (Ta 0 _ rfl)
  have Tm := CAt.new (V2) [.int .i64 4, .int .i64 me, .int .i64 sp, .int .i64 jn, .int .i64 c, .int .i64 (1000000 + me), .int .i64 f, .int .i64 y] 43
  replace Tj := Tj.alloc (.cells #[.int .i64 4, .int .i64 me, .int .i64 sp, .int .i64 jn, .int .i64 c, .int .i64 (1000000 + me), .int .i64 f, .int .i64 y] 43)
  replace Tt := Tt.alloc (.cells #[.int .i64 4, .int .i64 me, .int .i64 sp, .int .i64 jn, .int .i64 c, .int .i64 (1000000 + me), .int .i64 f, .int .i64 y] 43)
  replace To := To.alloc (.cells #[.int .i64 4, .int .i64 me, .int .i64 sp, .int .i64 jn, .int .i64 c, .int .i64 (1000000 + me), .int .i64 f, .int .i64 y] 43)
  replace Tq := Tq.alloc (.cells #[.int .i64 4, .int .i64 me, .int .i64 sp, .int .i64 jn, .int .i64 c, .int .i64 (1000000 + me), .int .i64 f, .int .i64 y] 43)
  replace Ta := Ta.alloc (.cells #[.int .i64 4, .int .i64 me, .int .i64 sp, .int .i64 jn, .int .i64 c, .int .i64 (1000000 + me), .int .i64 f, .int .i64 y] 43)
  replace Fo := Fo.alloc (.cells #[.int .i64 4, .int .i64 me, .int .i64 sp, .int .i64 jn, .int .i64 c, .int .i64 (1000000 + me), .int .i64 f, .int .i64 y] 43)
  replace Fq := Fq.alloc (.cells #[.int .i64 4, .int .i64 me, .int .i64 sp, .int .i64 jn, .int .i64 c, .int .i64 (1000000 + me), .int .i64 f, .int .i64 y] 43)
  replace Fa := Fa.alloc (.cells #[.int .i64 4, .int .i64 me, .int .i64 sp, .int .i64 jn, .int .i64 c, .int .i64 (1000000 + me), .int .i64 f, .int .i64 y] 43)
  replace X1 := X1.keep (Below.alloc (Below.refl _ (V2)) (Nat.le_refl _) (.cells #[.int .i64 4, .int .i64 me, .int .i64 sp, .int .i64 jn, .int .i64 c, .int .i64 (1000000 + me), .int .i64 f, .int .i64 y] 43))
  replace BB := ball BB (.cells #[.int .i64 4, .int .i64 me, .int .i64 sp, .int .i64 jn, .int .i64 c, .int .i64 (1000000 + me), .int .i64 f, .int .i64 y] 43)
  obtain ⟨V3, hV3⟩ : ∃ V3, V2.alloc (.cells #[.int .i64 4, .int .i64 me, .int .i64 sp, .int .i64 jn, .int .i64 c, .int .i64 (1000000 + me), .int .i64 f, .int .i64 y] 43) = V3 := ⟨_, rfl⟩
  rw [hV3] at BB Tj Tt To Tq Ta Tm Fo Fq Fa X1 ⊢
  clear hV3
  obtain ⟨k3, hk3⟩ : ∃ k3, V2.heap.size = k3 := ⟨_, rfl⟩
  rw [hk3] at Tm bs3 lt3j lt3t lt3o lt3q lt3a ⊢
  clear hk3
  go_wp2_with fail
  refine (own_yes me _ HM.out).mono ?_
  rintro e w' ⟨rfl, rfl⟩
  go_wp2_with fail
  refine (jvalid_at ⟨2, sp, jn, si, tr⟩ _ true V3 OK.out HT.out Ta).mono ?_
  rintro e w4 ⟨rfl, b4⟩
  replace Tj := Tj.keep b4
  replace Tt := Tt.keep b4
  replace To := To.keep b4
  replace Tq := Tq.keep b4
  replace Ta := Ta.keep b4
  replace Tm := Tm.keep b4
  replace Fo := Fo.keep b4
  replace Fq := Fq.keep b4
  replace Fa := Fa.keep b4
  replace X1 := X1.keep b4
  replace BB := bstep BB b4
  clear b4
  have t0 := Tt 0 _ rfl
  have t1 := Tt 1 _ rfl
  have t2 := Tt 2 _ rfl
  have t3 := Tt 3 _ rfl
  have t4 := Tt 4 _ rfl
  have t5 := Tt 5 _ rfl
  have t6 := Tt 6 _ rfl
  have t7 := Tt 7 _ rfl
  go_wp2_with fail
  refine (formed_at ⟨4, me, sp, jn, c, 1000000 + me, f, y⟩ true w4 HF.out).mono ?_
  clear t0 t1 t2 t3 t4 t5 t6 t7
  rintro e w5 ⟨rfl, b5⟩
  replace Tj := Tj.keep b5
  replace Tt := Tt.keep b5
  replace To := To.keep b5
  replace Tq := Tq.keep b5
  replace Ta := Ta.keep b5
  replace Tm := Tm.keep b5
  replace Fo := Fo.keep b5
  replace Fq := Fq.keep b5
  replace Fa := Fa.keep b5
  replace X1 := X1.keep b5
  replace BB := bstep BB b5
  clear b5
  have t0 := Tt 0 _ rfl
  have t1 := Tt 1 _ rfl
  have t2 := Tt 2 _ rfl
  have t3 := Tt 3 _ rfl
  have t4 := Tt 4 _ rfl
  have t5 := Tt 5 _ rfl
  have t6 := Tt 6 _ rfl
  have t7 := Tt 7 _ rfl
  have m0 := Tm 0 _ rfl
  have m1 := Tm 1 _ rfl
  have m2 := Tm 2 _ rfl
  have m3 := Tm 3 _ rfl
  have m4 := Tm 4 _ rfl
  have m5 := Tm 5 _ rfl
  have m6 := Tm 6 _ rfl
  have m7 := Tm 7 _ rfl
  have j0 := Tj 0 _ rfl
  have j1 := Tj 1 _ rfl
  have j2 := Tj 2 _ rfl
  have j3 := Tj 3 _ rfl
  have j4 := Tj 4 _ rfl
  go_wp2_with fail
  refine (hear_we k2 sp jn si tr me sp jn c (1000000 + me) f y 0 V1 w5 X1 (Nat.le_of_eq HK2.out) Ta Fa).mono ?_
  clear t0 t1 t2 t3 t4 t5 t6 t7 m0 m1 m2 m3 m4 m5 m6 m7 j0 j1 j2 j3 j4
  rintro e w9 ⟨rfl, b9, Ta9⟩
  replace Tt := Tt9.keep b9; replace To := To9.keep b9; replace Fo := Fo9.keep b9; replace Tq := Tq9.keep b9; replace Fq := Fq9.keep b9; replace BB := bstep BB9 b9; replace Ta := Ta9
  clear Tt9 To9 Fo9 Tq9 Fq9 BB9 X1 Fa Tj Tm Ta9
  go_upto_region 8 with (fail)
  have bs6 : w.heap.size ≤ w9.heap.size := BB.size
  have lt6o : w.heap.size + 2 < w9.heap.size := World.block_lt_of_cell? w9 ⟨w.heap.size + 2, 0, none⟩ (To 0 _ rfl)
  have lt6q : w.heap.size + 3 < w9.heap.size := World.block_lt_of_cell? w9 ⟨w.heap.size + 3, 0, none⟩ (Tq 0 _ rfl)
  have lt6a : k2 < w9.heap.size := World.block_lt_of_cell? w9 ⟨k2, 0, none⟩ (Ta 0 _ rfl)
  have Tr := CAt.new (w9) [.int .i64 0, .int .i64 0, .int .i64 0, .int .i64 0, .int .i64 0, .int .i64 0, .int .i64 0, .int .i64 0] 43
  replace To := To.alloc (.cells #[.int .i64 0, .int .i64 0, .int .i64 0, .int .i64 0, .int .i64 0, .int .i64 0, .int .i64 0, .int .i64 0] 43)
  replace Tq := Tq.alloc (.cells #[.int .i64 0, .int .i64 0, .int .i64 0, .int .i64 0, .int .i64 0, .int .i64 0, .int .i64 0, .int .i64 0] 43)
  replace Ta := Ta.alloc (.cells #[.int .i64 0, .int .i64 0, .int .i64 0, .int .i64 0, .int .i64 0, .int .i64 0, .int .i64 0, .int .i64 0] 43)
  replace Fo := Fo.alloc (.cells #[.int .i64 0, .int .i64 0, .int .i64 0, .int .i64 0, .int .i64 0, .int .i64 0, .int .i64 0, .int .i64 0] 43)
  replace Fq := Fq.alloc (.cells #[.int .i64 0, .int .i64 0, .int .i64 0, .int .i64 0, .int .i64 0, .int .i64 0, .int .i64 0, .int .i64 0] 43)
  replace BB := ball BB (.cells #[.int .i64 0, .int .i64 0, .int .i64 0, .int .i64 0, .int .i64 0, .int .i64 0, .int .i64 0, .int .i64 0] 43)
  obtain ⟨V6, hV6⟩ : ∃ V6, w9.alloc (.cells #[.int .i64 0, .int .i64 0, .int .i64 0, .int .i64 0, .int .i64 0, .int .i64 0, .int .i64 0, .int .i64 0] 43) = V6 := ⟨_, rfl⟩
  rw [hV6] at BB To Tq Ta Tr Fo Fq ⊢
  clear hV6
  obtain ⟨k6, hk6⟩ : ∃ k6, w9.heap.size = k6 := ⟨_, rfl⟩
  rw [hk6] at Tr bs6 lt6o lt6q lt6a ⊢
  clear hk6
  have o0 := To 0 _ rfl
  have fo0 := Fo.1 0
  have o1 := To 1 _ rfl
  have fo1 := Fo.1 1
  have o2 := To 2 _ rfl
  have fo2 := Fo.1 2
  have o3 := To 3 _ rfl
  have fo3 := Fo.1 3
  have o4 := To 4 _ rfl
  have fo4 := Fo.1 4
  have q0 := Tq 0 _ rfl
  have fq0 := Fq.1 0
  have q1 := Tq 1 _ rfl
  have fq1 := Fq.1 1
  have q2 := Tq 2 _ rfl
  have fq2 := Fq.1 2
  have q3 := Tq 3 _ rfl
  have fq3 := Fq.1 3
  have q4 := Tq 4 _ rfl
  have fq4 := Fq.1 4
  have q5 := Tq 5 _ rfl
  have fq5 := Fq.1 5
  have q6 := Tq 6 _ rfl
  have fq6 := Fq.1 6
  have q7 := Tq 7 _ rfl
  have fq7 := Fq.1 7
  have a0 := Ta 0 _ rfl
  have a1 := Ta 1 _ rfl
  have a2 := Ta 2 _ rfl
  have a3 := Ta 3 _ rfl
  have a4 := Ta 4 _ rfl
  have r0 := Tr 0 _ rfl
  have r1 := Tr 1 _ rfl
  have r2 := Tr 2 _ rfl
  have r3 := Tr 3 _ rfl
  have r4 := Tr 4 _ rfl
  have r5 := Tr 5 _ rfl
  have r6 := Tr 6 _ rfl
  have r7 := Tr 7 _ rfl
  go_region
  go_wp2_with fail
  clear o0 fo0 o1 fo1 o2 fo2 o3 fo3 o4 fo4 q0 fq0 q1 fq1 q2 fq2 q3 fq3 q4 fq4 q5 fq5 q6 fq6 q7 fq7 a0 a1 a2 a3 a4 r0 r1 r2 r3 r4 r5 r6 r7
  replace To := To.set 0 (.int .i64 3) (by simp)
  replace Tq := Tq.other (k' := w.heap.size + 2) (by omega) 0 (.int .i64 3)
  replace Ta := Ta.other (k' := w.heap.size + 2) (by omega) 0 (.int .i64 3)
  replace Tr := Tr.other (k' := w.heap.size + 2) (by omega) 0 (.int .i64 3)
  replace Fo := Fo.set ⟨w.heap.size + 2, 0, none⟩ (.int .i64 3)
  replace Fq := Fq.set ⟨w.heap.size + 2, 0, none⟩ (.int .i64 3)
  replace BB := BB.setCell (p := ⟨w.heap.size + 2, 0, none⟩) (by first | exact Nat.le_refl _ | (simp only; omega)) (.int .i64 3)
  replace To := To.set 1 (.int .i64 sp) (by simp)
  replace Tq := Tq.other (k' := w.heap.size + 2) (by omega) 1 (.int .i64 sp)
  replace Ta := Ta.other (k' := w.heap.size + 2) (by omega) 1 (.int .i64 sp)
  replace Tr := Tr.other (k' := w.heap.size + 2) (by omega) 1 (.int .i64 sp)
  replace Fo := Fo.set ⟨w.heap.size + 2, 1, none⟩ (.int .i64 sp)
  replace Fq := Fq.set ⟨w.heap.size + 2, 1, none⟩ (.int .i64 sp)
  replace BB := BB.setCell (p := ⟨w.heap.size + 2, 1, none⟩) (by first | exact Nat.le_refl _ | (simp only; omega)) (.int .i64 sp)
  replace To := To.set 2 (.int .i64 jn) (by simp)
  replace Tq := Tq.other (k' := w.heap.size + 2) (by omega) 2 (.int .i64 jn)
  replace Ta := Ta.other (k' := w.heap.size + 2) (by omega) 2 (.int .i64 jn)
  replace Tr := Tr.other (k' := w.heap.size + 2) (by omega) 2 (.int .i64 jn)
  replace Fo := Fo.set ⟨w.heap.size + 2, 2, none⟩ (.int .i64 jn)
  replace Fq := Fq.set ⟨w.heap.size + 2, 2, none⟩ (.int .i64 jn)
  replace BB := BB.setCell (p := ⟨w.heap.size + 2, 2, none⟩) (by first | exact Nat.le_refl _ | (simp only; omega)) (.int .i64 jn)
  replace To := To.set 3 (.int .i64 si) (by simp)
  replace Tq := Tq.other (k' := w.heap.size + 2) (by omega) 3 (.int .i64 si)
  replace Ta := Ta.other (k' := w.heap.size + 2) (by omega) 3 (.int .i64 si)
  replace Tr := Tr.other (k' := w.heap.size + 2) (by omega) 3 (.int .i64 si)
  replace Fo := Fo.set ⟨w.heap.size + 2, 3, none⟩ (.int .i64 si)
  replace Fq := Fq.set ⟨w.heap.size + 2, 3, none⟩ (.int .i64 si)
  replace BB := BB.setCell (p := ⟨w.heap.size + 2, 3, none⟩) (by first | exact Nat.le_refl _ | (simp only; omega)) (.int .i64 si)
  replace To := To.set 4 (.int .i64 tr) (by simp)
  replace Tq := Tq.other (k' := w.heap.size + 2) (by omega) 4 (.int .i64 tr)
  replace Ta := Ta.other (k' := w.heap.size + 2) (by omega) 4 (.int .i64 tr)
  replace Tr := Tr.other (k' := w.heap.size + 2) (by omega) 4 (.int .i64 tr)
  replace Fo := Fo.set ⟨w.heap.size + 2, 4, none⟩ (.int .i64 tr)
  replace Fq := Fq.set ⟨w.heap.size + 2, 4, none⟩ (.int .i64 tr)
  replace BB := BB.setCell (p := ⟨w.heap.size + 2, 4, none⟩) (by first | exact Nat.le_refl _ | (simp only; omega)) (.int .i64 tr)
  obtain ⟨V7, hV7⟩ : ∃ V7, ((((V6.setCell ⟨w.heap.size + 2, 0, none⟩ (.int .i64 3)).setCell ⟨w.heap.size + 2, 1, none⟩ (.int .i64 sp)).setCell ⟨w.heap.size + 2, 2, none⟩ (.int .i64 jn)).setCell ⟨w.heap.size + 2, 3, none⟩ (.int .i64 si)).setCell ⟨w.heap.size + 2, 4, none⟩ (.int .i64 tr) = V7 := ⟨_, rfl⟩
  rw [hV7] at BB To Tq Ta Tr Fo Fq ⊢
  clear hV7
  replace Tq := Tq.set 0 (.int .i64 0) (by simp)
  replace To := To.other (k' := w.heap.size + 3) (by omega) 0 (.int .i64 0)
  replace Ta := Ta.other (k' := w.heap.size + 3) (by omega) 0 (.int .i64 0)
  replace Tr := Tr.other (k' := w.heap.size + 3) (by omega) 0 (.int .i64 0)
  replace Fo := Fo.set ⟨w.heap.size + 3, 0, none⟩ (.int .i64 0)
  replace Fq := Fq.set ⟨w.heap.size + 3, 0, none⟩ (.int .i64 0)
  replace BB := BB.setCell (p := ⟨w.heap.size + 3, 0, none⟩) (by first | exact Nat.le_refl _ | (simp only; omega)) (.int .i64 0)
  replace Tq := Tq.set 1 (.int .i64 0) (by simp)
  replace To := To.other (k' := w.heap.size + 3) (by omega) 1 (.int .i64 0)
  replace Ta := Ta.other (k' := w.heap.size + 3) (by omega) 1 (.int .i64 0)
  replace Tr := Tr.other (k' := w.heap.size + 3) (by omega) 1 (.int .i64 0)
  replace Fo := Fo.set ⟨w.heap.size + 3, 1, none⟩ (.int .i64 0)
  replace Fq := Fq.set ⟨w.heap.size + 3, 1, none⟩ (.int .i64 0)
  replace BB := BB.setCell (p := ⟨w.heap.size + 3, 1, none⟩) (by first | exact Nat.le_refl _ | (simp only; omega)) (.int .i64 0)
  replace Tq := Tq.set 2 (.int .i64 0) (by simp)
  replace To := To.other (k' := w.heap.size + 3) (by omega) 2 (.int .i64 0)
  replace Ta := Ta.other (k' := w.heap.size + 3) (by omega) 2 (.int .i64 0)
  replace Tr := Tr.other (k' := w.heap.size + 3) (by omega) 2 (.int .i64 0)
  replace Fo := Fo.set ⟨w.heap.size + 3, 2, none⟩ (.int .i64 0)
  replace Fq := Fq.set ⟨w.heap.size + 3, 2, none⟩ (.int .i64 0)
  replace BB := BB.setCell (p := ⟨w.heap.size + 3, 2, none⟩) (by first | exact Nat.le_refl _ | (simp only; omega)) (.int .i64 0)
  replace Tq := Tq.set 3 (.int .i64 0) (by simp)
  replace To := To.other (k' := w.heap.size + 3) (by omega) 3 (.int .i64 0)
  replace Ta := Ta.other (k' := w.heap.size + 3) (by omega) 3 (.int .i64 0)
  replace Tr := Tr.other (k' := w.heap.size + 3) (by omega) 3 (.int .i64 0)
  replace Fo := Fo.set ⟨w.heap.size + 3, 3, none⟩ (.int .i64 0)
  replace Fq := Fq.set ⟨w.heap.size + 3, 3, none⟩ (.int .i64 0)
  replace BB := BB.setCell (p := ⟨w.heap.size + 3, 3, none⟩) (by first | exact Nat.le_refl _ | (simp only; omega)) (.int .i64 0)
  replace Tq := Tq.set 4 (.int .i64 0) (by simp)
  replace To := To.other (k' := w.heap.size + 3) (by omega) 4 (.int .i64 0)
  replace Ta := Ta.other (k' := w.heap.size + 3) (by omega) 4 (.int .i64 0)
  replace Tr := Tr.other (k' := w.heap.size + 3) (by omega) 4 (.int .i64 0)
  replace Fo := Fo.set ⟨w.heap.size + 3, 4, none⟩ (.int .i64 0)
  replace Fq := Fq.set ⟨w.heap.size + 3, 4, none⟩ (.int .i64 0)
  replace BB := BB.setCell (p := ⟨w.heap.size + 3, 4, none⟩) (by first | exact Nat.le_refl _ | (simp only; omega)) (.int .i64 0)
  replace Tq := Tq.set 5 (.int .i64 0) (by simp)
  replace To := To.other (k' := w.heap.size + 3) (by omega) 5 (.int .i64 0)
  replace Ta := Ta.other (k' := w.heap.size + 3) (by omega) 5 (.int .i64 0)
  replace Tr := Tr.other (k' := w.heap.size + 3) (by omega) 5 (.int .i64 0)
  replace Fo := Fo.set ⟨w.heap.size + 3, 5, none⟩ (.int .i64 0)
  replace Fq := Fq.set ⟨w.heap.size + 3, 5, none⟩ (.int .i64 0)
  replace BB := BB.setCell (p := ⟨w.heap.size + 3, 5, none⟩) (by first | exact Nat.le_refl _ | (simp only; omega)) (.int .i64 0)
  replace Tq := Tq.set 6 (.int .i64 0) (by simp)
  replace To := To.other (k' := w.heap.size + 3) (by omega) 6 (.int .i64 0)
  replace Ta := Ta.other (k' := w.heap.size + 3) (by omega) 6 (.int .i64 0)
  replace Tr := Tr.other (k' := w.heap.size + 3) (by omega) 6 (.int .i64 0)
  replace Fo := Fo.set ⟨w.heap.size + 3, 6, none⟩ (.int .i64 0)
  replace Fq := Fq.set ⟨w.heap.size + 3, 6, none⟩ (.int .i64 0)
  replace BB := BB.setCell (p := ⟨w.heap.size + 3, 6, none⟩) (by first | exact Nat.le_refl _ | (simp only; omega)) (.int .i64 0)
  replace Tq := Tq.set 7 (.int .i64 0) (by simp)
  replace To := To.other (k' := w.heap.size + 3) (by omega) 7 (.int .i64 0)
  replace Ta := Ta.other (k' := w.heap.size + 3) (by omega) 7 (.int .i64 0)
  replace Tr := Tr.other (k' := w.heap.size + 3) (by omega) 7 (.int .i64 0)
  replace Fo := Fo.set ⟨w.heap.size + 3, 7, none⟩ (.int .i64 0)
  replace Fq := Fq.set ⟨w.heap.size + 3, 7, none⟩ (.int .i64 0)
  replace BB := BB.setCell (p := ⟨w.heap.size + 3, 7, none⟩) (by first | exact Nat.le_refl _ | (simp only; omega)) (.int .i64 0)
  obtain ⟨V8, hV8⟩ : ∃ V8, (((((((V7.setCell ⟨w.heap.size + 3, 0, none⟩ (.int .i64 0)).setCell ⟨w.heap.size + 3, 1, none⟩ (.int .i64 0)).setCell ⟨w.heap.size + 3, 2, none⟩ (.int .i64 0)).setCell ⟨w.heap.size + 3, 3, none⟩ (.int .i64 0)).setCell ⟨w.heap.size + 3, 4, none⟩ (.int .i64 0)).setCell ⟨w.heap.size + 3, 5, none⟩ (.int .i64 0)).setCell ⟨w.heap.size + 3, 6, none⟩ (.int .i64 0)).setCell ⟨w.heap.size + 3, 7, none⟩ (.int .i64 0) = V8 := ⟨_, rfl⟩
  rw [hV8] at BB To Tq Ta Tr Fo Fq ⊢
  clear hV8
  replace To := To.drew
  replace Tq := Tq.drew
  replace Ta := Ta.drew
  replace Tr := Tr.drew
  replace Fo := Fo.drew
  replace Fq := Fq.drew
  replace BB : Below w.heap.size w V8.drew := ⟨BB.os, BB.tape, BB.output, BB.size, BB.block⟩
  obtain ⟨V9, hV9⟩ : ∃ V9, V8.drew = V9 := ⟨_, rfl⟩
  rw [hV9] at BB To Tq Ta Tr Fo Fq ⊢
  clear hV9
  have o0 := To 0 _ rfl
  have fo0 := Fo.1 0
  have o1 := To 1 _ rfl
  have fo1 := Fo.1 1
  have o2 := To 2 _ rfl
  have fo2 := Fo.1 2
  have o3 := To 3 _ rfl
  have fo3 := Fo.1 3
  have o4 := To 4 _ rfl
  have fo4 := Fo.1 4
  have q0 := Tq 0 _ rfl
  have fq0 := Fq.1 0
  have q1 := Tq 1 _ rfl
  have fq1 := Fq.1 1
  have q2 := Tq 2 _ rfl
  have fq2 := Fq.1 2
  have q3 := Tq 3 _ rfl
  have fq3 := Fq.1 3
  have q4 := Tq 4 _ rfl
  have fq4 := Fq.1 4
  have q5 := Tq 5 _ rfl
  have fq5 := Fq.1 5
  have q6 := Tq 6 _ rfl
  have fq6 := Fq.1 6
  have q7 := Tq 7 _ rfl
  have fq7 := Fq.1 7
  refine bodyPost_ret (v := .tuple #[(⟨3, sp, jn, si, tr⟩ : Jn).v, (zWd : Wd).v, .bool true]) (by simp [results, Tryd.results23, go_sem, o0, o1, o2, o3, o4, q0, q1, q2, q3, q4, q5, q6, q7]) rfl ⟨rfl, BB⟩
end Go.Proofs.YtgmabjlehjpboaaDoor
