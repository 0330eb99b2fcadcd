/- Proved: the welcomes of the root for the proofs of a sponsor. Conditions: the list is valid and lies in memory. -/
import Derived.Test.YtgmabjlehjpboaaDoorT25
namespace Go.Proofs.YtgmabjlehjpboaaDoor
open Go.RowKit Go.Sort Go.BigFrame Go.Proofs.YtgmabjlehjpboaaDoor.K
set_option linter.unusedVariables false
set_option linter.unusedSimpArgs false
attribute [local go_sem] cell_alloc_old

open Go.Maps Go.Shelf
/-- The welcomes for words. -/
def welcF (W : List Wd) (ra rb : Int) : List Wd := (W.filter fun x => judgeE x ra rb == 0).map fun x => judgeV x ra rb
theorem welc_snoc {W : List Wd} {ra rb : Int} {k : Nat} (hk : k < W.length) : welcF (W.take (k + 1)) ra rb = if (judgeE (W.getD k default) ra rb == 0) = true then welcF (W.take k) ra rb ++ [judgeV (W.getD k default) ra rb] else welcF (W.take k) ra rb := by
  unfold welcF
  rw [filter_snoc _ hk, List.map_append]
  split <;> simp
theorem welc_len {W : List Wd} {ra rb : Int} (k : Nat) : (welcF (W.take k) ra rb).length ≤ k := by
  unfold welcF; rw [List.length_map]; exact filter_len_le _ _ _
theorem told_len {l : List Hf} {me kind : Int} {pr : Bool} (ok : OkL l) : (toldV l me kind pr).length ≤ 4 := by
  unfold toldV
  split
  · rw [List.length_map]; exact Nat.le_trans (List.length_filter_le _ _) ok.len
  · simp
set_option maxRecDepth 100000 in
set_option maxHeartbeats 4000000 in
theorem welcomes_at (l : List Hf) (n : Nat) (a : Option Addr) (cap : Nat) (me ra rb : Int) (w : World) (ok : OkL l) (hn : Hid (n = l.length)) (hl : HsAt w a l) : Calls Tryd.prog 11 #[.slice a n cap, .int .i64 me, .agg #[.int .i64 ra, .int .i64 rb]] w (WordsPost (welcF (toldV l me 3 true) ra rb) w) := by
  obtain ⟨i0, hi0, hz0, hz1, hz2⟩ := info_parts info43
  have OK := Lib.hid ok; clear ok
  obtain ⟨W, hW⟩ : ∃ W, toldV l me 3 true = W := ⟨_, rfl⟩
  rw [hW]
  have HW := Lib.hid hW; clear hW
  go_enter Tryd.func11, Tryd.ntmps11
  go_upto_region 2 with (fail)
  have Tg := CAt.new (w) [.int .i64 ra, .int .i64 rb] 35
  have BB : Below w.heap.size w ((w).alloc (.cells #[.int .i64 ra, .int .i64 rb] 35)) := ball (Below.refl _ _) _
  obtain ⟨V1, hV1⟩ : ∃ V1, w.alloc (.cells #[.int .i64 ra, .int .i64 rb] 35) = V1 := ⟨_, rfl⟩
  rw [hV1] at BB Tg ⊢
  clear hV1
  go_wp2_with fail
  refine (proofs_at l n a cap me V1 OK.out hn (hl.keep BB)).mono ?_
  rintro e w1 ⟨a1, m1, c1, rfl, hm1, hw1, b1, f1⟩
  have hm4 : m1 ≤ 4 := by rw [hm1.out]; exact told_len OK.out
  replace Tg := Tg.keep b1
  have BB0 := bstep BB b1
  clear b1 f1 BB
  have hW := HW.out
  rw [hW] at hm1 hw1
  clear hW
  go_wp2_with fail
  go_loopw [7, 16] (fun v i wr => ∃ k : Nat, k ≤ m1 ∧ i = .int .i64 k ∧ OwnG Wd.cs 43 8 wr w1.heap.size v (welcF (W.take k) ra rb) ∧ Below w1.heap.size w1 wr) (fun _ i _ => m1 - (intOf i).toNat)
  case atStart => exact ⟨0, Nat.zero_le _, rfl, OwnG.nil _ _ _ _ _, Below.refl _ _⟩
  case round =>
    obtain ⟨k, hk, rfl, hown, BB⟩ := hrel
    by_cases hlt : k < m1
    · have hlt' : (k : Int) < (m1 : Int) := by omega
      have hk0 : (0 : Int) ≤ (k : Int) := by omega
      have hwk : IntKind.i64.wrap ((k : Int) + 1) = (k : Int) + 1 := IntWalk.i64_in _ (by omega)
      have Tg2 := Tg.keep BB
      obtain ⟨b, off, e1, c0, c1', c2, c3, c4, c5, c6, c7⟩ := hw1.wd BB (i := k) (by rw [← hm1.out]; exact hlt)
      have hsn := welc_snoc (W := W) (ra := ra) (rb := rb) (k := k) (by rw [← hm1.out]; exact hlt)
      have hlen := welc_len (W := W) (ra := ra) (rb := rb) k
      obtain ⟨x, hx⟩ : ∃ x, W.getD k default = x := ⟨_, rfl⟩
      rw [hx] at c0 c1' c2 c3 c4 c5 c6 c7 hsn
      clear hx
      subst e1
      obtain ⟨O, hO⟩ : ∃ O, welcF (W.take k) ra rb = O := ⟨_, rfl⟩
      rw [hO] at hown hsn hlen
      clear hO
      have HL := Lib.hid hlen; clear hlen
      obtain ⟨ev, hev⟩ : ∃ ev, judgeE x ra rb = ev := ⟨_, rfl⟩
      obtain ⟨v, hv⟩ : ∃ v, judgeV x ra rb = v := ⟨_, rfl⟩
      rw [hev, hv] at hsn
      have HE := Lib.hid hev; have HV := Lib.hid hv
      clear hev hv
      replace Tg := Tg2; clear Tg2
      go_upto_region 5 with (fail)
      clear c0 c1' c2 c3 c4 c5 c6 c7
      have bs2 : w1.heap.size ≤ wr.heap.size := BB.size
      have lt2g : w.heap.size < wr.heap.size := World.block_lt_of_cell? wr ⟨w.heap.size, 0, none⟩ (Tg 0 _ rfl)
      have Tp := CAt.new (wr) [.int .i64 x.k, .int .i64 x.s, .int .i64 x.p, .int .i64 x.n, .int .i64 x.c, .int .i64 x.key, .int .i64 x.f, .int .i64 x.x] 43
      replace Tg := Tg.alloc (.cells #[.int .i64 x.k, .int .i64 x.s, .int .i64 x.p, .int .i64 x.n, .int .i64 x.c, .int .i64 x.key, .int .i64 x.f, .int .i64 x.x] 43)
      replace hown := hown.keep (Below.alloc (Below.refl _ (wr)) (Nat.le_refl _) (.cells #[.int .i64 x.k, .int .i64 x.s, .int .i64 x.p, .int .i64 x.n, .int .i64 x.c, .int .i64 x.key, .int .i64 x.f, .int .i64 x.x] 43))
      replace BB := ball BB (.cells #[.int .i64 x.k, .int .i64 x.s, .int .i64 x.p, .int .i64 x.n, .int .i64 x.c, .int .i64 x.key, .int .i64 x.f, .int .i64 x.x] 43)
      obtain ⟨V2, hV2⟩ : ∃ V2, wr.alloc (.cells #[.int .i64 x.k, .int .i64 x.s, .int .i64 x.p, .int .i64 x.n, .int .i64 x.c, .int .i64 x.key, .int .i64 x.f, .int .i64 x.x] 43) = V2 := ⟨_, rfl⟩
      rw [hV2] at BB Tg Tp hown ⊢
      clear hV2
      obtain ⟨k2, hk2⟩ : ∃ k2, wr.heap.size = k2 := ⟨_, rfl⟩
      rw [hk2] at Tp bs2 lt2g ⊢
      clear hk2
      have p0 := Tp 0 _ rfl
      have p1 := Tp 1 _ rfl
      have p2 := Tp 2 _ rfl
      have p3 := Tp 3 _ rfl
      have p4 := Tp 4 _ rfl
      have p5 := Tp 5 _ rfl
      have p6 := Tp 6 _ rfl
      have p7 := Tp 7 _ rfl
      have g0 := Tg 0 _ rfl
      have g1 := Tg 1 _ rfl
      go_wp2_with fail
      refine (judge_at x ra rb v ev V2 HV.out HE.out).mono ?_
      clear p0 p1 p2 p3 p4 p5 p6 p7 g0 g1
      rintro e w3 ⟨rfl, b3⟩
      replace Tg := Tg.keep b3
      replace Tp := Tp.keep b3
      replace hown := hown.keep b3
      replace BB := bstep BB b3
      clear b3
      go_upto_region 6 with (fail)
      have bs4 : w1.heap.size ≤ w3.heap.size := BB.size
      have lt4g : w.heap.size < w3.heap.size := World.block_lt_of_cell? w3 ⟨w.heap.size, 0, none⟩ (Tg 0 _ rfl)
      have lt4p : k2 < w3.heap.size := World.block_lt_of_cell? w3 ⟨k2, 0, none⟩ (Tp 0 _ rfl)
      have Tq := CAt.new (w3) [.int .i64 v.k, .int .i64 v.s, .int .i64 v.p, .int .i64 v.n, .int .i64 v.c, .int .i64 v.key, .int .i64 v.f, .int .i64 v.x] 43
      replace Tg := Tg.alloc (.cells #[.int .i64 v.k, .int .i64 v.s, .int .i64 v.p, .int .i64 v.n, .int .i64 v.c, .int .i64 v.key, .int .i64 v.f, .int .i64 v.x] 43)
      replace Tp := Tp.alloc (.cells #[.int .i64 v.k, .int .i64 v.s, .int .i64 v.p, .int .i64 v.n, .int .i64 v.c, .int .i64 v.key, .int .i64 v.f, .int .i64 v.x] 43)
      replace hown := hown.keep (Below.alloc (Below.refl _ (w3)) (Nat.le_refl _) (.cells #[.int .i64 v.k, .int .i64 v.s, .int .i64 v.p, .int .i64 v.n, .int .i64 v.c, .int .i64 v.key, .int .i64 v.f, .int .i64 v.x] 43))
      replace BB := ball BB (.cells #[.int .i64 v.k, .int .i64 v.s, .int .i64 v.p, .int .i64 v.n, .int .i64 v.c, .int .i64 v.key, .int .i64 v.f, .int .i64 v.x] 43)
      obtain ⟨V4, hV4⟩ : ∃ V4, w3.alloc (.cells #[.int .i64 v.k, .int .i64 v.s, .int .i64 v.p, .int .i64 v.n, .int .i64 v.c, .int .i64 v.key, .int .i64 v.f, .int .i64 v.x] 43) = V4 := ⟨_, rfl⟩
      rw [hV4] at BB Tg Tp Tq hown ⊢
      clear hV4
      obtain ⟨k4, hk4⟩ : ∃ k4, w3.heap.size = k4 := ⟨_, rfl⟩
      rw [hk4] at Tq bs4 lt4g lt4p ⊢
      clear hk4
      by_cases hp : (ev == 0) = true
      · rw [if_pos hp] at hsn
        have HS := Lib.hid hsn; clear hsn
        have q0 := Tq 0 _ rfl
        have q1 := Tq 1 _ rfl
        have q2 := Tq 2 _ rfl
        have q3 := Tq 3 _ rfl
        have q4 := Tq 4 _ rfl
        have q5 := Tq 5 _ rfl
        have q6 := Tq 6 _ rfl
        have q7 := Tq 7 _ rfl
        go_wp2_with (first
          | (at_builtin; refine wpList_append_own _ rfl _ _ 37 rfl w1.heap.size 43 i0 _ 8 64 Tryd.underlying37 hi0 hz0 hz1 hz2 rfl (by decide) _ _ _ rfl (World.ownsRow.alloc hown _) ⟨V4.heap.size, 0, none⟩ 1 1 v.cs rfl rfl (flat_new _ _ _) (wd_one _) (by have := HL.out; unfold maxLen; omega) (by have := HL.out; omega) (by have := BB.size; simp; omega) ?_; intro v' w4 hown' hgrow _))
        clear q0 q1 q2 q3 q4 q5 q6 q7
        have hB4 := OwnG.grown BB hown (Nat.le_refl _) hgrow
        have hown2 := OwnG.push hown'
        rw [← HS.out] at hown2
        clear hown' hgrow
        go_wp2_with fail
        go_roundw
        case rel => exact ⟨k + 1, by omega, by go_num, hown2, hB4⟩
        case measure => simp [intOf]; omega
      · rw [if_neg hp] at hsn
        have hp' : (ev == 0) = false := by simpa using hp
        have HS := Lib.hid hsn; clear hsn hp
        have q0 := Tq 0 _ rfl
        have q1 := Tq 1 _ rfl
        have q2 := Tq 2 _ rfl
        have q3 := Tq 3 _ rfl
        have q4 := Tq 4 _ rfl
        have q5 := Tq 5 _ rfl
        have q6 := Tq 6 _ rfl
        have q7 := Tq 7 _ rfl
        go_wp2_with fail
        clear q0 q1 q2 q3 q4 q5 q6 q7
        go_roundw
        case rel => exact ⟨k + 1, by omega, by go_num, by rw [HS.out]; exact hown, BB⟩
        case measure => simp [intOf]; omega
    · have hkn : k = m1 := by omega
      subst hkn
      have hlt' : ¬ (k : Int) < (k : Int) := by omega
      have hall : W.take k = W := by rw [hm1.out]; exact List.take_length
      rw [hall] at hown
      clear hall
      go_wp2_with fail
      go_ret
      obtain ⟨a', c', rfl, hat, _, _⟩ := hown.shape wd_size
      exact ⟨_, _, _, rfl, Lib.hid rfl, hat, bstep BB0 BB, hown.fresh.le BB0.size⟩
end Go.Proofs.YtgmabjlehjpboaaDoor
