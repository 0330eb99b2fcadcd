/- Proved: what the helpers offer and is of the statements return. Conditions: none. -/
import Derived.Test.YtbonchnhngaicaaX9
import Derived.Deep.RegionHeld3
import Derived.Deep.DrawnRows
namespace Go.Proofs.Ytbonchnhngaicaa
open Go.RowKit Go.Sort Go.BigFrame
set_option linter.unusedVariables false
set_option linter.unusedSimpArgs false
attribute [local go_sem] cell_alloc_old
attribute [local go_sem ↓] Go.wp_at_zero Go.wp_at_succ

theorem offer_any (p s r c : Int) (w : World) : Calls Try.prog 30 #[.int .i64 p, .int .i64 s, .int .i64 r, .int .i64 c] w (Gives (.agg #[.int .i64 p, .int .i64 s, .int .i64 r, .int .i64 c]) w) := by
  go_enter Try.func30, Try.ntmps30
  go_wp2_with fail
  refine bodyPost_ret (v := (.agg #[.int .i64 p, .int .i64 s, .int .i64 r, .int .i64 c])) (by simp [results, Try.results30, go_sem]) rfl ⟨rfl, ball (Below.refl _ _) _⟩
theorem is_any (r : Rt) (q own least parent : Int) (w : World) (h : r = ⟨⟨q, own⟩, ⟨q, least⟩, parent⟩) : Calls Try.prog 31 #[r.v, .int .i64 q, .int .i64 own, .int .i64 least, .int .i64 parent] w (Yes true w) := by
  subst h
  go_enter Try.func31, Try.ntmps31
  go_wp2_with fail
  go_ret
  exact ⟨by simp, ball (Below.refl _ _) _⟩
theorem cnew1 (w : World) (o : Obj) (cs : List Value) (ty : TypeId) : CAt ((w.alloc o).alloc (.cells cs.toArray ty)) (w.heap.size + 1) cs := by
  have h := CAt.new (w.alloc o) cs ty
  rwa [World.size_alloc] at h
theorem of1 {w : World} {k : Nat} {p s r c : Int} (h : CAt w k [.int .i64 p, .int .i64 s, .int .i64 r, .int .i64 c]) : OfAt w (some ⟨k, 0, none⟩) [⟨p, ⟨s, r⟩, c⟩] := by
  refine .inr ⟨k, 0, rfl, fun i hi => ?_⟩
  obtain rfl : i = 0 := by simp at hi; exact hi
  exact ⟨h 0 _ rfl, h 1 _ rfl, h 2 _ rfl, h 3 _ rfl⟩
theorem of2 {w : World} {k : Nat} {p s r c p2 s2 r2 c2 : Int} (h : CAt w k [.int .i64 p, .int .i64 s, .int .i64 r, .int .i64 c, .int .i64 p2, .int .i64 s2, .int .i64 r2, .int .i64 c2]) : OfAt w (some ⟨k, 0, none⟩) [⟨p, ⟨s, r⟩, c⟩, ⟨p2, ⟨s2, r2⟩, c2⟩] := by
  refine .inr ⟨k, 0, rfl, fun i hi => ?_⟩
  simp at hi
  match i, hi with
  | 0, _ => exact ⟨h 0 _ rfl, h 1 _ rfl, h 2 _ rfl, h 3 _ rfl⟩
  | 1, _ => exact ⟨h 4 _ rfl, h 5 _ rfl, h 6 _ rfl, h 7 _ rfl⟩

set_option maxRecDepth 100000 in
set_option maxHeartbeats 4000000 in
theorem head_any (w : World) : Calls Try.prog 11 #[] w (Yes true w) := by
  go_enter Try.func11, Try.ntmps11
  go_wp2_with fail
  refine (start_at false 3 ⟨⟨3, 1000000⟩, ⟨3, 0⟩, -1⟩ _ (by decide)).mono ?_
  rintro e w1 ⟨rfl, b1⟩
  have BB := b1
  clear b1
  go_upto_region 2 with (fail)
  have bs2 : w.heap.size ≤ w1.heap.size := BB.size
  have Ts := CAt.new (w1) [.int .i64 3, .int .i64 1000000, .int .i64 3, .int .i64 0, .int .i64 (-1)] 25
  replace BB := ball BB (.cells #[.int .i64 3, .int .i64 1000000, .int .i64 3, .int .i64 0, .int .i64 (-1)] 25)
  obtain ⟨V2, hV2⟩ : ∃ V2, w1.alloc (.cells #[.int .i64 3, .int .i64 1000000, .int .i64 3, .int .i64 0, .int .i64 (-1)] 25) = V2 := ⟨_, rfl⟩
  rw [hV2] at BB Ts ⊢
  clear hV2
  obtain ⟨k2, hk2⟩ : ∃ k2, w1.heap.size = k2 := ⟨_, rfl⟩
  rw [hk2] at Ts bs2 ⊢
  clear hk2
  have s0 := Ts 0 _ rfl
  have s1 := Ts 1 _ rfl
  have s2 := Ts 2 _ rfl
  have s3 := Ts 3 _ rfl
  have s4 := Ts 4 _ rfl
  have lt0 : k2 < V2.heap.size := World.block_lt_of_cell? V2 ⟨k2, 0, none⟩ (Ts 0 _ rfl)
  have lt1 : k2 < V2.heap.size + 1 := by omega
  have lt2 : k2 < V2.heap.size + 1 + 1 := by omega
  have lt3 : k2 < V2.heap.size + 1 + 1 + 1 := by omega
  go_cut [2] (fun sx wx => ∃ b : Nat, sx = .pointer (some ⟨b, 0, none⟩) ∧ V2.heap.size ≤ b ∧ CAt wx b [.int .i64 3, .int .i64 1000000, .int .i64 3, .int .i64 0, .int .i64 (-1)] ∧ Below V2.heap.size V2 wx)
  case first =>
    go_region_held3 (fun w' => w'.cell? ⟨k2, 0, none⟩ = some (.int .i64 3) ∧ w'.cell? ⟨k2, 1, none⟩ = some (.int .i64 1000000) ∧ w'.cell? ⟨k2, 2, none⟩ = some (.int .i64 3) ∧ w'.cell? ⟨k2, 3, none⟩ = some (.int .i64 0) ∧ w'.cell? ⟨k2, 4, none⟩ = some (.int .i64 (-1)))
      (first | go_keep)
      (first
        | (go_at_call 30
           refine (offer_any _ _ _ _ _).mono ?_
           rintro e w9 ⟨rfl, bw9⟩
           have Tw9 : CAt w9 k2 [.int .i64 3, .int .i64 1000000, .int .i64 3, .int .i64 0, .int .i64 (-1)] := by
             refine CAt.keep ?_ bw9
             repeat (first | exact Ts | refine CAt.drew ?_ | refine CAt.alloc ?_ _)
           have dw90 := Tw9 0 _ rfl
           have dw91 := Tw9 1 _ rfl
           have dw92 := Tw9 2 _ rfl
           have dw93 := Tw9 3 _ rfl
           have dw94 := Tw9 4 _ rfl
           have Bw9 : Below V2.heap.size V2 w9 := by
             refine bstep ?_ bw9
             repeat (first | exact Below.refl _ _ | refine Below.drew ?_ | refine ball ?_ _)
           have hzw9 : V2.heap.size ≤ w9.heap.size := Bw9.size
           have hkw9 : k2 < w9.heap.size := by omega
           first
             | (have Zw9 : CAt w9 V2.heap.size [.int .i64 0, .int .i64 0, .int .i64 0, .int .i64 0, .int .i64 0] := by
                  refine CAt.keep ?_ bw9
                  first | exact CAt.new _ _ _ | exact CAt.drew (CAt.new _ _ _)
                have Fw9 : Fz w9 V2.heap.size := by
                  refine Fz.keep ?_ bw9
                  first | exact Fz.new _ _ _ | exact Fz.drew (Fz.new _ _ _)
                have yw90 := Zw9 0 _ rfl
                have yw91 := Zw9 1 _ rfl
                have yw92 := Zw9 2 _ rfl
                have yw93 := Zw9 3 _ rfl
                have yw94 := Zw9 4 _ rfl
                have gw90 := Fw9.1 0
                have gw91 := Fw9.1 1
                have gw92 := Fw9.1 2
                have gw93 := Fw9.1 3
                have gw94 := Fw9.1 4
                have xw91 : ¬ V2.heap.size = k2 := by omega
                have xw92 : ¬ k2 = V2.heap.size := by omega
                have xw93 : V2.heap.size < w9.heap.size := Fw9.2
                have hbw9 : V2.heap.size ≤ V2.heap.size := by omega)
             | (skip))
        | (go_at_call 18
           refine (choose_at ⟨⟨3, 1000000⟩, ⟨3, 0⟩, (-1)⟩ ⟨⟨3, 1000000⟩, ⟨3, 0⟩, (-1)⟩ 1 _ 1 [⟨0, ⟨3, 0⟩, 128⟩] _ rfl (by first | exact of1 (CAt.new _ _ _) | exact of1 ((CAt.new _ _ _).alloc _) | exact of1 (cnew1 _ _ _ _)) (by simp [maxLen]) (by decide)).mono ?_
           rintro e w8 ⟨rfl, bw8⟩
           have Tw8 : CAt w8 k2 [.int .i64 3, .int .i64 1000000, .int .i64 3, .int .i64 0, .int .i64 (-1)] := by
             refine CAt.keep ?_ bw8
             repeat (first | exact Ts | exact Tw9 | refine CAt.drew ?_ | refine CAt.alloc ?_ _)
           have dw80 := Tw8 0 _ rfl
           have dw81 := Tw8 1 _ rfl
           have dw82 := Tw8 2 _ rfl
           have dw83 := Tw8 3 _ rfl
           have dw84 := Tw8 4 _ rfl
           have Bw8 : Below V2.heap.size V2 w8 := by
             refine bstep ?_ bw8
             repeat (first | exact Bw9 | exact Below.refl _ _ | refine Below.drew ?_ | refine ball ?_ _)
           have hzw8 : V2.heap.size ≤ w8.heap.size := Bw8.size
           have hkw8 : k2 < w8.heap.size := by omega
           first
             | (have _ := Zw9
                have Zw8 : CAt w8 V2.heap.size [.int .i64 0, .int .i64 0, .int .i64 0, .int .i64 0, .int .i64 0] := by
                  refine CAt.keep ?_ bw8
                  first | exact Zw9 | exact Zw9.drew | exact Zw9.alloc _ | exact Zw9.drew.alloc _ | exact (Zw9.alloc _).alloc _
                have Fw8 : Fz w8 V2.heap.size := by
                  refine Fz.keep ?_ bw8
                  first | exact Fw9 | exact Fw9.drew | exact Fw9.alloc _ | exact Fw9.drew.alloc _ | exact (Fw9.alloc _).alloc _
                have yw80 := Zw8 0 _ rfl
                have yw81 := Zw8 1 _ rfl
                have yw82 := Zw8 2 _ rfl
                have yw83 := Zw8 3 _ rfl
                have yw84 := Zw8 4 _ rfl
                have gw80 := Fw8.1 0
                have gw81 := Fw8.1 1
                have gw82 := Fw8.1 2
                have gw83 := Fw8.1 3
                have gw84 := Fw8.1 4
                have xw81 : ¬ V2.heap.size = k2 := by omega
                have xw82 : ¬ k2 = V2.heap.size := by omega
                have xw83 : V2.heap.size < w8.heap.size := Fw8.2
                have hbw8 : V2.heap.size ≤ V2.heap.size := by omega)
             | (have Zw8 : CAt w8 w9.heap.size [.int .i64 0, .int .i64 0, .int .i64 0, .int .i64 0, .int .i64 0] := by
                  refine CAt.keep ?_ bw8
                  first | exact (CAt.new _ _ _).alloc _ | exact (CAt.drew (CAt.new _ _ _)).alloc _
                have Fw8 : Fz w8 w9.heap.size := by
                  refine Fz.keep ?_ bw8
                  first | exact (Fz.new _ _ _).alloc _ | exact (Fz.drew (Fz.new _ _ _)).alloc _
                have yw80 := Zw8 0 _ rfl
                have yw81 := Zw8 1 _ rfl
                have yw82 := Zw8 2 _ rfl
                have yw83 := Zw8 3 _ rfl
                have yw84 := Zw8 4 _ rfl
                have gw80 := Fw8.1 0
                have gw81 := Fw8.1 1
                have gw82 := Fw8.1 2
                have gw83 := Fw8.1 3
                have gw84 := Fw8.1 4
                have xw81 : ¬ w9.heap.size = k2 := by omega
                have xw82 : ¬ k2 = w9.heap.size := by omega
                have xw83 : w9.heap.size < w8.heap.size := Fw8.2
                have hbw8 : V2.heap.size ≤ w9.heap.size := by omega)
             | (have Zw8 : CAt w8 (w9.heap.size + 1) [.int .i64 0, .int .i64 0, .int .i64 0, .int .i64 0, .int .i64 0] := by
                  refine CAt.keep ?_ bw8
                  have h9 := CAt.new (w9.alloc (.cells #[.int .i64 0, .int .i64 3, .int .i64 0, .int .i64 128] 40)) [.int .i64 0, .int .i64 0, .int .i64 0, .int .i64 0, .int .i64 0] 25; simpa only [World.size_alloc] using h9
                have Fw8 : Fz w8 (w9.heap.size + 1) := by
                  refine Fz.keep ?_ bw8
                  have h9 := Fz.new (w9.alloc (.cells #[.int .i64 0, .int .i64 3, .int .i64 0, .int .i64 128] 40)) #[.int .i64 0, .int .i64 0, .int .i64 0, .int .i64 0, .int .i64 0] 25; simpa only [World.size_alloc] using h9
                have yw80 := Zw8 0 _ rfl
                have yw81 := Zw8 1 _ rfl
                have yw82 := Zw8 2 _ rfl
                have yw83 := Zw8 3 _ rfl
                have yw84 := Zw8 4 _ rfl
                have gw80 := Fw8.1 0
                have gw81 := Fw8.1 1
                have gw82 := Fw8.1 2
                have gw83 := Fw8.1 3
                have gw84 := Fw8.1 4
                have xw81 : ¬ (w9.heap.size + 1) = k2 := by omega
                have xw82 : ¬ k2 = (w9.heap.size + 1) := by omega
                have xw83 : (w9.heap.size + 1) < w8.heap.size := Fw8.2
                have hbw8 : V2.heap.size ≤ (w9.heap.size + 1) := by omega)
             | (skip)))
    all_goals go_wp2_with fail
    all_goals go_meet
    all_goals first
      | (have hz1 := (((((Zw8.set 0 (.int .i64 3) (by simp)).set 1 (.int .i64 1000000) (by simp)).set 2 (.int .i64 3) (by simp)).set 3 (.int .i64 0) (by simp)).set 4 (.int .i64 (-1)) (by simp))
         have hz2 := (((((Bw8.setCell (p := ⟨_, 0, none⟩) hbw8 (.int .i64 3)).setCell (p := ⟨_, 1, none⟩) hbw8 (.int .i64 1000000)).setCell (p := ⟨_, 2, none⟩) hbw8 (.int .i64 3)).setCell (p := ⟨_, 3, none⟩) hbw8 (.int .i64 0)).setCell (p := ⟨_, 4, none⟩) hbw8 (.int .i64 (-1)))
         exact ⟨_, rfl, hbw8, hz1, hz2⟩)
      | exact ⟨_, rfl, hzw8, CAt.new _ _ _, ball Bw8 _⟩
  case rest =>
    clear s0 s1 s2 s3 s4
    obtain ⟨ka, rfl, hle, Ta, hB⟩ := hcut
    obtain ⟨W2, hW2⟩ : ∃ W2, W2 = wc := ⟨_, rfl⟩
    subst hW2
    replace Ts := Ts.keep hB
    replace BB := bstep BB hB
    clear hB hle lt0 lt1 lt2 lt3
    go_upto_region 3 with (fail)
    have s0 := Ts 0 _ rfl
    have s1 := Ts 1 _ rfl
    have s2 := Ts 2 _ rfl
    have s3 := Ts 3 _ rfl
    have s4 := Ts 4 _ rfl
    have lt0 : k2 < W2.heap.size := World.block_lt_of_cell? W2 ⟨k2, 0, none⟩ (Ts 0 _ rfl)
    have lt1 : k2 < W2.heap.size + 1 := by omega
    have lt2 : k2 < W2.heap.size + 1 + 1 := by omega
    have lt3 : k2 < W2.heap.size + 1 + 1 + 1 := by omega
    go_cut [3] (fun sx wx => ∃ b : Nat, sx = .pointer (some ⟨b, 0, none⟩) ∧ W2.heap.size ≤ b ∧ CAt wx b [.int .i64 4, .int .i64 128, .int .i64 4, .int .i64 128, .int .i64 0] ∧ Below W2.heap.size W2 wx)
    case first =>
      go_region_held3 (fun w' => w'.cell? ⟨k2, 0, none⟩ = some (.int .i64 3) ∧ w'.cell? ⟨k2, 1, none⟩ = some (.int .i64 1000000) ∧ w'.cell? ⟨k2, 2, none⟩ = some (.int .i64 3) ∧ w'.cell? ⟨k2, 3, none⟩ = some (.int .i64 0) ∧ w'.cell? ⟨k2, 4, none⟩ = some (.int .i64 (-1)))
        (first | go_keep)
        (first
          | (go_at_call 30
             refine (offer_any _ _ _ _ _).mono ?_
             rintro e w9 ⟨rfl, bw9⟩
             have Tw9 : CAt w9 k2 [.int .i64 3, .int .i64 1000000, .int .i64 3, .int .i64 0, .int .i64 (-1)] := by
               refine CAt.keep ?_ bw9
               repeat (first | exact Ts | refine CAt.drew ?_ | refine CAt.alloc ?_ _)
             have dw90 := Tw9 0 _ rfl
             have dw91 := Tw9 1 _ rfl
             have dw92 := Tw9 2 _ rfl
             have dw93 := Tw9 3 _ rfl
             have dw94 := Tw9 4 _ rfl
             have Bw9 : Below W2.heap.size W2 w9 := by
               refine bstep ?_ bw9
               repeat (first | exact Below.refl _ _ | refine Below.drew ?_ | refine ball ?_ _)
             have hzw9 : W2.heap.size ≤ w9.heap.size := Bw9.size
             have hkw9 : k2 < w9.heap.size := by omega
             first
               | (have Zw9 : CAt w9 W2.heap.size [.int .i64 0, .int .i64 0, .int .i64 0, .int .i64 0, .int .i64 0] := by
                    refine CAt.keep ?_ bw9
                    first | exact CAt.new _ _ _ | exact CAt.drew (CAt.new _ _ _)
                  have Fw9 : Fz w9 W2.heap.size := by
                    refine Fz.keep ?_ bw9
                    first | exact Fz.new _ _ _ | exact Fz.drew (Fz.new _ _ _)
                  have yw90 := Zw9 0 _ rfl
                  have yw91 := Zw9 1 _ rfl
                  have yw92 := Zw9 2 _ rfl
                  have yw93 := Zw9 3 _ rfl
                  have yw94 := Zw9 4 _ rfl
                  have gw90 := Fw9.1 0
                  have gw91 := Fw9.1 1
                  have gw92 := Fw9.1 2
                  have gw93 := Fw9.1 3
                  have gw94 := Fw9.1 4
                  have xw91 : ¬ W2.heap.size = k2 := by omega
                  have xw92 : ¬ k2 = W2.heap.size := by omega
                  have xw93 : W2.heap.size < w9.heap.size := Fw9.2
                  have hbw9 : W2.heap.size ≤ W2.heap.size := by omega)
               | (skip))
          | (go_at_call 18
             refine (choose_at ⟨⟨3, 1000000⟩, ⟨3, 0⟩, (-1)⟩ ⟨⟨4, 128⟩, ⟨4, 128⟩, 0⟩ 1 _ 1 [⟨0, ⟨4, 0⟩, 128⟩] _ rfl (by first | exact of1 (CAt.new _ _ _) | exact of1 ((CAt.new _ _ _).alloc _) | exact of1 (cnew1 _ _ _ _)) (by simp [maxLen]) (by decide)).mono ?_
             rintro e w8 ⟨rfl, bw8⟩
             have Tw8 : CAt w8 k2 [.int .i64 3, .int .i64 1000000, .int .i64 3, .int .i64 0, .int .i64 (-1)] := by
               refine CAt.keep ?_ bw8
               repeat (first | exact Ts | exact Tw9 | refine CAt.drew ?_ | refine CAt.alloc ?_ _)
             have dw80 := Tw8 0 _ rfl
             have dw81 := Tw8 1 _ rfl
             have dw82 := Tw8 2 _ rfl
             have dw83 := Tw8 3 _ rfl
             have dw84 := Tw8 4 _ rfl
             have Bw8 : Below W2.heap.size W2 w8 := by
               refine bstep ?_ bw8
               repeat (first | exact Bw9 | exact Below.refl _ _ | refine Below.drew ?_ | refine ball ?_ _)
             have hzw8 : W2.heap.size ≤ w8.heap.size := Bw8.size
             have hkw8 : k2 < w8.heap.size := by omega
             first
               | (have _ := Zw9
                  have Zw8 : CAt w8 W2.heap.size [.int .i64 0, .int .i64 0, .int .i64 0, .int .i64 0, .int .i64 0] := by
                    refine CAt.keep ?_ bw8
                    first | exact Zw9 | exact Zw9.drew | exact Zw9.alloc _ | exact Zw9.drew.alloc _ | exact (Zw9.alloc _).alloc _
                  have Fw8 : Fz w8 W2.heap.size := by
                    refine Fz.keep ?_ bw8
                    first | exact Fw9 | exact Fw9.drew | exact Fw9.alloc _ | exact Fw9.drew.alloc _ | exact (Fw9.alloc _).alloc _
                  have yw80 := Zw8 0 _ rfl
                  have yw81 := Zw8 1 _ rfl
                  have yw82 := Zw8 2 _ rfl
                  have yw83 := Zw8 3 _ rfl
                  have yw84 := Zw8 4 _ rfl
                  have gw80 := Fw8.1 0
                  have gw81 := Fw8.1 1
                  have gw82 := Fw8.1 2
                  have gw83 := Fw8.1 3
                  have gw84 := Fw8.1 4
                  have xw81 : ¬ W2.heap.size = k2 := by omega
                  have xw82 : ¬ k2 = W2.heap.size := by omega
                  have xw83 : W2.heap.size < w8.heap.size := Fw8.2
                  have hbw8 : W2.heap.size ≤ W2.heap.size := by omega)
               | (have Zw8 : CAt w8 w9.heap.size [.int .i64 0, .int .i64 0, .int .i64 0, .int .i64 0, .int .i64 0] := by
                    refine CAt.keep ?_ bw8
                    first | exact (CAt.new _ _ _).alloc _ | exact (CAt.drew (CAt.new _ _ _)).alloc _
                  have Fw8 : Fz w8 w9.heap.size := by
                    refine Fz.keep ?_ bw8
                    first | exact (Fz.new _ _ _).alloc _ | exact (Fz.drew (Fz.new _ _ _)).alloc _
                  have yw80 := Zw8 0 _ rfl
                  have yw81 := Zw8 1 _ rfl
                  have yw82 := Zw8 2 _ rfl
                  have yw83 := Zw8 3 _ rfl
                  have yw84 := Zw8 4 _ rfl
                  have gw80 := Fw8.1 0
                  have gw81 := Fw8.1 1
                  have gw82 := Fw8.1 2
                  have gw83 := Fw8.1 3
                  have gw84 := Fw8.1 4
                  have xw81 : ¬ w9.heap.size = k2 := by omega
                  have xw82 : ¬ k2 = w9.heap.size := by omega
                  have xw83 : w9.heap.size < w8.heap.size := Fw8.2
                  have hbw8 : W2.heap.size ≤ w9.heap.size := by omega)
               | (have Zw8 : CAt w8 (w9.heap.size + 1) [.int .i64 0, .int .i64 0, .int .i64 0, .int .i64 0, .int .i64 0] := by
                    refine CAt.keep ?_ bw8
                    have h9 := CAt.new (w9.alloc (.cells #[.int .i64 0, .int .i64 4, .int .i64 0, .int .i64 128] 40)) [.int .i64 0, .int .i64 0, .int .i64 0, .int .i64 0, .int .i64 0] 25; simpa only [World.size_alloc] using h9
                  have Fw8 : Fz w8 (w9.heap.size + 1) := by
                    refine Fz.keep ?_ bw8
                    have h9 := Fz.new (w9.alloc (.cells #[.int .i64 0, .int .i64 4, .int .i64 0, .int .i64 128] 40)) #[.int .i64 0, .int .i64 0, .int .i64 0, .int .i64 0, .int .i64 0] 25; simpa only [World.size_alloc] using h9
                  have yw80 := Zw8 0 _ rfl
                  have yw81 := Zw8 1 _ rfl
                  have yw82 := Zw8 2 _ rfl
                  have yw83 := Zw8 3 _ rfl
                  have yw84 := Zw8 4 _ rfl
                  have gw80 := Fw8.1 0
                  have gw81 := Fw8.1 1
                  have gw82 := Fw8.1 2
                  have gw83 := Fw8.1 3
                  have gw84 := Fw8.1 4
                  have xw81 : ¬ (w9.heap.size + 1) = k2 := by omega
                  have xw82 : ¬ k2 = (w9.heap.size + 1) := by omega
                  have xw83 : (w9.heap.size + 1) < w8.heap.size := Fw8.2
                  have hbw8 : W2.heap.size ≤ (w9.heap.size + 1) := by omega)
               | (skip)))
      all_goals go_wp2_with fail
      all_goals go_meet
      all_goals first
        | (have hz1 := (((((Zw8.set 0 (.int .i64 4) (by simp)).set 1 (.int .i64 128) (by simp)).set 2 (.int .i64 4) (by simp)).set 3 (.int .i64 128) (by simp)).set 4 (.int .i64 0) (by simp))
           have hz2 := (((((Bw8.setCell (p := ⟨_, 0, none⟩) hbw8 (.int .i64 4)).setCell (p := ⟨_, 1, none⟩) hbw8 (.int .i64 128)).setCell (p := ⟨_, 2, none⟩) hbw8 (.int .i64 4)).setCell (p := ⟨_, 3, none⟩) hbw8 (.int .i64 128)).setCell (p := ⟨_, 4, none⟩) hbw8 (.int .i64 0))
           exact ⟨_, rfl, hbw8, hz1, hz2⟩)
        | exact ⟨_, rfl, hzw8, CAt.new _ _ _, ball Bw8 _⟩
    case rest =>
      clear s0 s1 s2 s3 s4
      obtain ⟨kb, rfl, hle, Tb, hB⟩ := hcut
      obtain ⟨W3, hW3⟩ : ∃ W3, W3 = wc := ⟨_, rfl⟩
      subst hW3
      replace Ts := Ts.keep hB
      replace Ta := Ta.keep hB
      replace BB := bstep BB hB
      clear hB hle lt0 lt1 lt2 lt3
      go_upto_region 4 with (fail)
      have b0 := Tb 0 _ rfl
      have b1 := Tb 1 _ rfl
      have b2 := Tb 2 _ rfl
      have b3 := Tb 3 _ rfl
      have b4 := Tb 4 _ rfl
      have lt0 : kb < W3.heap.size := World.block_lt_of_cell? W3 ⟨kb, 0, none⟩ (Tb 0 _ rfl)
      have lt1 : kb < W3.heap.size + 1 := by omega
      have lt2 : kb < W3.heap.size + 1 + 1 := by omega
      have lt3 : kb < W3.heap.size + 1 + 1 + 1 := by omega
      go_cut [4] (fun sx wx => ∃ b : Nat, sx = .pointer (some ⟨b, 0, none⟩) ∧ W3.heap.size ≤ b ∧ CAt wx b [.int .i64 4, .int .i64 200, .int .i64 4, .int .i64 128, .int .i64 0] ∧ Below W3.heap.size W3 wx)
      case first =>
        go_region_held3 (fun w' => w'.cell? ⟨kb, 0, none⟩ = some (.int .i64 4) ∧ w'.cell? ⟨kb, 1, none⟩ = some (.int .i64 128) ∧ w'.cell? ⟨kb, 2, none⟩ = some (.int .i64 4) ∧ w'.cell? ⟨kb, 3, none⟩ = some (.int .i64 128) ∧ w'.cell? ⟨kb, 4, none⟩ = some (.int .i64 0))
          (first | go_keep)
          (first
            | (fail_if_success (have _ := Tw9)
               go_at_call 30
               refine (offer_any _ _ _ _ _).mono ?_
               rintro e w9 ⟨rfl, bw9⟩
               have Tw9 : CAt w9 kb [.int .i64 4, .int .i64 128, .int .i64 4, .int .i64 128, .int .i64 0] := by
                 refine CAt.keep ?_ bw9
                 repeat (first | exact Tb | refine CAt.drew ?_ | refine CAt.alloc ?_ _)
               have dw90 := Tw9 0 _ rfl
               have dw91 := Tw9 1 _ rfl
               have dw92 := Tw9 2 _ rfl
               have dw93 := Tw9 3 _ rfl
               have dw94 := Tw9 4 _ rfl
               have Bw9 : Below W3.heap.size W3 w9 := by
                 refine bstep ?_ bw9
                 repeat (first | exact Below.refl _ _ | refine Below.drew ?_ | refine ball ?_ _)
               have hzw9 : W3.heap.size ≤ w9.heap.size := Bw9.size
               have hkw9 : kb < w9.heap.size := by omega
               first
                 | (have Zw9 : CAt w9 W3.heap.size [.int .i64 0, .int .i64 0, .int .i64 0, .int .i64 0, .int .i64 0] := by
                      refine CAt.keep ?_ bw9
                      first | exact CAt.new _ _ _ | exact CAt.drew (CAt.new _ _ _)
                    have Fw9 : Fz w9 W3.heap.size := by
                      refine Fz.keep ?_ bw9
                      first | exact Fz.new _ _ _ | exact Fz.drew (Fz.new _ _ _)
                    have yw90 := Zw9 0 _ rfl
                    have yw91 := Zw9 1 _ rfl
                    have yw92 := Zw9 2 _ rfl
                    have yw93 := Zw9 3 _ rfl
                    have yw94 := Zw9 4 _ rfl
                    have gw90 := Fw9.1 0
                    have gw91 := Fw9.1 1
                    have gw92 := Fw9.1 2
                    have gw93 := Fw9.1 3
                    have gw94 := Fw9.1 4
                    have xw91 : ¬ W3.heap.size = kb := by omega
                    have xw92 : ¬ kb = W3.heap.size := by omega
                    have xw93 : W3.heap.size < w9.heap.size := Fw9.2
                    have hbw9 : W3.heap.size ≤ W3.heap.size := by omega)
                 | (skip))
            | (have _ := Tw9
               go_at_call 30
               refine (offer_any _ _ _ _ _).mono ?_
               rintro e w7 ⟨rfl, bw7⟩
               have Tw7 : CAt w7 kb [.int .i64 4, .int .i64 128, .int .i64 4, .int .i64 128, .int .i64 0] := by
                 refine CAt.keep ?_ bw7
                 repeat (first | exact Tb | exact Tw9 | refine CAt.drew ?_ | refine CAt.alloc ?_ _)
               have dw70 := Tw7 0 _ rfl
               have dw71 := Tw7 1 _ rfl
               have dw72 := Tw7 2 _ rfl
               have dw73 := Tw7 3 _ rfl
               have dw74 := Tw7 4 _ rfl
               have Bw7 : Below W3.heap.size W3 w7 := by
                 refine bstep ?_ bw7
                 repeat (first | exact Bw9 | exact Below.refl _ _ | refine Below.drew ?_ | refine ball ?_ _)
               have hzw7 : W3.heap.size ≤ w7.heap.size := Bw7.size
               have hkw7 : kb < w7.heap.size := by omega
               first
                 | (have _ := Zw9
                    have Zw7 : CAt w7 W3.heap.size [.int .i64 0, .int .i64 0, .int .i64 0, .int .i64 0, .int .i64 0] := by
                      refine CAt.keep ?_ bw7
                      first | exact Zw9 | exact Zw9.drew | exact Zw9.alloc _ | exact Zw9.drew.alloc _ | exact (Zw9.alloc _).alloc _
                    have Fw7 : Fz w7 W3.heap.size := by
                      refine Fz.keep ?_ bw7
                      first | exact Fw9 | exact Fw9.drew | exact Fw9.alloc _ | exact Fw9.drew.alloc _ | exact (Fw9.alloc _).alloc _
                    have yw70 := Zw7 0 _ rfl
                    have yw71 := Zw7 1 _ rfl
                    have yw72 := Zw7 2 _ rfl
                    have yw73 := Zw7 3 _ rfl
                    have yw74 := Zw7 4 _ rfl
                    have gw70 := Fw7.1 0
                    have gw71 := Fw7.1 1
                    have gw72 := Fw7.1 2
                    have gw73 := Fw7.1 3
                    have gw74 := Fw7.1 4
                    have xw71 : ¬ W3.heap.size = kb := by omega
                    have xw72 : ¬ kb = W3.heap.size := by omega
                    have xw73 : W3.heap.size < w7.heap.size := Fw7.2
                    have hbw7 : W3.heap.size ≤ W3.heap.size := by omega)
                 | (have Zw7 : CAt w7 w9.heap.size [.int .i64 0, .int .i64 0, .int .i64 0, .int .i64 0, .int .i64 0] := by
                      refine CAt.keep ?_ bw7
                      first | exact CAt.new _ _ _ | exact CAt.drew (CAt.new _ _ _)
                    have Fw7 : Fz w7 w9.heap.size := by
                      refine Fz.keep ?_ bw7
                      first | exact Fz.new _ _ _ | exact Fz.drew (Fz.new _ _ _)
                    have yw70 := Zw7 0 _ rfl
                    have yw71 := Zw7 1 _ rfl
                    have yw72 := Zw7 2 _ rfl
                    have yw73 := Zw7 3 _ rfl
                    have yw74 := Zw7 4 _ rfl
                    have gw70 := Fw7.1 0
                    have gw71 := Fw7.1 1
                    have gw72 := Fw7.1 2
                    have gw73 := Fw7.1 3
                    have gw74 := Fw7.1 4
                    have xw71 : ¬ w9.heap.size = kb := by omega
                    have xw72 : ¬ kb = w9.heap.size := by omega
                    have xw73 : w9.heap.size < w7.heap.size := Fw7.2
                    have hbw7 : W3.heap.size ≤ w9.heap.size := by omega)
                 | (skip))
            | (go_at_call 18
               refine (choose_at ⟨⟨4, 128⟩, ⟨4, 128⟩, 0⟩ ⟨⟨4, 200⟩, ⟨4, 128⟩, 0⟩ 2 _ 2 [⟨5, ⟨4, 100⟩, 128⟩, ⟨0, ⟨4, 0⟩, 200⟩] _ rfl (by first | exact of2 (CAt.new _ _ _) | exact of2 ((CAt.new _ _ _).alloc _) | exact of2 (cnew1 _ _ _ _)) (by simp [maxLen]) (by decide)).mono ?_
               rintro e w8 ⟨rfl, bw8⟩
               have Tw8 : CAt w8 kb [.int .i64 4, .int .i64 128, .int .i64 4, .int .i64 128, .int .i64 0] := by
                 refine CAt.keep ?_ bw8
                 repeat (first | exact Tb | exact Tw9 | exact Tw7 | refine CAt.drew ?_ | refine CAt.alloc ?_ _)
               have dw80 := Tw8 0 _ rfl
               have dw81 := Tw8 1 _ rfl
               have dw82 := Tw8 2 _ rfl
               have dw83 := Tw8 3 _ rfl
               have dw84 := Tw8 4 _ rfl
               have Bw8 : Below W3.heap.size W3 w8 := by
                 refine bstep ?_ bw8
                 repeat (first | exact Bw9 | exact Bw7 | exact Below.refl _ _ | refine Below.drew ?_ | refine ball ?_ _)
               have hzw8 : W3.heap.size ≤ w8.heap.size := Bw8.size
               have hkw8 : kb < w8.heap.size := by omega
               first
                 | (have _ := Zw7
                    have Zw8 : CAt w8 W3.heap.size [.int .i64 0, .int .i64 0, .int .i64 0, .int .i64 0, .int .i64 0] := by
                      refine CAt.keep ?_ bw8
                      first | exact Zw7 | exact Zw7.drew | exact Zw7.alloc _ | exact Zw7.drew.alloc _ | exact (Zw7.alloc _).alloc _
                    have Fw8 : Fz w8 W3.heap.size := by
                      refine Fz.keep ?_ bw8
                      first | exact Fw7 | exact Fw7.drew | exact Fw7.alloc _ | exact Fw7.drew.alloc _ | exact (Fw7.alloc _).alloc _
                    have yw80 := Zw8 0 _ rfl
                    have yw81 := Zw8 1 _ rfl
                    have yw82 := Zw8 2 _ rfl
                    have yw83 := Zw8 3 _ rfl
                    have yw84 := Zw8 4 _ rfl
                    have gw80 := Fw8.1 0
                    have gw81 := Fw8.1 1
                    have gw82 := Fw8.1 2
                    have gw83 := Fw8.1 3
                    have gw84 := Fw8.1 4
                    have xw81 : ¬ W3.heap.size = kb := by omega
                    have xw82 : ¬ kb = W3.heap.size := by omega
                    have xw83 : W3.heap.size < w8.heap.size := Fw8.2
                    have hbw8 : W3.heap.size ≤ W3.heap.size := by omega)
                 | (have _ := Zw7
                    have Zw8 : CAt w8 w9.heap.size [.int .i64 0, .int .i64 0, .int .i64 0, .int .i64 0, .int .i64 0] := by
                      refine CAt.keep ?_ bw8
                      first | exact Zw7 | exact Zw7.drew | exact Zw7.alloc _ | exact Zw7.drew.alloc _ | exact (Zw7.alloc _).alloc _
                    have Fw8 : Fz w8 w9.heap.size := by
                      refine Fz.keep ?_ bw8
                      first | exact Fw7 | exact Fw7.drew | exact Fw7.alloc _ | exact Fw7.drew.alloc _ | exact (Fw7.alloc _).alloc _
                    have yw80 := Zw8 0 _ rfl
                    have yw81 := Zw8 1 _ rfl
                    have yw82 := Zw8 2 _ rfl
                    have yw83 := Zw8 3 _ rfl
                    have yw84 := Zw8 4 _ rfl
                    have gw80 := Fw8.1 0
                    have gw81 := Fw8.1 1
                    have gw82 := Fw8.1 2
                    have gw83 := Fw8.1 3
                    have gw84 := Fw8.1 4
                    have xw81 : ¬ w9.heap.size = kb := by omega
                    have xw82 : ¬ kb = w9.heap.size := by omega
                    have xw83 : w9.heap.size < w8.heap.size := Fw8.2
                    have hbw8 : W3.heap.size ≤ w9.heap.size := by omega)
                 | (have Zw8 : CAt w8 w7.heap.size [.int .i64 0, .int .i64 0, .int .i64 0, .int .i64 0, .int .i64 0] := by
                      refine CAt.keep ?_ bw8
                      first | exact (CAt.new _ _ _).alloc _ | exact (CAt.drew (CAt.new _ _ _)).alloc _
                    have Fw8 : Fz w8 w7.heap.size := by
                      refine Fz.keep ?_ bw8
                      first | exact (Fz.new _ _ _).alloc _ | exact (Fz.drew (Fz.new _ _ _)).alloc _
                    have yw80 := Zw8 0 _ rfl
                    have yw81 := Zw8 1 _ rfl
                    have yw82 := Zw8 2 _ rfl
                    have yw83 := Zw8 3 _ rfl
                    have yw84 := Zw8 4 _ rfl
                    have gw80 := Fw8.1 0
                    have gw81 := Fw8.1 1
                    have gw82 := Fw8.1 2
                    have gw83 := Fw8.1 3
                    have gw84 := Fw8.1 4
                    have xw81 : ¬ w7.heap.size = kb := by omega
                    have xw82 : ¬ kb = w7.heap.size := by omega
                    have xw83 : w7.heap.size < w8.heap.size := Fw8.2
                    have hbw8 : W3.heap.size ≤ w7.heap.size := by omega)
                 | (have Zw8 : CAt w8 (w7.heap.size + 1) [.int .i64 0, .int .i64 0, .int .i64 0, .int .i64 0, .int .i64 0] := by
                      refine CAt.keep ?_ bw8
                      have h9 := CAt.new (w7.alloc (.cells #[.int .i64 5, .int .i64 4, .int .i64 100, .int .i64 128, .int .i64 0, .int .i64 4, .int .i64 0, .int .i64 200] 40)) [.int .i64 0, .int .i64 0, .int .i64 0, .int .i64 0, .int .i64 0] 25; simpa only [World.size_alloc] using h9
                    have Fw8 : Fz w8 (w7.heap.size + 1) := by
                      refine Fz.keep ?_ bw8
                      have h9 := Fz.new (w7.alloc (.cells #[.int .i64 5, .int .i64 4, .int .i64 100, .int .i64 128, .int .i64 0, .int .i64 4, .int .i64 0, .int .i64 200] 40)) #[.int .i64 0, .int .i64 0, .int .i64 0, .int .i64 0, .int .i64 0] 25; simpa only [World.size_alloc] using h9
                    have yw80 := Zw8 0 _ rfl
                    have yw81 := Zw8 1 _ rfl
                    have yw82 := Zw8 2 _ rfl
                    have yw83 := Zw8 3 _ rfl
                    have yw84 := Zw8 4 _ rfl
                    have gw80 := Fw8.1 0
                    have gw81 := Fw8.1 1
                    have gw82 := Fw8.1 2
                    have gw83 := Fw8.1 3
                    have gw84 := Fw8.1 4
                    have xw81 : ¬ (w7.heap.size + 1) = kb := by omega
                    have xw82 : ¬ kb = (w7.heap.size + 1) := by omega
                    have xw83 : (w7.heap.size + 1) < w8.heap.size := Fw8.2
                    have hbw8 : W3.heap.size ≤ (w7.heap.size + 1) := by omega)
                 | (skip)))
        all_goals go_wp2_with fail
        all_goals go_meet
        all_goals first
          | (have hz1 := (((((Zw8.set 0 (.int .i64 4) (by simp)).set 1 (.int .i64 200) (by simp)).set 2 (.int .i64 4) (by simp)).set 3 (.int .i64 128) (by simp)).set 4 (.int .i64 0) (by simp))
             have hz2 := (((((Bw8.setCell (p := ⟨_, 0, none⟩) hbw8 (.int .i64 4)).setCell (p := ⟨_, 1, none⟩) hbw8 (.int .i64 200)).setCell (p := ⟨_, 2, none⟩) hbw8 (.int .i64 4)).setCell (p := ⟨_, 3, none⟩) hbw8 (.int .i64 128)).setCell (p := ⟨_, 4, none⟩) hbw8 (.int .i64 0))
             exact ⟨_, rfl, hbw8, hz1, hz2⟩)
          | exact ⟨_, rfl, hzw8, CAt.new _ _ _, ball Bw8 _⟩
      case rest =>
        clear b0 b1 b2 b3 b4
        obtain ⟨kc, rfl, hle, Tc, hB⟩ := hcut
        obtain ⟨W4, hW4⟩ : ∃ W4, W4 = wc := ⟨_, rfl⟩
        subst hW4
        replace Ts := Ts.keep hB
        replace Ta := Ta.keep hB
        replace Tb := Tb.keep hB
        replace BB := bstep BB hB
        clear hB hle lt0 lt1 lt2 lt3
        go_upto_region 5 with (fail)
        have c0 := Tc 0 _ rfl
        have c1 := Tc 1 _ rfl
        have c2 := Tc 2 _ rfl
        have c3 := Tc 3 _ rfl
        have c4 := Tc 4 _ rfl
        have lt0 : kc < W4.heap.size := World.block_lt_of_cell? W4 ⟨kc, 0, none⟩ (Tc 0 _ rfl)
        have lt1 : kc < W4.heap.size + 1 := by omega
        have lt2 : kc < W4.heap.size + 1 + 1 := by omega
        have lt3 : kc < W4.heap.size + 1 + 1 + 1 := by omega
        go_cut [5] (fun sx wx => ∃ b : Nat, sx = .pointer (some ⟨b, 0, none⟩) ∧ W4.heap.size ≤ b ∧ CAt wx b [.int .i64 4, .int .i64 428, .int .i64 4, .int .i64 128, .int .i64 0] ∧ Below W4.heap.size W4 wx)
        case first =>
          go_region_held3 (fun w' => w'.cell? ⟨kc, 0, none⟩ = some (.int .i64 4) ∧ w'.cell? ⟨kc, 1, none⟩ = some (.int .i64 200) ∧ w'.cell? ⟨kc, 2, none⟩ = some (.int .i64 4) ∧ w'.cell? ⟨kc, 3, none⟩ = some (.int .i64 128) ∧ w'.cell? ⟨kc, 4, none⟩ = some (.int .i64 0))
            (first | go_keep)
            (first
              | (go_at_call 30
                 refine (offer_any _ _ _ _ _).mono ?_
                 rintro e w9 ⟨rfl, bw9⟩
                 have Tw9 : CAt w9 kc [.int .i64 4, .int .i64 200, .int .i64 4, .int .i64 128, .int .i64 0] := by
                   refine CAt.keep ?_ bw9
                   repeat (first | exact Tc | refine CAt.drew ?_ | refine CAt.alloc ?_ _)
                 have dw90 := Tw9 0 _ rfl
                 have dw91 := Tw9 1 _ rfl
                 have dw92 := Tw9 2 _ rfl
                 have dw93 := Tw9 3 _ rfl
                 have dw94 := Tw9 4 _ rfl
                 have Bw9 : Below W4.heap.size W4 w9 := by
                   refine bstep ?_ bw9
                   repeat (first | exact Below.refl _ _ | refine Below.drew ?_ | refine ball ?_ _)
                 have hzw9 : W4.heap.size ≤ w9.heap.size := Bw9.size
                 have hkw9 : kc < w9.heap.size := by omega
                 first
                   | (have Zw9 : CAt w9 W4.heap.size [.int .i64 0, .int .i64 0, .int .i64 0, .int .i64 0, .int .i64 0] := by
                        refine CAt.keep ?_ bw9
                        first | exact CAt.new _ _ _ | exact CAt.drew (CAt.new _ _ _)
                      have Fw9 : Fz w9 W4.heap.size := by
                        refine Fz.keep ?_ bw9
                        first | exact Fz.new _ _ _ | exact Fz.drew (Fz.new _ _ _)
                      have yw90 := Zw9 0 _ rfl
                      have yw91 := Zw9 1 _ rfl
                      have yw92 := Zw9 2 _ rfl
                      have yw93 := Zw9 3 _ rfl
                      have yw94 := Zw9 4 _ rfl
                      have gw90 := Fw9.1 0
                      have gw91 := Fw9.1 1
                      have gw92 := Fw9.1 2
                      have gw93 := Fw9.1 3
                      have gw94 := Fw9.1 4
                      have xw91 : ¬ W4.heap.size = kc := by omega
                      have xw92 : ¬ kc = W4.heap.size := by omega
                      have xw93 : W4.heap.size < w9.heap.size := Fw9.2
                      have hbw9 : W4.heap.size ≤ W4.heap.size := by omega)
                   | (skip))
              | (go_at_call 18
                 refine (choose_at ⟨⟨4, 200⟩, ⟨4, 128⟩, 0⟩ ⟨⟨4, 428⟩, ⟨4, 128⟩, 0⟩ 1 _ 1 [⟨0, ⟨4, 300⟩, 128⟩] _ rfl (by first | exact of1 (CAt.new _ _ _) | exact of1 ((CAt.new _ _ _).alloc _) | exact of1 (cnew1 _ _ _ _)) (by simp [maxLen]) (by decide)).mono ?_
                 rintro e w8 ⟨rfl, bw8⟩
                 have Tw8 : CAt w8 kc [.int .i64 4, .int .i64 200, .int .i64 4, .int .i64 128, .int .i64 0] := by
                   refine CAt.keep ?_ bw8
                   repeat (first | exact Tc | exact Tw9 | refine CAt.drew ?_ | refine CAt.alloc ?_ _)
                 have dw80 := Tw8 0 _ rfl
                 have dw81 := Tw8 1 _ rfl
                 have dw82 := Tw8 2 _ rfl
                 have dw83 := Tw8 3 _ rfl
                 have dw84 := Tw8 4 _ rfl
                 have Bw8 : Below W4.heap.size W4 w8 := by
                   refine bstep ?_ bw8
                   repeat (first | exact Bw9 | exact Below.refl _ _ | refine Below.drew ?_ | refine ball ?_ _)
                 have hzw8 : W4.heap.size ≤ w8.heap.size := Bw8.size
                 have hkw8 : kc < w8.heap.size := by omega
                 first
                   | (have _ := Zw9
                      have Zw8 : CAt w8 W4.heap.size [.int .i64 0, .int .i64 0, .int .i64 0, .int .i64 0, .int .i64 0] := by
                        refine CAt.keep ?_ bw8
                        first | exact Zw9 | exact Zw9.drew | exact Zw9.alloc _ | exact Zw9.drew.alloc _ | exact (Zw9.alloc _).alloc _
                      have Fw8 : Fz w8 W4.heap.size := by
                        refine Fz.keep ?_ bw8
                        first | exact Fw9 | exact Fw9.drew | exact Fw9.alloc _ | exact Fw9.drew.alloc _ | exact (Fw9.alloc _).alloc _
                      have yw80 := Zw8 0 _ rfl
                      have yw81 := Zw8 1 _ rfl
                      have yw82 := Zw8 2 _ rfl
                      have yw83 := Zw8 3 _ rfl
                      have yw84 := Zw8 4 _ rfl
                      have gw80 := Fw8.1 0
                      have gw81 := Fw8.1 1
                      have gw82 := Fw8.1 2
                      have gw83 := Fw8.1 3
                      have gw84 := Fw8.1 4
                      have xw81 : ¬ W4.heap.size = kc := by omega
                      have xw82 : ¬ kc = W4.heap.size := by omega
                      have xw83 : W4.heap.size < w8.heap.size := Fw8.2
                      have hbw8 : W4.heap.size ≤ W4.heap.size := by omega)
                   | (have Zw8 : CAt w8 w9.heap.size [.int .i64 0, .int .i64 0, .int .i64 0, .int .i64 0, .int .i64 0] := by
                        refine CAt.keep ?_ bw8
                        first | exact (CAt.new _ _ _).alloc _ | exact (CAt.drew (CAt.new _ _ _)).alloc _
                      have Fw8 : Fz w8 w9.heap.size := by
                        refine Fz.keep ?_ bw8
                        first | exact (Fz.new _ _ _).alloc _ | exact (Fz.drew (Fz.new _ _ _)).alloc _
                      have yw80 := Zw8 0 _ rfl
                      have yw81 := Zw8 1 _ rfl
                      have yw82 := Zw8 2 _ rfl
                      have yw83 := Zw8 3 _ rfl
                      have yw84 := Zw8 4 _ rfl
                      have gw80 := Fw8.1 0
                      have gw81 := Fw8.1 1
                      have gw82 := Fw8.1 2
                      have gw83 := Fw8.1 3
                      have gw84 := Fw8.1 4
                      have xw81 : ¬ w9.heap.size = kc := by omega
                      have xw82 : ¬ kc = w9.heap.size := by omega
                      have xw83 : w9.heap.size < w8.heap.size := Fw8.2
                      have hbw8 : W4.heap.size ≤ w9.heap.size := by omega)
                   | (have Zw8 : CAt w8 (w9.heap.size + 1) [.int .i64 0, .int .i64 0, .int .i64 0, .int .i64 0, .int .i64 0] := by
                        refine CAt.keep ?_ bw8
                        have h9 := CAt.new (w9.alloc (.cells #[.int .i64 0, .int .i64 4, .int .i64 300, .int .i64 128] 40)) [.int .i64 0, .int .i64 0, .int .i64 0, .int .i64 0, .int .i64 0] 25; simpa only [World.size_alloc] using h9
                      have Fw8 : Fz w8 (w9.heap.size + 1) := by
                        refine Fz.keep ?_ bw8
                        have h9 := Fz.new (w9.alloc (.cells #[.int .i64 0, .int .i64 4, .int .i64 300, .int .i64 128] 40)) #[.int .i64 0, .int .i64 0, .int .i64 0, .int .i64 0, .int .i64 0] 25; simpa only [World.size_alloc] using h9
                      have yw80 := Zw8 0 _ rfl
                      have yw81 := Zw8 1 _ rfl
                      have yw82 := Zw8 2 _ rfl
                      have yw83 := Zw8 3 _ rfl
                      have yw84 := Zw8 4 _ rfl
                      have gw80 := Fw8.1 0
                      have gw81 := Fw8.1 1
                      have gw82 := Fw8.1 2
                      have gw83 := Fw8.1 3
                      have gw84 := Fw8.1 4
                      have xw81 : ¬ (w9.heap.size + 1) = kc := by omega
                      have xw82 : ¬ kc = (w9.heap.size + 1) := by omega
                      have xw83 : (w9.heap.size + 1) < w8.heap.size := Fw8.2
                      have hbw8 : W4.heap.size ≤ (w9.heap.size + 1) := by omega)
                   | (skip)))
          all_goals go_wp2_with fail
          all_goals go_meet
          all_goals first
            | (have hz1 := (((((Zw8.set 0 (.int .i64 4) (by simp)).set 1 (.int .i64 428) (by simp)).set 2 (.int .i64 4) (by simp)).set 3 (.int .i64 128) (by simp)).set 4 (.int .i64 0) (by simp))
               have hz2 := (((((Bw8.setCell (p := ⟨_, 0, none⟩) hbw8 (.int .i64 4)).setCell (p := ⟨_, 1, none⟩) hbw8 (.int .i64 428)).setCell (p := ⟨_, 2, none⟩) hbw8 (.int .i64 4)).setCell (p := ⟨_, 3, none⟩) hbw8 (.int .i64 128)).setCell (p := ⟨_, 4, none⟩) hbw8 (.int .i64 0))
               exact ⟨_, rfl, hbw8, hz1, hz2⟩)
            | exact ⟨_, rfl, hzw8, CAt.new _ _ _, ball Bw8 _⟩
        case rest =>
          clear c0 c1 c2 c3 c4
          obtain ⟨kd, rfl, hle, Td, hB⟩ := hcut
          obtain ⟨W5, hW5⟩ : ∃ W5, W5 = wc := ⟨_, rfl⟩
          subst hW5
          replace Ts := Ts.keep hB
          replace Ta := Ta.keep hB
          replace Tb := Tb.keep hB
          replace Tc := Tc.keep hB
          replace BB := bstep BB hB
          clear hB hle lt0 lt1 lt2 lt3
          go_upto_region 6 with (fail)
          have d0 := Td 0 _ rfl
          have d1 := Td 1 _ rfl
          have d2 := Td 2 _ rfl
          have d3 := Td 3 _ rfl
          have d4 := Td 4 _ rfl
          have lt0 : kd < W5.heap.size := World.block_lt_of_cell? W5 ⟨kd, 0, none⟩ (Td 0 _ rfl)
          have lt1 : kd < W5.heap.size + 1 := by omega
          have lt2 : kd < W5.heap.size + 1 + 1 := by omega
          have lt3 : kd < W5.heap.size + 1 + 1 + 1 := by omega
          go_cut [6] (fun sx wx => ∃ b : Nat, sx = .pointer (some ⟨b, 0, none⟩) ∧ W5.heap.size ≤ b ∧ CAt wx b [.int .i64 4, .int .i64 255, .int .i64 4, .int .i64 128, .int .i64 5] ∧ Below W5.heap.size W5 wx)
          case first =>
            go_region_held3 (fun w' => w'.cell? ⟨kd, 0, none⟩ = some (.int .i64 4) ∧ w'.cell? ⟨kd, 1, none⟩ = some (.int .i64 428) ∧ w'.cell? ⟨kd, 2, none⟩ = some (.int .i64 4) ∧ w'.cell? ⟨kd, 3, none⟩ = some (.int .i64 128) ∧ w'.cell? ⟨kd, 4, none⟩ = some (.int .i64 0))
              (first | go_keep)
              (first
                | (go_at_call 30
                   refine (offer_any _ _ _ _ _).mono ?_
                   rintro e w9 ⟨rfl, bw9⟩
                   have Tw9 : CAt w9 kd [.int .i64 4, .int .i64 428, .int .i64 4, .int .i64 128, .int .i64 0] := by
                     refine CAt.keep ?_ bw9
                     repeat (first | exact Td | refine CAt.drew ?_ | refine CAt.alloc ?_ _)
                   have dw90 := Tw9 0 _ rfl
                   have dw91 := Tw9 1 _ rfl
                   have dw92 := Tw9 2 _ rfl
                   have dw93 := Tw9 3 _ rfl
                   have dw94 := Tw9 4 _ rfl
                   have Bw9 : Below W5.heap.size W5 w9 := by
                     refine bstep ?_ bw9
                     repeat (first | exact Below.refl _ _ | refine Below.drew ?_ | refine ball ?_ _)
                   have hzw9 : W5.heap.size ≤ w9.heap.size := Bw9.size
                   have hkw9 : kd < w9.heap.size := by omega
                   first
                     | (have Zw9 : CAt w9 W5.heap.size [.int .i64 0, .int .i64 0, .int .i64 0, .int .i64 0, .int .i64 0] := by
                          refine CAt.keep ?_ bw9
                          first | exact CAt.new _ _ _ | exact CAt.drew (CAt.new _ _ _)
                        have Fw9 : Fz w9 W5.heap.size := by
                          refine Fz.keep ?_ bw9
                          first | exact Fz.new _ _ _ | exact Fz.drew (Fz.new _ _ _)
                        have yw90 := Zw9 0 _ rfl
                        have yw91 := Zw9 1 _ rfl
                        have yw92 := Zw9 2 _ rfl
                        have yw93 := Zw9 3 _ rfl
                        have yw94 := Zw9 4 _ rfl
                        have gw90 := Fw9.1 0
                        have gw91 := Fw9.1 1
                        have gw92 := Fw9.1 2
                        have gw93 := Fw9.1 3
                        have gw94 := Fw9.1 4
                        have xw91 : ¬ W5.heap.size = kd := by omega
                        have xw92 : ¬ kd = W5.heap.size := by omega
                        have xw93 : W5.heap.size < w9.heap.size := Fw9.2
                        have hbw9 : W5.heap.size ≤ W5.heap.size := by omega)
                     | (skip))
                | (go_at_call 18
                   refine (choose_at ⟨⟨4, 428⟩, ⟨4, 128⟩, 0⟩ ⟨⟨4, 255⟩, ⟨4, 128⟩, 5⟩ 1 _ 1 [⟨5, ⟨4, 127⟩, 128⟩] _ rfl (by first | exact of1 (CAt.new _ _ _) | exact of1 ((CAt.new _ _ _).alloc _) | exact of1 (cnew1 _ _ _ _)) (by simp [maxLen]) (by decide)).mono ?_
                   rintro e w8 ⟨rfl, bw8⟩
                   have Tw8 : CAt w8 kd [.int .i64 4, .int .i64 428, .int .i64 4, .int .i64 128, .int .i64 0] := by
                     refine CAt.keep ?_ bw8
                     repeat (first | exact Td | exact Tw9 | refine CAt.drew ?_ | refine CAt.alloc ?_ _)
                   have dw80 := Tw8 0 _ rfl
                   have dw81 := Tw8 1 _ rfl
                   have dw82 := Tw8 2 _ rfl
                   have dw83 := Tw8 3 _ rfl
                   have dw84 := Tw8 4 _ rfl
                   have Bw8 : Below W5.heap.size W5 w8 := by
                     refine bstep ?_ bw8
                     repeat (first | exact Bw9 | exact Below.refl _ _ | refine Below.drew ?_ | refine ball ?_ _)
                   have hzw8 : W5.heap.size ≤ w8.heap.size := Bw8.size
                   have hkw8 : kd < w8.heap.size := by omega
                   first
                     | (have _ := Zw9
                        have Zw8 : CAt w8 W5.heap.size [.int .i64 0, .int .i64 0, .int .i64 0, .int .i64 0, .int .i64 0] := by
                          refine CAt.keep ?_ bw8
                          first | exact Zw9 | exact Zw9.drew | exact Zw9.alloc _ | exact Zw9.drew.alloc _ | exact (Zw9.alloc _).alloc _
                        have Fw8 : Fz w8 W5.heap.size := by
                          refine Fz.keep ?_ bw8
                          first | exact Fw9 | exact Fw9.drew | exact Fw9.alloc _ | exact Fw9.drew.alloc _ | exact (Fw9.alloc _).alloc _
                        have yw80 := Zw8 0 _ rfl
                        have yw81 := Zw8 1 _ rfl
                        have yw82 := Zw8 2 _ rfl
                        have yw83 := Zw8 3 _ rfl
                        have yw84 := Zw8 4 _ rfl
                        have gw80 := Fw8.1 0
                        have gw81 := Fw8.1 1
                        have gw82 := Fw8.1 2
                        have gw83 := Fw8.1 3
                        have gw84 := Fw8.1 4
                        have xw81 : ¬ W5.heap.size = kd := by omega
                        have xw82 : ¬ kd = W5.heap.size := by omega
                        have xw83 : W5.heap.size < w8.heap.size := Fw8.2
                        have hbw8 : W5.heap.size ≤ W5.heap.size := by omega)
                     | (have Zw8 : CAt w8 w9.heap.size [.int .i64 0, .int .i64 0, .int .i64 0, .int .i64 0, .int .i64 0] := by
                          refine CAt.keep ?_ bw8
                          first | exact (CAt.new _ _ _).alloc _ | exact (CAt.drew (CAt.new _ _ _)).alloc _
                        have Fw8 : Fz w8 w9.heap.size := by
                          refine Fz.keep ?_ bw8
                          first | exact (Fz.new _ _ _).alloc _ | exact (Fz.drew (Fz.new _ _ _)).alloc _
                        have yw80 := Zw8 0 _ rfl
                        have yw81 := Zw8 1 _ rfl
                        have yw82 := Zw8 2 _ rfl
                        have yw83 := Zw8 3 _ rfl
                        have yw84 := Zw8 4 _ rfl
                        have gw80 := Fw8.1 0
                        have gw81 := Fw8.1 1
                        have gw82 := Fw8.1 2
                        have gw83 := Fw8.1 3
                        have gw84 := Fw8.1 4
                        have xw81 : ¬ w9.heap.size = kd := by omega
                        have xw82 : ¬ kd = w9.heap.size := by omega
                        have xw83 : w9.heap.size < w8.heap.size := Fw8.2
                        have hbw8 : W5.heap.size ≤ w9.heap.size := by omega)
                     | (have Zw8 : CAt w8 (w9.heap.size + 1) [.int .i64 0, .int .i64 0, .int .i64 0, .int .i64 0, .int .i64 0] := by
                          refine CAt.keep ?_ bw8
                          have h9 := CAt.new (w9.alloc (.cells #[.int .i64 5, .int .i64 4, .int .i64 127, .int .i64 128] 40)) [.int .i64 0, .int .i64 0, .int .i64 0, .int .i64 0, .int .i64 0] 25; simpa only [World.size_alloc] using h9
                        have Fw8 : Fz w8 (w9.heap.size + 1) := by
                          refine Fz.keep ?_ bw8
                          have h9 := Fz.new (w9.alloc (.cells #[.int .i64 5, .int .i64 4, .int .i64 127, .int .i64 128] 40)) #[.int .i64 0, .int .i64 0, .int .i64 0, .int .i64 0, .int .i64 0] 25; simpa only [World.size_alloc] using h9
                        have yw80 := Zw8 0 _ rfl
                        have yw81 := Zw8 1 _ rfl
                        have yw82 := Zw8 2 _ rfl
                        have yw83 := Zw8 3 _ rfl
                        have yw84 := Zw8 4 _ rfl
                        have gw80 := Fw8.1 0
                        have gw81 := Fw8.1 1
                        have gw82 := Fw8.1 2
                        have gw83 := Fw8.1 3
                        have gw84 := Fw8.1 4
                        have xw81 : ¬ (w9.heap.size + 1) = kd := by omega
                        have xw82 : ¬ kd = (w9.heap.size + 1) := by omega
                        have xw83 : (w9.heap.size + 1) < w8.heap.size := Fw8.2
                        have hbw8 : W5.heap.size ≤ (w9.heap.size + 1) := by omega)
                     | (skip)))
            all_goals go_wp2_with fail
            all_goals go_meet
            all_goals first
              | (have hz1 := (((((Zw8.set 0 (.int .i64 4) (by simp)).set 1 (.int .i64 255) (by simp)).set 2 (.int .i64 4) (by simp)).set 3 (.int .i64 128) (by simp)).set 4 (.int .i64 5) (by simp))
                 have hz2 := (((((Bw8.setCell (p := ⟨_, 0, none⟩) hbw8 (.int .i64 4)).setCell (p := ⟨_, 1, none⟩) hbw8 (.int .i64 255)).setCell (p := ⟨_, 2, none⟩) hbw8 (.int .i64 4)).setCell (p := ⟨_, 3, none⟩) hbw8 (.int .i64 128)).setCell (p := ⟨_, 4, none⟩) hbw8 (.int .i64 5))
                 exact ⟨_, rfl, hbw8, hz1, hz2⟩)
              | exact ⟨_, rfl, hzw8, CAt.new _ _ _, ball Bw8 _⟩
          case rest =>
            clear d0 d1 d2 d3 d4
            obtain ⟨ke, rfl, hle, Te, hB⟩ := hcut
            obtain ⟨W6, hW6⟩ : ∃ W6, W6 = wc := ⟨_, rfl⟩
            subst hW6
            replace Ts := Ts.keep hB
            replace Ta := Ta.keep hB
            replace Tb := Tb.keep hB
            replace Tc := Tc.keep hB
            replace Td := Td.keep hB
            replace BB := bstep BB hB
            clear hB hle lt0 lt1 lt2 lt3
            go_upto_region 7 with (fail)
            have e0 := Te 0 _ rfl
            have e1 := Te 1 _ rfl
            have e2 := Te 2 _ rfl
            have e3 := Te 3 _ rfl
            have e4 := Te 4 _ rfl
            have lt0 : ke < W6.heap.size := World.block_lt_of_cell? W6 ⟨ke, 0, none⟩ (Te 0 _ rfl)
            have lt1 : ke < W6.heap.size + 1 := by omega
            have lt2 : ke < W6.heap.size + 1 + 1 := by omega
            have lt3 : ke < W6.heap.size + 1 + 1 + 1 := by omega
            go_cut [7] (fun sx wx => ∃ b : Nat, sx = .pointer (some ⟨b, 0, none⟩) ∧ W6.heap.size ≤ b ∧ CAt wx b [.int .i64 4, .int .i64 1000000, .int .i64 4, .int .i64 128, .int .i64 (-1)] ∧ Below W6.heap.size W6 wx)
            case first =>
              go_region_held3 (fun w' => w'.cell? ⟨ke, 0, none⟩ = some (.int .i64 4) ∧ w'.cell? ⟨ke, 1, none⟩ = some (.int .i64 255) ∧ w'.cell? ⟨ke, 2, none⟩ = some (.int .i64 4) ∧ w'.cell? ⟨ke, 3, none⟩ = some (.int .i64 128) ∧ w'.cell? ⟨ke, 4, none⟩ = some (.int .i64 5))
                (first | go_keep)
                (first
                  | (fail_if_success (have _ := Tw9)
                     go_at_call 30
                     refine (offer_any _ _ _ _ _).mono ?_
                     rintro e w9 ⟨rfl, bw9⟩
                     have Tw9 : CAt w9 ke [.int .i64 4, .int .i64 255, .int .i64 4, .int .i64 128, .int .i64 5] := by
                       refine CAt.keep ?_ bw9
                       repeat (first | exact Te | refine CAt.drew ?_ | refine CAt.alloc ?_ _)
                     have dw90 := Tw9 0 _ rfl
                     have dw91 := Tw9 1 _ rfl
                     have dw92 := Tw9 2 _ rfl
                     have dw93 := Tw9 3 _ rfl
                     have dw94 := Tw9 4 _ rfl
                     have Bw9 : Below W6.heap.size W6 w9 := by
                       refine bstep ?_ bw9
                       repeat (first | exact Below.refl _ _ | refine Below.drew ?_ | refine ball ?_ _)
                     have hzw9 : W6.heap.size ≤ w9.heap.size := Bw9.size
                     have hkw9 : ke < w9.heap.size := by omega
                     first
                       | (have Zw9 : CAt w9 W6.heap.size [.int .i64 0, .int .i64 0, .int .i64 0, .int .i64 0, .int .i64 0] := by
                            refine CAt.keep ?_ bw9
                            first | exact CAt.new _ _ _ | exact CAt.drew (CAt.new _ _ _)
                          have Fw9 : Fz w9 W6.heap.size := by
                            refine Fz.keep ?_ bw9
                            first | exact Fz.new _ _ _ | exact Fz.drew (Fz.new _ _ _)
                          have yw90 := Zw9 0 _ rfl
                          have yw91 := Zw9 1 _ rfl
                          have yw92 := Zw9 2 _ rfl
                          have yw93 := Zw9 3 _ rfl
                          have yw94 := Zw9 4 _ rfl
                          have gw90 := Fw9.1 0
                          have gw91 := Fw9.1 1
                          have gw92 := Fw9.1 2
                          have gw93 := Fw9.1 3
                          have gw94 := Fw9.1 4
                          have xw91 : ¬ W6.heap.size = ke := by omega
                          have xw92 : ¬ ke = W6.heap.size := by omega
                          have xw93 : W6.heap.size < w9.heap.size := Fw9.2
                          have hbw9 : W6.heap.size ≤ W6.heap.size := by omega)
                       | (skip))
                  | (have _ := Tw9
                     go_at_call 30
                     refine (offer_any _ _ _ _ _).mono ?_
                     rintro e w7 ⟨rfl, bw7⟩
                     have Tw7 : CAt w7 ke [.int .i64 4, .int .i64 255, .int .i64 4, .int .i64 128, .int .i64 5] := by
                       refine CAt.keep ?_ bw7
                       repeat (first | exact Te | exact Tw9 | refine CAt.drew ?_ | refine CAt.alloc ?_ _)
                     have dw70 := Tw7 0 _ rfl
                     have dw71 := Tw7 1 _ rfl
                     have dw72 := Tw7 2 _ rfl
                     have dw73 := Tw7 3 _ rfl
                     have dw74 := Tw7 4 _ rfl
                     have Bw7 : Below W6.heap.size W6 w7 := by
                       refine bstep ?_ bw7
                       repeat (first | exact Bw9 | exact Below.refl _ _ | refine Below.drew ?_ | refine ball ?_ _)
                     have hzw7 : W6.heap.size ≤ w7.heap.size := Bw7.size
                     have hkw7 : ke < w7.heap.size := by omega
                     first
                       | (have _ := Zw9
                          have Zw7 : CAt w7 W6.heap.size [.int .i64 0, .int .i64 0, .int .i64 0, .int .i64 0, .int .i64 0] := by
                            refine CAt.keep ?_ bw7
                            first | exact Zw9 | exact Zw9.drew | exact Zw9.alloc _ | exact Zw9.drew.alloc _ | exact (Zw9.alloc _).alloc _
                          have Fw7 : Fz w7 W6.heap.size := by
                            refine Fz.keep ?_ bw7
                            first | exact Fw9 | exact Fw9.drew | exact Fw9.alloc _ | exact Fw9.drew.alloc _ | exact (Fw9.alloc _).alloc _
                          have yw70 := Zw7 0 _ rfl
                          have yw71 := Zw7 1 _ rfl
                          have yw72 := Zw7 2 _ rfl
                          have yw73 := Zw7 3 _ rfl
                          have yw74 := Zw7 4 _ rfl
                          have gw70 := Fw7.1 0
                          have gw71 := Fw7.1 1
                          have gw72 := Fw7.1 2
                          have gw73 := Fw7.1 3
                          have gw74 := Fw7.1 4
                          have xw71 : ¬ W6.heap.size = ke := by omega
                          have xw72 : ¬ ke = W6.heap.size := by omega
                          have xw73 : W6.heap.size < w7.heap.size := Fw7.2
                          have hbw7 : W6.heap.size ≤ W6.heap.size := by omega)
                       | (have Zw7 : CAt w7 w9.heap.size [.int .i64 0, .int .i64 0, .int .i64 0, .int .i64 0, .int .i64 0] := by
                            refine CAt.keep ?_ bw7
                            first | exact CAt.new _ _ _ | exact CAt.drew (CAt.new _ _ _)
                          have Fw7 : Fz w7 w9.heap.size := by
                            refine Fz.keep ?_ bw7
                            first | exact Fz.new _ _ _ | exact Fz.drew (Fz.new _ _ _)
                          have yw70 := Zw7 0 _ rfl
                          have yw71 := Zw7 1 _ rfl
                          have yw72 := Zw7 2 _ rfl
                          have yw73 := Zw7 3 _ rfl
                          have yw74 := Zw7 4 _ rfl
                          have gw70 := Fw7.1 0
                          have gw71 := Fw7.1 1
                          have gw72 := Fw7.1 2
                          have gw73 := Fw7.1 3
                          have gw74 := Fw7.1 4
                          have xw71 : ¬ w9.heap.size = ke := by omega
                          have xw72 : ¬ ke = w9.heap.size := by omega
                          have xw73 : w9.heap.size < w7.heap.size := Fw7.2
                          have hbw7 : W6.heap.size ≤ w9.heap.size := by omega)
                       | (skip))
                  | (go_at_call 18
                     refine (choose_at ⟨⟨4, 255⟩, ⟨4, 128⟩, 5⟩ ⟨⟨4, 1000000⟩, ⟨4, 128⟩, (-1)⟩ 2 _ 2 [⟨5, ⟨4, 1000000⟩, 128⟩, ⟨6, ⟨4, 128⟩, 128⟩] _ rfl (by first | exact of2 (CAt.new _ _ _) | exact of2 ((CAt.new _ _ _).alloc _) | exact of2 (cnew1 _ _ _ _)) (by simp [maxLen]) (by decide)).mono ?_
                     rintro e w8 ⟨rfl, bw8⟩
                     have Tw8 : CAt w8 ke [.int .i64 4, .int .i64 255, .int .i64 4, .int .i64 128, .int .i64 5] := by
                       refine CAt.keep ?_ bw8
                       repeat (first | exact Te | exact Tw9 | exact Tw7 | refine CAt.drew ?_ | refine CAt.alloc ?_ _)
                     have dw80 := Tw8 0 _ rfl
                     have dw81 := Tw8 1 _ rfl
                     have dw82 := Tw8 2 _ rfl
                     have dw83 := Tw8 3 _ rfl
                     have dw84 := Tw8 4 _ rfl
                     have Bw8 : Below W6.heap.size W6 w8 := by
                       refine bstep ?_ bw8
                       repeat (first | exact Bw9 | exact Bw7 | exact Below.refl _ _ | refine Below.drew ?_ | refine ball ?_ _)
                     have hzw8 : W6.heap.size ≤ w8.heap.size := Bw8.size
                     have hkw8 : ke < w8.heap.size := by omega
                     first
                       | (have _ := Zw7
                          have Zw8 : CAt w8 W6.heap.size [.int .i64 0, .int .i64 0, .int .i64 0, .int .i64 0, .int .i64 0] := by
                            refine CAt.keep ?_ bw8
                            first | exact Zw7 | exact Zw7.drew | exact Zw7.alloc _ | exact Zw7.drew.alloc _ | exact (Zw7.alloc _).alloc _
                          have Fw8 : Fz w8 W6.heap.size := by
                            refine Fz.keep ?_ bw8
                            first | exact Fw7 | exact Fw7.drew | exact Fw7.alloc _ | exact Fw7.drew.alloc _ | exact (Fw7.alloc _).alloc _
                          have yw80 := Zw8 0 _ rfl
                          have yw81 := Zw8 1 _ rfl
                          have yw82 := Zw8 2 _ rfl
                          have yw83 := Zw8 3 _ rfl
                          have yw84 := Zw8 4 _ rfl
                          have gw80 := Fw8.1 0
                          have gw81 := Fw8.1 1
                          have gw82 := Fw8.1 2
                          have gw83 := Fw8.1 3
                          have gw84 := Fw8.1 4
                          have xw81 : ¬ W6.heap.size = ke := by omega
                          have xw82 : ¬ ke = W6.heap.size := by omega
                          have xw83 : W6.heap.size < w8.heap.size := Fw8.2
                          have hbw8 : W6.heap.size ≤ W6.heap.size := by omega)
                       | (have _ := Zw7
                          have Zw8 : CAt w8 w9.heap.size [.int .i64 0, .int .i64 0, .int .i64 0, .int .i64 0, .int .i64 0] := by
                            refine CAt.keep ?_ bw8
                            first | exact Zw7 | exact Zw7.drew | exact Zw7.alloc _ | exact Zw7.drew.alloc _ | exact (Zw7.alloc _).alloc _
                          have Fw8 : Fz w8 w9.heap.size := by
                            refine Fz.keep ?_ bw8
                            first | exact Fw7 | exact Fw7.drew | exact Fw7.alloc _ | exact Fw7.drew.alloc _ | exact (Fw7.alloc _).alloc _
                          have yw80 := Zw8 0 _ rfl
                          have yw81 := Zw8 1 _ rfl
                          have yw82 := Zw8 2 _ rfl
                          have yw83 := Zw8 3 _ rfl
                          have yw84 := Zw8 4 _ rfl
                          have gw80 := Fw8.1 0
                          have gw81 := Fw8.1 1
                          have gw82 := Fw8.1 2
                          have gw83 := Fw8.1 3
                          have gw84 := Fw8.1 4
                          have xw81 : ¬ w9.heap.size = ke := by omega
                          have xw82 : ¬ ke = w9.heap.size := by omega
                          have xw83 : w9.heap.size < w8.heap.size := Fw8.2
                          have hbw8 : W6.heap.size ≤ w9.heap.size := by omega)
                       | (have Zw8 : CAt w8 w7.heap.size [.int .i64 0, .int .i64 0, .int .i64 0, .int .i64 0, .int .i64 0] := by
                            refine CAt.keep ?_ bw8
                            first | exact (CAt.new _ _ _).alloc _ | exact (CAt.drew (CAt.new _ _ _)).alloc _
                          have Fw8 : Fz w8 w7.heap.size := by
                            refine Fz.keep ?_ bw8
                            first | exact (Fz.new _ _ _).alloc _ | exact (Fz.drew (Fz.new _ _ _)).alloc _
                          have yw80 := Zw8 0 _ rfl
                          have yw81 := Zw8 1 _ rfl
                          have yw82 := Zw8 2 _ rfl
                          have yw83 := Zw8 3 _ rfl
                          have yw84 := Zw8 4 _ rfl
                          have gw80 := Fw8.1 0
                          have gw81 := Fw8.1 1
                          have gw82 := Fw8.1 2
                          have gw83 := Fw8.1 3
                          have gw84 := Fw8.1 4
                          have xw81 : ¬ w7.heap.size = ke := by omega
                          have xw82 : ¬ ke = w7.heap.size := by omega
                          have xw83 : w7.heap.size < w8.heap.size := Fw8.2
                          have hbw8 : W6.heap.size ≤ w7.heap.size := by omega)
                       | (have Zw8 : CAt w8 (w7.heap.size + 1) [.int .i64 0, .int .i64 0, .int .i64 0, .int .i64 0, .int .i64 0] := by
                            refine CAt.keep ?_ bw8
                            have h9 := CAt.new (w7.alloc (.cells #[.int .i64 5, .int .i64 4, .int .i64 1000000, .int .i64 128, .int .i64 6, .int .i64 4, .int .i64 128, .int .i64 128] 40)) [.int .i64 0, .int .i64 0, .int .i64 0, .int .i64 0, .int .i64 0] 25; simpa only [World.size_alloc] using h9
                          have Fw8 : Fz w8 (w7.heap.size + 1) := by
                            refine Fz.keep ?_ bw8
                            have h9 := Fz.new (w7.alloc (.cells #[.int .i64 5, .int .i64 4, .int .i64 1000000, .int .i64 128, .int .i64 6, .int .i64 4, .int .i64 128, .int .i64 128] 40)) #[.int .i64 0, .int .i64 0, .int .i64 0, .int .i64 0, .int .i64 0] 25; simpa only [World.size_alloc] using h9
                          have yw80 := Zw8 0 _ rfl
                          have yw81 := Zw8 1 _ rfl
                          have yw82 := Zw8 2 _ rfl
                          have yw83 := Zw8 3 _ rfl
                          have yw84 := Zw8 4 _ rfl
                          have gw80 := Fw8.1 0
                          have gw81 := Fw8.1 1
                          have gw82 := Fw8.1 2
                          have gw83 := Fw8.1 3
                          have gw84 := Fw8.1 4
                          have xw81 : ¬ (w7.heap.size + 1) = ke := by omega
                          have xw82 : ¬ ke = (w7.heap.size + 1) := by omega
                          have xw83 : (w7.heap.size + 1) < w8.heap.size := Fw8.2
                          have hbw8 : W6.heap.size ≤ (w7.heap.size + 1) := by omega)
                       | (skip)))
              all_goals go_wp2_with fail
              all_goals go_meet
              all_goals first
                | (have hz1 := (((((Zw8.set 0 (.int .i64 4) (by simp)).set 1 (.int .i64 1000000) (by simp)).set 2 (.int .i64 4) (by simp)).set 3 (.int .i64 128) (by simp)).set 4 (.int .i64 (-1)) (by simp))
                   have hz2 := (((((Bw8.setCell (p := ⟨_, 0, none⟩) hbw8 (.int .i64 4)).setCell (p := ⟨_, 1, none⟩) hbw8 (.int .i64 1000000)).setCell (p := ⟨_, 2, none⟩) hbw8 (.int .i64 4)).setCell (p := ⟨_, 3, none⟩) hbw8 (.int .i64 128)).setCell (p := ⟨_, 4, none⟩) hbw8 (.int .i64 (-1)))
                   exact ⟨_, rfl, hbw8, hz1, hz2⟩)
                | exact ⟨_, rfl, hzw8, CAt.new _ _ _, ball Bw8 _⟩
            case rest =>
              clear e0 e1 e2 e3 e4
              obtain ⟨kf, rfl, hle, Tf, hB⟩ := hcut
              obtain ⟨W7, hW7⟩ : ∃ W7, W7 = wc := ⟨_, rfl⟩
              subst hW7
              replace Ts := Ts.keep hB
              replace Ta := Ta.keep hB
              replace Tb := Tb.keep hB
              replace Tc := Tc.keep hB
              replace Td := Td.keep hB
              replace Te := Te.keep hB
              replace BB := bstep BB hB
              clear hB hle lt0 lt1 lt2 lt3
              have s0 := Ts 0 _ rfl
              have s1 := Ts 1 _ rfl
              have s2 := Ts 2 _ rfl
              have s3 := Ts 3 _ rfl
              have s4 := Ts 4 _ rfl
              go_wp2_with fail
              refine (is_any ⟨⟨3, 1000000⟩, ⟨3, 0⟩, (-1)⟩ 3 (1000000) 0 (-1) _ rfl).mono ?_
              clear s0 s1 s2 s3 s4
              rintro e w3 ⟨rfl, b3⟩
              replace Ts := Ts.keep b3
              replace Ta := Ta.keep b3
              replace Tb := Tb.keep b3
              replace Tc := Tc.keep b3
              replace Td := Td.keep b3
              replace Te := Te.keep b3
              replace Tf := Tf.keep b3
              replace BB := bstep BB b3
              clear b3
              have a0 := Ta 0 _ rfl
              have a1 := Ta 1 _ rfl
              have a2 := Ta 2 _ rfl
              have a3 := Ta 3 _ rfl
              have a4 := Ta 4 _ rfl
              go_wp2_with fail
              refine (is_any ⟨⟨3, 1000000⟩, ⟨3, 0⟩, (-1)⟩ 3 (1000000) 0 (-1) _ rfl).mono ?_
              clear a0 a1 a2 a3 a4
              rintro e w4 ⟨rfl, b4⟩
              replace Ts := Ts.keep b4
              replace Ta := Ta.keep b4
              replace Tb := Tb.keep b4
              replace Tc := Tc.keep b4
              replace Td := Td.keep b4
              replace Te := Te.keep b4
              replace Tf := Tf.keep b4
              replace BB := bstep BB b4
              clear b4
              have b0 := Tb 0 _ rfl
              have b1 := Tb 1 _ rfl
              have b2 := Tb 2 _ rfl
              have b3 := Tb 3 _ rfl
              have b4 := Tb 4 _ rfl
              go_wp2_with fail
              refine (is_any ⟨⟨4, 128⟩, ⟨4, 128⟩, 0⟩ 4 (128) 128 (0) _ rfl).mono ?_
              clear b0 b1 b2 b3 b4
              rintro e w5 ⟨rfl, b5⟩
              replace Ts := Ts.keep b5
              replace Ta := Ta.keep b5
              replace Tb := Tb.keep b5
              replace Tc := Tc.keep b5
              replace Td := Td.keep b5
              replace Te := Te.keep b5
              replace Tf := Tf.keep b5
              replace BB := bstep BB b5
              clear b5
              have c0 := Tc 0 _ rfl
              have c1 := Tc 1 _ rfl
              have c2 := Tc 2 _ rfl
              have c3 := Tc 3 _ rfl
              have c4 := Tc 4 _ rfl
              go_wp2_with fail
              refine (is_any ⟨⟨4, 200⟩, ⟨4, 128⟩, 0⟩ 4 (200) 128 (0) _ rfl).mono ?_
              clear c0 c1 c2 c3 c4
              rintro e w6 ⟨rfl, b6⟩
              replace Ts := Ts.keep b6
              replace Ta := Ta.keep b6
              replace Tb := Tb.keep b6
              replace Tc := Tc.keep b6
              replace Td := Td.keep b6
              replace Te := Te.keep b6
              replace Tf := Tf.keep b6
              replace BB := bstep BB b6
              clear b6
              have d0 := Td 0 _ rfl
              have d1 := Td 1 _ rfl
              have d2 := Td 2 _ rfl
              have d3 := Td 3 _ rfl
              have d4 := Td 4 _ rfl
              go_wp2_with fail
              refine (is_any ⟨⟨4, 428⟩, ⟨4, 128⟩, 0⟩ 4 (428) 128 (0) _ rfl).mono ?_
              clear d0 d1 d2 d3 d4
              rintro e w7 ⟨rfl, b7⟩
              replace Ts := Ts.keep b7
              replace Ta := Ta.keep b7
              replace Tb := Tb.keep b7
              replace Tc := Tc.keep b7
              replace Td := Td.keep b7
              replace Te := Te.keep b7
              replace Tf := Tf.keep b7
              replace BB := bstep BB b7
              clear b7
              have e0 := Te 0 _ rfl
              have e1 := Te 1 _ rfl
              have e2 := Te 2 _ rfl
              have e3 := Te 3 _ rfl
              have e4 := Te 4 _ rfl
              go_wp2_with fail
              refine (is_any ⟨⟨4, 255⟩, ⟨4, 128⟩, 5⟩ 4 (255) 128 (5) _ rfl).mono ?_
              clear e0 e1 e2 e3 e4
              rintro e w8 ⟨rfl, b8⟩
              replace Ts := Ts.keep b8
              replace Ta := Ta.keep b8
              replace Tb := Tb.keep b8
              replace Tc := Tc.keep b8
              replace Td := Td.keep b8
              replace Te := Te.keep b8
              replace Tf := Tf.keep b8
              replace BB := bstep BB b8
              clear b8
              have f0 := Tf 0 _ rfl
              have f1 := Tf 1 _ rfl
              have f2 := Tf 2 _ rfl
              have f3 := Tf 3 _ rfl
              have f4 := Tf 4 _ rfl
              go_wp2_with fail
              refine (is_any ⟨⟨4, 1000000⟩, ⟨4, 128⟩, (-1)⟩ 4 (1000000) 128 (-1) _ rfl).mono ?_
              clear f0 f1 f2 f3 f4
              rintro e w9 ⟨rfl, b9⟩
              replace Ts := Ts.keep b9
              replace Ta := Ta.keep b9
              replace Tb := Tb.keep b9
              replace Tc := Tc.keep b9
              replace Td := Td.keep b9
              replace Te := Te.keep b9
              replace Tf := Tf.keep b9
              replace BB := bstep BB b9
              clear b9
              have b0 := Tb 0 _ rfl
              have b1 := Tb 1 _ rfl
              have b2 := Tb 2 _ rfl
              have b3 := Tb 3 _ rfl
              have b4 := Tb 4 _ rfl
              go_wp2_with fail
              refine (start_at true 2 ⟨⟨2, 0⟩, ⟨2, 0⟩, -1⟩ _ (by decide)).mono ?_
              clear b0 b1 b2 b3 b4
              rintro e w10 ⟨rfl, b10⟩
              replace Ts := Ts.keep b10
              replace Ta := Ta.keep b10
              replace Tb := Tb.keep b10
              replace Tc := Tc.keep b10
              replace Td := Td.keep b10
              replace Te := Te.keep b10
              replace Tf := Tf.keep b10
              replace BB := bstep BB b10
              clear b10
              go_wp2_with fail
              refine (renew_at ⟨⟨2, 0⟩, ⟨2, 0⟩, -1⟩ ⟨⟨7, 0⟩, ⟨7, 0⟩, -1⟩ 7 _ (by decide)).mono ?_
              rintro e w11 ⟨rfl, b11⟩
              replace Ts := Ts.keep b11
              replace Ta := Ta.keep b11
              replace Tb := Tb.keep b11
              replace Tc := Tc.keep b11
              replace Td := Td.keep b11
              replace Te := Te.keep b11
              replace Tf := Tf.keep b11
              replace BB := bstep BB b11
              clear b11
              go_wp2_with fail
              refine (is_any ⟨⟨7, 0⟩, ⟨7, 0⟩, -1⟩ 7 0 0 (-1) _ rfl).mono ?_
              rintro e w12 ⟨rfl, b12⟩
              replace Ts := Ts.keep b12
              replace Ta := Ta.keep b12
              replace Tb := Tb.keep b12
              replace Tc := Tc.keep b12
              replace Td := Td.keep b12
              replace Te := Te.keep b12
              replace Tf := Tf.keep b12
              replace BB := bstep BB b12
              clear b12
              go_wp2_with fail
              refine (better_at ⟨1, 9⟩ ⟨0, 0⟩ true _ (by decide)).mono ?_
              rintro e w13 ⟨rfl, b13⟩
              replace Ts := Ts.keep b13
              replace Ta := Ta.keep b13
              replace Tb := Tb.keep b13
              replace Tc := Tc.keep b13
              replace Td := Td.keep b13
              replace Te := Te.keep b13
              replace Tf := Tf.keep b13
              replace BB := bstep BB b13
              clear b13
              have b0 := Tb 0 _ rfl
              have b1 := Tb 1 _ rfl
              have b2 := Tb 2 _ rfl
              have b3 := Tb 3 _ rfl
              have b4 := Tb 4 _ rfl
              go_wp2_with fail
              refine (feas_at ⟨⟨4, 128⟩, ⟨4, 128⟩, 0⟩ ⟨4, 127⟩ true _ (by decide)).mono ?_
              clear b0 b1 b2 b3 b4
              rintro e w14 ⟨rfl, b14⟩
              replace Ts := Ts.keep b14
              replace Ta := Ta.keep b14
              replace Tb := Tb.keep b14
              replace Tc := Tc.keep b14
              replace Td := Td.keep b14
              replace Te := Te.keep b14
              replace Tf := Tf.keep b14
              replace BB := bstep BB b14
              clear b14
              have b0 := Tb 0 _ rfl
              have b1 := Tb 1 _ rfl
              have b2 := Tb 2 _ rfl
              have b3 := Tb 3 _ rfl
              have b4 := Tb 4 _ rfl
              go_wp2_with fail
              refine (feas_at ⟨⟨4, 128⟩, ⟨4, 128⟩, 0⟩ ⟨4, 128⟩ false _ (by decide)).mono ?_
              clear b0 b1 b2 b3 b4
              rintro e w15 ⟨rfl, b15⟩
              replace Ts := Ts.keep b15
              replace Ta := Ta.keep b15
              replace Tb := Tb.keep b15
              replace Tc := Tc.keep b15
              replace Td := Td.keep b15
              replace Te := Te.keep b15
              replace Tf := Tf.keep b15
              replace BB := bstep BB b15
              clear b15
              go_wp2_with fail
              go_ret
              exact ⟨by simp, BB⟩
end Go.Proofs.Ytbonchnhngaicaa
