/- Proved: that start, a function of the statements, makes a mesh. Conditions: those that the theorem names. -/
import Derived.Test.YtbonchnhngaicaaM11
import Derived.Test.YtbonchnhngaicaaFin
namespace Go.Proofs.Ytbonchnhngaicaa
open Go.RowKit Go.Sort Go.BigFrame
set_option linter.unusedVariables false
set_option linter.unusedSimpArgs false
attribute [local go_sem] cell_alloc_old
attribute [local go_sem ↓] Go.wp_at_zero Go.wp_at_succ

def startM (j : Nat) : Msh := ⟨fun i => startV (decide (i = 0)) 0, fun i => if i < j then [(startV (decide (i = 0)) 0).o] else [], fun _ => []⟩
theorem startM_succ (j : Nat) : ({ startM j with T := upd (startM j).T j [(startV (decide (j = 0)) 0).o] } : Msh) = startM (j + 1) := by
  have h : upd (startM j).T j [(startV (decide (j = 0)) 0).o] = (startM (j + 1)).T := by
    funext i
    unfold upd startM
    by_cases hi : i = j
    · subst hi; simp
    · by_cases h2 : i < j
      · simp [hi, h2, show i < j + 1 from by omega]
      · simp [hi, h2, show ¬ i < j + 1 from by omega]
  rw [h]; rfl
theorem info25 : (Try.prog.info? 25).map (fun i => (i.zero, i.size, i.bytes)) = some (some (.agg #[.int .i64 0, .int .i64 0, .int .i64 0, .int .i64 0, .int .i64 0]), 5, 40) := by kernel_rfl
theorem info72 : (Try.prog.info? 72).map (fun i => (i.zero, i.size, i.bytes)) = some (some (.slice none 0 0), 1, 24) := by kernel_rfl
theorem info26 : (Try.prog.info? 26).map (fun i => (i.zero, i.size, i.bytes)) = some (some (.slice none 0 0), 1, 24) := by kernel_rfl
theorem row_shape {w : World} {base : Nat} {e : TypeId} {size : Nat} {v : Value} {n : Nat} {xs : List Value} (h : w.ownsRow base e size v n xs) : ∃ a c, v = .slice a n c := by
  rcases h.2 with ⟨hv, h0⟩ | ⟨g, cap, cur, hv, _⟩
  · exact ⟨none, 0, by rw [hv, h0]⟩
  · exact ⟨_, cap, hv⟩
/-- A mesh of n nodes, as start makes it and as its moves leave it: its three rows by name. -/
def MeshAt (K : Nat → Prop) (w0 w : World) (mb n : Nat) (M : Msh) : Prop := ∃ gr cr gt ct gh ch ts hs, MeshIs K w0 w mb n n n M (.slice (some ⟨gr, 0, none⟩) n cr) (.slice (some ⟨gt, 0, none⟩) n ct) (.slice (some ⟨gh, 0, none⟩) n ch) ts hs

set_option maxRecDepth 100000 in
set_option maxHeartbeats 8000000 in
theorem mesh_start (n : Nat) (hn : 1 ≤ n) (hn2 : n ≤ 100) (w : World) : Calls Try.prog 26 #[.int .i64 n] w fun e w' => e = .returned (.pointer (some ⟨w.heap.size, 0, none⟩)) ∧ Below w.heap.size w w' ∧ MeshAt (fun _ => False) w w' w.heap.size n (startM n) := by
  go_enter Try.func26, Try.ntmps26
  go_upto_region 2 with (fail)
  have hM := MeshIs.empty w w (startM 0).R (Nat.le_refl _)
  have BB : Below w.heap.size w (w.alloc (.cells #[.slice none 0 0, .slice none 0 0, .slice none 0 0] 55)) := ball (Below.refl _ _) _
  obtain ⟨V1, hV1⟩ : ∃ V1, w.alloc (.cells #[.slice none 0 0, .slice none 0 0, .slice none 0 0] 55) = V1 := ⟨_, rfl⟩
  rw [hV1] at BB hM ⊢
  clear hV1
  go_upto_region 3 with (fail)
  go_loopw [8] (fun g wr => ∃ j : Nat, j ≤ n ∧ g = .int .i64 j ∧ Below w.heap.size w wr ∧ ∃ ar cr at' ct ah ch ts, MeshIs (fun _ => False) w wr w.heap.size j j j (startM j) (.slice ar j cr) (.slice at' j ct) (.slice ah j ch) ts (fun _ => .slice none 0 0)) (fun g _ => n - (intOf g).toNat)
  case atStart => exact ⟨0, Nat.zero_le _, rfl, BB, none, 0, none, 0, none, 0, _, hM⟩
  case round =>
    clear BB hM
    obtain ⟨j, hj, rfl, BB, ar, cr, at', ct, ah, ch, ts, hM⟩ := hrel
    by_cases hlt : j < n
    ·
      have hlt1 : (j : Int) < (n : Int) := by omega
      have hj0 : (0 : Int) ≤ (j : Int) := by omega
      have hwj : IntKind.i64.wrap ((j : Int) + 1) = (j : Int) + 1 := IntWalk.i64_in _ (by omega)
      obtain ⟨b, hb⟩ : ∃ b, ((j : Int) == 0) = b := ⟨_, rfl⟩
      have hbd : decide (j = 0) = b := by rw [← hb]; by_cases h : j = 0 <;> simp [h]
      obtain ⟨c, hc⟩ : ∃ c, startV b 0 = c := ⟨_, rfl⟩
      have hRc : (startM j).R j = c := by show startV (decide (j = 0)) 0 = c; rw [hbd, hc]
      have HC := Lib.hid hc
      have HRC := Lib.hid hRc
      have HBD := Lib.hid hbd
      clear hc hRc hbd
      go_upto_region 5 with (fail)
      have m0 := hM.c 0 _ rfl
      have m1 := hM.c 1 _ rfl
      have m2 := hM.c 2 _ rfl
      have km0 := cell_regrown m0; have km1 := cell_regrown m1; have km2 := cell_regrown m2
      have CH : ∀ w', Below wr.heap.size wr w' → Calls Try.prog 12 #[.bool b, .int .i64 0] w' fun e w'' => e = .returned c.v ∧ Below w'.heap.size w' w'' := fun w' h => start_at b 0 c w' HC.out
      refine' wp_region_late' [0, 1, 2, 3, 4, 5, 6, 7] [8] [9, 10, 11, 12] [0] (by kernel_rfl) (by kernel_rfl) _
        (fun w' => True) (fun lx => if lx = 0 then .pointer (some ⟨w.heap.size, 0, none⟩) else undef)
        (fun Z hZ hN => quiet_hole ?hq5) (fun _ => (.cells #[.int .i64 c.o.s, .int .i64 c.o.r, .int .i64 c.l.s, .int .i64 c.l.r, .int .i64 c.p] 25)) (fun _ p => .slice (some ⟨p, 0, none⟩) 1 1) ?ha5 ?hl5 ?ht5
      case hq5 =>
        intro Q9 hQ9
        show wpQuiet _ _ _ _ [_, _, _, _, _, _, _, _] _
        repeat (go_big_quiet_step (first
          | (go_at_call 12; with_reducible exact rgX hZ CH)))
        exact wpQuiet_nil hQ9
      case ha5 =>
        intro i hi o ho w' hw'
        simp only [List.mem_cons, List.not_mem_nil, or_false] at hi
        subst hi
        simp only [List.getElem?_cons_succ, List.getElem?_cons_zero, Option.some.injEq] at ho
        subst ho
        go_simp
      case hl5 =>
        intro j hj o ho
        simp only [List.mem_cons, List.not_mem_nil, or_false] at hj
        rcases hj with rfl
        all_goals (
          simp only [List.getElem?_cons_succ, List.getElem?_cons_zero, Option.some.injEq] at ho
          subst ho
          refine ⟨fun w' hw' => by go_simp, fun t ht => ?_⟩
          simp only [Option.some.injEq] at ht
          subst ht
          rfl)
      intro π z1 hz hπ _
      obtain ⟨q, hq⟩ : ∃ q, π 8 = q := ⟨_, rfl⟩
      obtain ⟨hqb, hql⟩ := hπ 8 (by simp)
      rw [hq] at hqb hql
      simp only [List.filterMap_cons, List.filterMap_nil, List.getElem?_cons_zero, List.getElem?_cons_succ, putsA, Option.bind_some, Act.put, List.setIfInBounds_toArray, List.set_cons_zero, List.set_cons_succ, hq]
      clear hπ hq
      replace hM := hM.keep hz
      replace BB := bstep BB hz
      refine ⟨trivial, ?_⟩
      show wpListS _ _ _ _ [_, _, _, _] _ _
      clear CH m0 m1 m2 km0 km1 km2
      have hR : rtsC (startM j).R j ++ c.cs = rtsC (startM j).R j ++ ((startM j).R j).cs := by rw [HRC.out]
      have own' := hM.rows.1 .r
      obtain ⟨i0, hi9, hy0, hy1, hy2⟩ := info_parts info25
      refine listS_step rfl fun K9 hK9 => ?_
      refine wp_append_at (.tmp 15) (.tmp 19) 36 rfl (w.heap.size + 1) 25 i0 _ 5 40 Try.underlying36 hi9 hy0 hy1 hy2 rfl (by decide) (.slice ar j cr) j _ (by rfl) own' ⟨q, 0, none⟩ 1 1 c.cs (by rfl) rfl (fun i u hu => by rw [add0]; exact cell_blk hqb (by simpa using hu)) (fun u hu => by simp at hu; rcases hu with rfl | rfl | rfl | rfl | rfl <;> rfl) (by unfold maxLen; omega) (by omega) (by have := hM.f.2; omega) ?_
      intro v1 w1 hown1 hg1 hv1
      obtain ⟨a1, b9, rfl⟩ := row_shape hown1
      refine hK9 _ _ trivial ?_
      clear hK9 K9
      obtain ⟨mc, mf, _, _, _⟩ := hM.grown .r hg1
      have mf0 := mf.1 0
      refine listS_step rfl fun K9 hK9 => ?_
      go_simp
      refine hK9 _ _ trivial ?_
      clear hK9 K9
      refine listS_step rfl fun K9 hK9 => ?_
      go_simp
      refine hK9 _ _ trivial ?_
      clear hK9 K9
      have mc0 := mc 0 _ rfl
      refine listS_step rfl fun K9 hK9 => ?_
      go_simp
      obtain ⟨P1, P2⟩ := hM.routeApp (by rw [← hR]; exact hown1) hg1 hv1
      refine hK9 _ _ trivial ?_
      clear hK9 K9 mc mf mc0 mf0 own'

      unfold wpListS noPanic
      obtain ⟨V5, hV5⟩ : ∃ V5, w1.setCell ⟨w.heap.size, 0, none⟩ (.slice a1 (j + 1) b9) = V5 := ⟨_, rfl⟩
      rw [hV5] at P1 P2 ⊢
      clear hV5 hown1 hg1 hv1 hM
      have hM := P1
      replace BB := BB.trans P2
      clear P1 P2
      rename Option Addr => ar2
      simp only [Exit.then]
      clear hR
      go_upto_region 6 with (fail)
      have m0 := hM.c 0 _ rfl
      have m1 := hM.c 1 _ rfl
      have m2 := hM.c 2 _ rfl
      have km0 := cell_regrown m0; have km1 := cell_regrown m1; have km2 := cell_regrown m2
      obtain ⟨gr, crr, hform⟩ := hM.rform (by omega)
      obtain ⟨rfl, rfl⟩ : ar2 = some ⟨gr, 0, none⟩ ∧ b9 = crr := by simpa using hform
      clear hform
      obtain ⟨r0, r1, _, _, _⟩ := hM.route (i := j) (by omega)
      rw [HRC.out] at r0 r1
      have kr0 := cell_regrown r0; have kr1 := cell_regrown r1
      have hj2 : (j : Int) < ((j + 1 : Nat) : Int) := by omega
      have hM0 := hM
      refine' wp_region_fin' [0, 1, 2, 3, 4, 5, 6, 7, 8, 9, 10, 11, 12] [13] [14, 15, 16, 17, 18] [0, 1, 2, 3, 4] (by kernel_rfl) (by kernel_rfl) (fun o => o.dst != some 37 && o.dst != some 38) (by kernel_rfl) _
        (fun w' => w'.cell? ⟨w.heap.size, 1, none⟩ = some (Value.slice at' j ct)) (fun lx => if lx = 0 then .pointer (some ⟨w.heap.size, 0, none⟩) else if lx = 1 then .pointer (some ⟨w.heap.size, 0, none⟩) else if lx = 2 then .pointer (some ⟨w.heap.size, 0, none⟩) else if lx = 3 then .pointer (some ⟨w.heap.size, 1, none⟩) else if lx = 4 then Value.slice at' j ct else undef)
        (fun Z hZ hN => quiet_hole ?hq6) (fun _ => (.cells #[.int .i64 c.o.s, .int .i64 c.o.r] 23)) (fun _ p => .slice (some ⟨p, 0, none⟩) 1 1) ?ha6 ?hl6 ?ht6
      case hq6 =>
        intro Q9 hQ9
        show wpQuiet _ _ _ _ [_, _, _, _, _, _, _, _, _, _, _, _, _] _
        repeat (go_big_quiet_step (fail))
        exact wpQuiet_nil hQ9
      case ha6 =>
        intro i hi o ho w' hw'
        simp only [List.mem_cons, List.not_mem_nil, or_false] at hi
        subst hi
        simp only [List.getElem?_cons_succ, List.getElem?_cons_zero, Option.some.injEq] at ho
        subst ho
        go_simp
      case hl6 =>
        intro j hj o ho
        simp only [List.mem_cons, List.not_mem_nil, or_false] at hj
        rcases hj with rfl | rfl | rfl | rfl | rfl
        all_goals (
          simp only [List.getElem?_cons_succ, List.getElem?_cons_zero, Option.some.injEq] at ho
          subst ho
          refine ⟨fun w' hw' => by go_simp, fun t ht => ?_⟩
          simp only [Option.some.injEq] at ht
          subst ht
          rfl)
      intro π z2 hz hπ _
      obtain ⟨q, hq⟩ : ∃ q, π 13 = q := ⟨_, rfl⟩
      obtain ⟨hqb, hql⟩ := hπ 13 (by simp)
      rw [hq] at hqb hql
      simp only [List.filterMap_cons, List.filterMap_nil, List.getElem?_cons_zero, List.getElem?_cons_succ, putsA, Option.bind_some, Act.put, List.setIfInBounds_toArray, List.set_cons_zero, List.set_cons_succ, hq]
      clear hπ hq
      replace hM := hM.keep hz
      replace BB := bstep BB hz
      refine ⟨hM.c 1 _ rfl, ?_⟩
      show wpListF _ _ _ _ _ [_, _, _, _, _] _ _
      clear m0 m1 m2 km0 km1 km2 r0 r1 kr0 kr1
      have hM1 := hM0.fresh hz hql (v := .slice (some ⟨q, 0, none⟩) 1 1) rfl c.o ⟨rfl, .inr ⟨q, 1, _, rfl, by have := hM0.f.2; omega, hqb, Nat.le_refl _, by decide, rfl, rfl⟩⟩
      rw [show c.o = (startV (decide (j = 0)) 0).o from by rw [HBD.out, HC.out], startM_succ] at hM1
      clear hM hM0
      have hM := hM1
      clear hM1
      have hS := hM.c 1 _ rfl
      refine listF_step rfl fun K9 hK9 => ?_
      go_simp
      refine hK9 _ _ (.inr (old1 hS _)) ?_
      clear hK9 K9 hS
      replace hM := hM.keep (Below.alloc (Below.refl _ z2) (Nat.le_refl _) (.cells #[.slice (some ⟨q, 0, none⟩) 1 1] 72))
      replace BB := ball BB (.cells #[.slice (some ⟨q, 0, none⟩) 1 1] 72)
      have hqn := alloc_new_heap z2 (.cells #[.slice (some ⟨q, 0, none⟩) 1 1] 72)
      obtain ⟨V6, hV6⟩ : ∃ V6, z2.alloc (.cells #[.slice (some ⟨q, 0, none⟩) 1 1] 72) = V6 := ⟨_, rfl⟩
      obtain ⟨k6, hk6⟩ : ∃ k6, z2.heap.size = k6 := ⟨_, rfl⟩
      rw [hV6] at hM BB hqn ⊢
      rw [hk6] at hqn ⊢
      clear hV6 hk6
      have own' := hM.rows.1 .t
      obtain ⟨i0, hi9, hy0, hy1, hy2⟩ := info_parts info72
      refine listF_step rfl fun K9 hK9 => ?_
      refine wp_append_at (.tmp 27) (.tmp 37) 52 rfl (w.heap.size + 1) 72 i0 _ 1 24 Try.underlying52 hi9 hy0 hy1 hy2 rfl (by decide) (.slice at' j ct) j _ (by rfl) own' ⟨k6, 0, none⟩ 1 1 [.slice (some ⟨q, 0, none⟩) 1 1] (by rfl) rfl (fun i u hu => by rw [add0]; exact cell_blk hqn (by simpa using hu)) (fun u hu => by simp at hu; subst hu; rfl) (by unfold maxLen; omega) (by omega) (by have := hM.f.2; omega) ?_
      intro v1 w1 hown1 hg1 hv1
      obtain ⟨a1, b9, rfl⟩ := row_shape hown1
      refine hK9 _ _ (.inr ((hM.grown .t hg1).1 1 _ rfl)) ?_
      clear hK9 K9
      obtain ⟨mc, mf, _, _, _⟩ := hM.grown .t hg1
      have mf0 := mf.1 1
      refine listF_step rfl fun K9 hK9 => ?_
      go_simp
      refine hK9 _ _ (.inl rfl) ?_
      clear hK9 K9
      refine listF_step rfl fun K9 hK9 => ?_
      go_simp
      refine hK9 _ _ (.inl rfl) ?_
      clear hK9 K9
      have mc0 := mc 1 _ rfl
      refine listF_step rfl fun K9 hK9 => ?_
      go_simp
      obtain ⟨P1, P2⟩ := hM.tableApp (by rw [upd_same]; exact hown1) hg1 hv1
      refine hK9 _ _ (.inl rfl) ?_
      clear hK9 K9 mc mf mc0 mf0 own'

      unfold wpListF noPanic
      obtain ⟨V7, hV7⟩ : ∃ V7, w1.setCell ⟨w.heap.size, 1, none⟩ (.slice a1 (j + 1) b9) = V7 := ⟨_, rfl⟩
      rw [hV7] at P1 P2 ⊢
      clear hV7 hown1 hg1 hv1 hM
      have hM := P1
      replace BB := BB.trans P2
      clear P1 P2
      rename Option Addr => at2
      simp only [Exit.then]
      go_upto_region 7 with (fail)
      have m0 := hM.c 0 _ rfl
      have m1 := hM.c 1 _ rfl
      have m2 := hM.c 2 _ rfl
      have km0 := cell_regrown m0; have km1 := cell_regrown m1; have km2 := cell_regrown m2
      have fzm := hM.f.1 2
      obtain ⟨i0, hi9, hy0, hy1, hy2⟩ := info_parts info26
      have hM9 := hM.keep (Below.alloc (Below.refl _ V7) (Nat.le_refl _) (.cells #[.slice none 0 0] 26))
      have own' := hM9.rows.1 .h
      go_wp2_with (first
        | (at_builtin; refine wpList_append_own_at _ rfl _ _ 53 rfl (w.heap.size + 1) 26 i0 _ 1 24 Try.underlying53 hi9 hy0 hy1 hy2 rfl (by decide) (.slice ah j ch) j _ rfl own' ⟨V7.heap.size, 0, none⟩ 1 1 [.slice none 0 0] rfl rfl (fun i u hu => by rw [add0]; exact new0 rfl (by simpa using hu)) (fun u hu => by simp at hu; subst hu; rfl) (by unfold maxLen; omega) (by omega) (by have := hM9.f.2; omega) ?_; intro v1 w1 hown1 hg1 _ hv1; obtain ⟨a1, b9, rfl⟩ := row_shape hown1; have mc0 := (hM9.grown .h hg1).1 2 _ rfl; have mf0 := (hM9.grown .h hg1).2.1.1 2))
      obtain ⟨P1, P2⟩ := hM9.heardNew hown1 hg1 hv1
      go_roundw
      case rel => exact ⟨j + 1, by omega, by go_num, (ball BB _).trans P2, _, _, _, _, _, _, _, P1⟩
      case measure => simp [intOf]; omega
    ·
      have hjn : n = j := by omega
      subst hjn
      have hlt1 : ¬ (n : Int) < (n : Int) := by omega
      go_wp2_with fail
      go_ret
      obtain ⟨gr, c1, h1⟩ := hM.rform (by omega)
      obtain ⟨gt, c2, h2⟩ := hM.tform (by omega)
      obtain ⟨gh, c3, h3⟩ := hM.hform (by omega)
      rw [h1, h2, h3] at hM
      exact ⟨rfl, BB, gr, c1, gt, c2, gh, c3, _, _, hM⟩
end Go.Proofs.Ytbonchnhngaicaa
