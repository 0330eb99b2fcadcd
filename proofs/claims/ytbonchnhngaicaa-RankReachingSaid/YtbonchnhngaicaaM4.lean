/- Proved: that apply, a function of the statements, performs a move on the mesh. Conditions: those that the theorem names. -/
import Derived.Test.YtbonchnhngaicaaM5
import Derived.Test.YtbonchnhngaicaaLate
namespace Go.Proofs.Ytbonchnhngaicaa
open Go.RowKit Go.Sort Go.BigFrame
set_option linter.unusedVariables false
set_option linter.unusedSimpArgs false
attribute [local go_sem] cell_alloc_old
attribute [local go_sem ↓] Go.wp_at_zero Go.wp_at_succ

set_option maxRecDepth 100000 in
set_option maxHeartbeats 8000000 in
theorem apply_0 (K : Nat → Prop) (w0 w : World) (mb n : Nat) (M : Msh) (gr cr gt ct gh ch : Nat) (ts hs : Nat → Value) (hM : MeshIs K w0 w mb n n n M (.slice (some ⟨gr, 0, none⟩) n cr) (.slice (some ⟨gt, 0, none⟩) n ct) (.slice (some ⟨gh, 0, none⟩) n ch) ts hs)
    (hn : 2 ≤ n) (hn2 : n ≤ 100) (d nd fr lt co : Int) (hd0 : 0 ≤ d) (hd1 : d ≤ 255) (hnd0 : 0 ≤ nd) (hnd1 : nd ≤ 255) (hfr0 : 0 ≤ fr) (hfr1 : fr ≤ 255) (hlt0 : 0 ≤ lt) (hlt1 : lt ≤ 255) (hco0 : 0 ≤ co) (hco1 : co ≤ 65535)
    (i k : Nat) (hi : nd.tmod n = i) (hk : fr.tmod n = k) (hin : i < n) (hkn : k < n) (hlt' : Hid (∀ j, (M.T j).length ≤ 1000000)) (hlh : Hid (∀ j, (M.H j).length ≤ 1000000)) (hdd : (d % 4 == 0) = true) (hi2 : (0 : Int) < i) (c : Rt) (hc : Hid (chooseV (M.R i) (M.H i) = c)) :
    Calls Try.prog 27 #[.pointer (some ⟨mb, 0, none⟩), .agg #[.int .u8 d, .int .u8 nd, .int .u8 fr, .int .u8 lt, .int .u16 co]] w (Heard K w0 w mb n n n { M with R := upd M.R i c, T := upd M.T i (M.T i ++ [c.o]) } (.slice (some ⟨gr, 0, none⟩) n cr) (.slice (some ⟨gt, 0, none⟩) n ct) (.slice (some ⟨gh, 0, none⟩) n ch)) := by
  have HMB := hM.f.2
  have hi1 : (i : Int) < (n : Int) := by omega
  have hi0 : (0 : Int) ≤ (i : Int) := by omega
  have hk1 : (k : Int) < (n : Int) := by omega
  have hk0 : (0 : Int) ≤ (k : Int) := by omega
  have hz0 : (0 : Int) < (n : Int) := by omega
  have hn0 : ¬ (n : Int) = 0 := by omega
  have hn0' : ¬ n = 0 := by omega
  go_enter Try.func27, Try.ntmps27
  go_upto_region 1 with (fail)
  have Tx := CAt.new (w) [.int .u8 d, .int .u8 nd, .int .u8 fr, .int .u8 lt, .int .u16 co] 50
  replace hM := hM.keep (Below.alloc (Below.refl _ (w)) (Nat.le_refl _) (.cells #[.int .u8 d, .int .u8 nd, .int .u8 fr, .int .u8 lt, .int .u16 co] 50))
  have BB : Below w.heap.size w ((w).alloc (.cells #[.int .u8 d, .int .u8 nd, .int .u8 fr, .int .u8 lt, .int .u16 co] 50)) := ball (Below.refl _ _) _
  obtain ⟨V1, hV1⟩ : ∃ V1, w.alloc (.cells #[.int .u8 d, .int .u8 nd, .int .u8 fr, .int .u8 lt, .int .u16 co] 50) = V1 := ⟨_, rfl⟩
  rw [hV1] at BB Tx hM ⊢
  clear hV1
  have x0 := Tx 0 _ rfl
  have x1 := Tx 1 _ rfl
  have x2 := Tx 2 _ rfl
  have x3 := Tx 3 _ rfl
  have x4 := Tx 4 _ rfl
  have m0 := hM.c 0 _ rfl
  have m1 := hM.c 1 _ rfl
  have m2 := hM.c 2 _ rfl
  have km0 := cell_regrown m0; have km1 := cell_regrown m1; have km2 := cell_regrown m2
  go_upto_region 2 with (fail)
  clear x0 x1 x2 x3 x4 m0 m1 m2 km0 km1 km2
  have x0 := Tx 0 _ rfl
  have kx0 := cell_regrown x0
  have x1 := Tx 1 _ rfl
  have kx1 := cell_regrown x1
  have x2 := Tx 2 _ rfl
  have kx2 := cell_regrown x2
  have x3 := Tx 3 _ rfl
  have kx3 := cell_regrown x3
  have x4 := Tx 4 _ rfl
  have kx4 := cell_regrown x4
  refine wp_region_quiet_below (by kernel_rfl) (by kernel_rfl) ?_
  repeat (go_big_quiet_step (fail))
  refine wpQuiet_nil ?_
  intro _ hw'
  obtain ⟨⟨dq, osq⟩, hw''⟩ := hw'
  subst hw''
  clear x0 kx0 x1 kx1 x2 kx2 x3 kx3 x4 kx4
  have bq := below_regrown V1 dq osq
  obtain ⟨V2, hV2⟩ : ∃ V2, grow (redrawn V1 dq) osq = V2 := ⟨_, rfl⟩
  rw [hV2] at bq ⊢
  clear hV2 dq osq
  replace Tx := Tx.keep bq
  replace hM := hM.keep bq
  replace BB := bstep BB bq
  clear bq
  have x0 := Tx 0 _ rfl
  have x1 := Tx 1 _ rfl
  have x2 := Tx 2 _ rfl
  have x3 := Tx 3 _ rfl
  have x4 := Tx 4 _ rfl
  have m0 := hM.c 0 _ rfl
  have m1 := hM.c 1 _ rfl
  have m2 := hM.c 2 _ rfl
  have km0 := cell_regrown m0; have km1 := cell_regrown m1; have km2 := cell_regrown m2
  go_upto_region 8 with (fail)
  clear x0 x1 x2 x3 x4 m0 m1 m2 km0 km1 km2
  have m0 := hM.c 0 _ rfl
  have m1 := hM.c 1 _ rfl
  have m2 := hM.c 2 _ rfl
  have km0 := cell_regrown m0; have km1 := cell_regrown m1; have km2 := cell_regrown m2
  obtain ⟨r, hr⟩ : ∃ r, M.R i = r := ⟨_, rfl⟩
  obtain ⟨r0, r1, r2, r3, r4⟩ := hM.route hin
  rw [hr] at r0 r1 r2 r3 r4
  have kr0 := cell_regrown r0; have kr1 := cell_regrown r1; have kr2 := cell_regrown r2; have kr3 := cell_regrown r3; have kr4 := cell_regrown r4
  have HR := Lib.hid hr; clear hr
  obtain ⟨a, cc, hsi, hof, hnc, hcm⟩ := hM.offers i
  obtain ⟨l, hl⟩ : ∃ l, M.H i = l := ⟨_, rfl⟩
  rw [hl] at hsi hof hnc
  have hlen : l.length ≤ 1000000 := by rw [← hl]; exact hlh.out i
  have hh := hM.hear hin
  rw [hsi] at hh
  have khh := cell_regrown hh
  have HL := Lib.hid hl; clear hl hnc hcm hsi
  have CH : ∀ w', Below V2.heap.size V2 w' → Calls Try.prog 18 #[r.v, .slice a l.length cc] w' fun e w'' => e = .returned c.v ∧ Below w'.heap.size w' w'' := fun w' h => choose_at r c l.length a cc l w' rfl (hof.keep h) (by unfold maxLen; omega) (by rw [← HR.out, ← HL.out]; exact hc.out)
  clear hof
  have bs3 : w.heap.size ≤ V2.heap.size := BB.size
  have lt3x : w.heap.size < V2.heap.size := World.block_lt_of_cell? V2 ⟨w.heap.size, 0, none⟩ (Tx 0 _ rfl)
  have x0 := Tx 0 _ rfl
  have kx0 := cell_regrown x0
  have x1 := Tx 1 _ rfl
  have kx1 := cell_regrown x1
  have x2 := Tx 2 _ rfl
  have kx2 := cell_regrown x2
  have x3 := Tx 3 _ rfl
  have kx3 := cell_regrown x3
  have x4 := Tx 4 _ rfl
  have kx4 := cell_regrown x4
  refine' wp_region_mixed [0, 1, 2, 3, 4, 5, 6, 7, 8, 9, 10, 11, 12, 13, 14, 15, 16, 17, 18, 19, 20] [] [21] (by kernel_rfl) (by kernel_rfl) _ (fun Z hZ hN => quiet_hole ?hq8) (fun _ => .cells #[] 0) (fun _ p => .pointer (some ⟨p, 0, none⟩)) (fun i hi => by cases hi) ?ht8
  case hq8 =>
    intro Q9 hQ9
    show wpQuiet _ _ _ _ [_, _, _, _, _, _, _, _, _, _, _, _, _, _, _, _, _, _, _, _, _] _
    repeat (go_big_quiet_step (first
      | (go_at_call 18; with_reducible exact rgX hZ CH)))
    exact wpQuiet_nil hQ9
  rintro π z3 hz3 hπ hπd
  simp only [List.filterMap_cons, List.filterMap_nil, List.getElem?_cons_zero, List.getElem?_cons_succ, putsA, Option.bind_some, Act.put, List.setIfInBounds_toArray, List.set_cons_zero, List.set_cons_succ]
  show wpList _ _ _ [_] _ _
  clear x0 kx0 x1 kx1 x2 kx2 x3 kx3 x4 kx4
  replace Tx := Tx.keep hz3
  replace hM := hM.keep hz3
  replace BB := bstep BB hz3
  clear CH hh khh hlen m0 m1 m2 km0 km1 km2 r0 r1 r2 r3 r4 kr0 kr1 kr2 kr3 kr4
  obtain ⟨r0, r1, r2, r3, r4⟩ := hM.route hin
  have f0 := hM.routeF (i * 5); have f1 := hM.routeF (i * 5 + 1); have f2 := hM.routeF (i * 5 + 2); have f3 := hM.routeF (i * 5 + 3); have f4 := hM.routeF (i * 5 + 4)
  go_upto_region 9 with (fail)
  clear r0 r1 r2 r3 r4 f0 f1 f2 f3 f4
  obtain ⟨P1, P2⟩ := hM.setRoute hin c
  replace P1 : MeshIs K w0 (World.setCell (World.setCell (World.setCell (World.setCell (World.setCell z3 ⟨gr, i * 5, none⟩ (.int .i64 c.o.s)) ⟨gr, i * 5 + 1, none⟩ (.int .i64 c.o.r)) ⟨gr, i * 5 + 2, none⟩ (.int .i64 c.l.s)) ⟨gr, i * 5 + 3, none⟩ (.int .i64 c.l.r)) ⟨gr, i * 5 + 4, none⟩ (.int .i64 c.p)) mb n n n _ (.slice (some ⟨gr, 0, none⟩) n cr) (.slice (some ⟨gt, 0, none⟩) n ct) (.slice (some ⟨gh, 0, none⟩) n ch) ts hs := P1
  replace P2 : Below mb z3 (World.setCell (World.setCell (World.setCell (World.setCell (World.setCell z3 ⟨gr, i * 5, none⟩ (.int .i64 c.o.s)) ⟨gr, i * 5 + 1, none⟩ (.int .i64 c.o.r)) ⟨gr, i * 5 + 2, none⟩ (.int .i64 c.l.s)) ⟨gr, i * 5 + 3, none⟩ (.int .i64 c.l.r)) ⟨gr, i * 5 + 4, none⟩ (.int .i64 c.p)) := P2
  obtain ⟨V4, hV4⟩ : ∃ V4, (World.setCell (World.setCell (World.setCell (World.setCell (World.setCell z3 ⟨gr, i * 5, none⟩ (.int .i64 c.o.s)) ⟨gr, i * 5 + 1, none⟩ (.int .i64 c.o.r)) ⟨gr, i * 5 + 2, none⟩ (.int .i64 c.l.s)) ⟨gr, i * 5 + 3, none⟩ (.int .i64 c.l.r)) ⟨gr, i * 5 + 4, none⟩ (.int .i64 c.p)) = V4 := ⟨_, rfl⟩
  rw [hV4] at P1 P2 ⊢
  clear hV4 hM Tx
  have hM := P1
  replace BB := (BB.mono (Nat.le_of_lt HMB)).trans P2
  clear P1 P2
  have m0 := hM.c 0 _ rfl
  have m1 := hM.c 1 _ rfl
  have m2 := hM.c 2 _ rfl
  have km0 := cell_regrown m0; have km1 := cell_regrown m1; have km2 := cell_regrown m2
  obtain ⟨v9, hv9⟩ : ∃ v9, ts i = v9 := ⟨_, rfl⟩
  have htl := hM.tell hin
  rw [hv9] at htl
  obtain ⟨a9, c9, rfl⟩ : ∃ a9 c9, v9 = .slice a9 (M.T i).length c9 := by
    rcases (hM.rows.1 (.ti i)).2 with ⟨h, h0⟩ | ⟨g, cap, cur, h, _⟩
    · have h' : ts i = .slice none 0 0 := h
      have h0' : (M.T i).length = 0 := h0
      exact ⟨none, 0, by rw [← hv9, h', h0']⟩
    · exact ⟨_, cap, by rw [← hv9]; exact h⟩
  have HV9 := Lib.hid hv9
  clear hv9
  have htd : (M.T i).length ≤ 1000000 := hlt'.out i
  obtain ⟨m9, hm9⟩ : ∃ m9, (M.T i).length = m9 := ⟨_, rfl⟩
  rw [hm9] at htl htd HV9
  have HM9 := Lib.hid hm9; clear hm9
  have ktl := cell_regrown htl
  obtain ⟨r0, r1, r2, r3, r4⟩ := hM.route hin
  simp only [upd_same] at r0 r1 r2 r3 r4
  have kr0 := cell_regrown r0; have kr1 := cell_regrown r1; have kr2 := cell_regrown r2; have kr3 := cell_regrown r3; have kr4 := cell_regrown r4
  have HM2 := hM.f.2
  refine' wp_region_late' [0, 1, 2, 3, 4, 5, 6, 7, 8, 9, 10, 11, 12, 13, 14, 15, 16, 17, 18, 19] [20] [21, 22, 23] [0, 1, 2, 3, 4] (by kernel_rfl) (by kernel_rfl) _
    (fun w' => w'.cell? ⟨mb, 1, none⟩ = some (.slice (some ⟨gt, 0, none⟩) n ct)) (fun j => if j = 0 then .pointer (some ⟨mb, 0, none⟩) else if j = 1 then .pointer (some ⟨mb, 0, none⟩) else if j = 2 then .pointer (some ⟨mb, 1, none⟩) else if j = 3 then .slice (some ⟨gt, 0, none⟩) n ct else if j = 4 then .int .i64 i else undef)
    (fun Z hZ hN => quiet_hole ?hqt9) (fun _ => (.cells #[.int .i64 c.o.s, .int .i64 c.o.r] 23)) (fun _ p => .slice (some ⟨p, 0, none⟩) 1 1) ?hat9 ?hlt9 ?htt9
  case hqt9 =>
    intro Q9 hQ9
    show wpQuiet _ _ _ _ [_, _, _, _, _, _, _, _, _, _, _, _, _, _, _, _, _, _, _, _] _
    repeat (go_big_quiet_step (fail))
    exact wpQuiet_nil hQ9
  case hat9 =>
    intro i hi o ho w' hw'
    simp only [List.mem_cons, List.not_mem_nil, or_false] at hi
    subst hi
    simp only [List.getElem?_cons_succ, List.getElem?_cons_zero, Option.some.injEq] at ho
    subst ho
    kernel_rfl
  case hlt9 =>
    intro j hj o ho
    simp only [List.mem_cons, List.not_mem_nil, or_false] at hj
    rcases hj with rfl | rfl | rfl | rfl | rfl
    all_goals (
      simp only [List.getElem?_cons_succ, List.getElem?_cons_zero, Option.some.injEq] at ho
      subst ho
      refine ⟨fun w' hw' => by go_simp, fun t ht => ?_⟩
      simp only [Option.some.injEq] at ht
      subst ht
      rfl)
  intro π z5 hz hπ _
  obtain ⟨q, hq⟩ : ∃ q, π 20 = q := ⟨_, rfl⟩
  obtain ⟨hqb, hql⟩ := hπ 20 (by simp)
  rw [hq] at hqb hql
  simp only [List.filterMap_cons, List.filterMap_nil, List.getElem?_cons_zero, List.getElem?_cons_succ, putsA, Option.bind_some, Act.put, List.setIfInBounds_toArray, List.set_cons_zero, List.set_cons_succ, hq]
  clear hπ hq
  replace hM := hM.keep hz
  replace BB := BB.trans (hz.mono (Nat.le_of_lt HM2))
  refine ⟨hM.c 1 _ rfl, ?_⟩
  show wpListS _ _ _ _ [_, _, _] _ _
  clear m0 m1 m2 km0 km1 km2 r0 r1 r2 r3 r4 kr0 kr1 kr2 kr3 kr4 htl ktl
  have own' : z5.ownsRow (mb + 1) 23 2 (.slice a9 m9 c9) m9 (flatD (M.T i)) := by
    have h : z5.ownsRow (mb + 1) 23 2 (ts i) (M.T i).length (flatD (M.T i)) := hM.rows.1 (.ti i)
    rwa [HV9.out, HM9.out] at h
  obtain ⟨i0, hi9, hy0, hy1, hy2⟩ := info_parts info23
  refine listS_step rfl fun K9 hK9 => ?_
  refine wp_append_at (.tmp 103) (.tmp 112) 72 rfl (mb + 1) 23 i0 _ 2 16 Try.underlying72 hi9 hy0 hy1 hy2 rfl (by decide) (.slice a9 m9 c9) m9 _ (by rfl) own' ⟨q, 0, none⟩ 1 1 c.o.cs (by rfl) rfl (fun j u hj => by rw [add0]; exact cell_blk hqb (by simpa using hj)) (fun u hu => by simp at hu; rcases hu with rfl | rfl <;> rfl) (by unfold maxLen; omega) (by omega) (by have := hM.f.2; omega) ?_
  intro v1 w1 hown1 hg1 hv1
  obtain ⟨a1, b9, rfl⟩ : ∃ a1 b9, v1 = .slice a1 (m9 + 1) b9 := by
    rcases hown1.2 with ⟨_, h0⟩ | ⟨g9, b9, _, hv9, _⟩
    · omega
    · exact ⟨_, b9, hv9⟩
  have hg2 : z5.grownBy w1 (ts i).ownBlock := by rw [HV9.out]; exact hg1
  have hS := (hM.grown (.ti i) hg2).1 1 _ rfl
  refine hK9 _ _ hS ?_
  clear hK9 K9
  obtain ⟨c1, f1⟩ := hM.tellG hin hg2
  refine listS_step rfl fun K9 hK9 => ?_
  refine wp_of_value (exec_index52 (i := i) (n := n) (g := gt) (c := ct) rfl (by rfl) (by rfl) (by omega)) ?_
  refine hK9 _ _ hS ?_
  clear hK9 K9
  refine listS_step rfl fun K9 hK9 => ?_
  refine wp_of_skip (exec_store72 (i := i) (g := gt) (a := a1) (n := m9 + 1) (c := b9) rfl (by rfl) (by rfl) c1 f1) ?_
  obtain ⟨P1, P2⟩ := hM.toldApp hin c.o (by rw [HM9.out]; exact hown1) hg2 (by rw [HV9.out]; exact hv1)
  refine hK9 _ _ (P1.c 1 _ rfl) ?_
  clear hK9 K9
  unfold wpListS noPanic
  go_end0
  exact ⟨rfl, ⟨_, _, P1⟩, BB.trans P2⟩
end Go.Proofs.Ytbonchnhngaicaa
