/- Proved: that hear, a function of the statements, notes an offer in the mesh. Conditions: those that the theorem names. -/
import Derived.Test.YtbonchnhngaicaaM2
import Derived.Test.YtbonchnhngaicaaLate
import Derived.Deep.RegionLaw
namespace Go.Proofs.Ytbonchnhngaicaa
open Go.RowKit Go.Sort Go.BigFrame
set_option linter.unusedVariables false
set_option linter.unusedSimpArgs false
attribute [local go_sem] cell_alloc_old
attribute [local go_sem ↓] Go.wp_at_zero Go.wp_at_succ

/-- A node has heard this offer: the first one of the same peer is replaced, or it comes last. -/
def putO : List Ofr → Ofr → List Ofr
  | [], o => [o]
  | x :: l, o => if x.p = o.p then o :: l else x :: putO l o
theorem putO_at : ∀ {l : List Ofr} {o : Ofr} {j : Nat}, j < l.length → (∀ q, q < j → (l.getD q default).p ≠ o.p) → (l.getD j default).p = o.p → putO l o = l.set j o
  | [], _, _, h, _, _ => by simp at h
  | x :: l, o, 0, _, _, h => by
    have : x.p = o.p := by simpa using h
    simp [putO, this]
  | x :: l, o, j + 1, hj, h0, h => by
    have h1 : x.p ≠ o.p := by simpa using h0 0 (by omega)
    simp only [putO, if_neg h1, List.set_cons_succ]
    rw [putO_at (by simpa using hj) (fun q hq => by simpa using h0 (q + 1) (by omega)) (by simpa using h)]
theorem putO_new : ∀ {l : List Ofr} {o : Ofr}, (∀ q, q < l.length → (l.getD q default).p ≠ o.p) → putO l o = l ++ [o]
  | [], _, _ => rfl
  | x :: l, o, h => by
    have h1 : x.p ≠ o.p := by simpa using h 0 (by simp)
    simp only [putO, if_neg h1, List.cons_append]
    rw [putO_new fun q hq => by simpa using h (q + 1) (by simpa using hq)]
theorem info40' : (Try.prog.info? 40).map (fun i => (i.zero, i.size, i.bytes)) = some (some (.agg #[.int .i64 0, .int .i64 0, .int .i64 0, .int .i64 0]), 4, 32) := by kernel_rfl
theorem info23 : (Try.prog.info? 23).map (fun i => (i.zero, i.size, i.bytes)) = some (some (.agg #[.int .i64 0, .int .i64 0]), 2, 16) := by kernel_rfl
theorem wp_append_at {P : Program} {w : World} {o : Oper} {a : Act} {K : Act → World → Prop} {Q : Exit → Act → World → Prop} (s x : Operand) (t : TypeId)
    (ho : o.op = .call { callee := .builtin .append, args := #[s, x], argTypes := #[t, t] })
    (base : Nat) (e : TypeId) (i : TypeInfo) (z : Value) (size bytes : Nat) (ht : P.underlying t = some (.slice e)) (hi : P.info? e = some i) (hz : i.zero = some z)
    (hsize : i.size = size) (hby : i.bytes = bytes) (hzs : z.cells.size = size) (hsz : 0 < size)
    (v : Value) (n : Nat) (xs : List Value) (hs : a.eval s = v) (hown : w.ownsRow base e size v n xs)
    (ad : Addr) (m c : Nat) (news : List Value) (hx : a.eval x = .slice (some ad) m c) (hl : news.length = m * size) (hnews : ∀ j u, news[j]? = some u → w.cell? (ad.add j) = some u) (h1 : ∀ u ∈ news, u.oneCell' = true)
    (h63 : n + m ≤ maxLen) (hbytes : (n + m) * bytes ≤ 140737488355328) (hbase : base ≤ w.heap.size)
    (h : ∀ v' w', w'.ownsRow base e size v' (n + m) (xs ++ news) → w.grownBy w' v.ownBlock → (v'.ownBlock = v.ownBlock ∨ v'.ownBlock = some w.heap.size) → K (a.put o.dst v') w') : o.wp P a w K Q := by
  obtain ⟨v', w', hr, h2, h3, _, h5⟩ := run_append_own_at (P := P) w base t o.type e i z size bytes ht hi hz hsize hby hzs hsz v n xs hown ad m c news hl hnews h1 h63 hbytes hbase
  unfold Oper.wp execOp
  simp only [ho, resolve, invoke, builtin, Sem.run_bind, Sem.run_pure, Result.andThen_ok, List.map_toArray, List.map_cons, List.map_nil, hs, hx, hr]
  exact h v' w' h2 h3 h5
theorem add0 (b j : Nat) : (⟨b, 0, none⟩ : Addr).add j = ⟨b, j, none⟩ := by unfold Addr.add; by_cases h0 : j = 0 <;> simp [h0]
section
variable {K : Nat → Prop} {w0 w w1 : World} {mb nr nt nh : Nat} {M : Msh} {rv tv hv : Value} {ts hs : Nat → Value} {gr cr gt ct gh ch : Nat}
theorem MeshIs.hearG (h : MeshIs K w0 w mb nr nt nh M rv tv (.slice (some ⟨gh, 0, none⟩) nh ch) ts hs) {i : Nat} (hi : i < nh) (hg : w.grownBy w1 (hs i).ownBlock) : w1.cell? ⟨gh, i, none⟩ = some (hs i) ∧ w1.frozen? ⟨gh, i, none⟩ = false := by
  have hne : some gh ≠ (hs i).ownBlock := fun e => h.rows.2 (.hi i) .h gh (by simp) e.symm rfl
  exact ⟨hg.cell (h.hear hi) hne, (World.frozen?_of_block (w := w) (hg.block gh ((h.rows.1 .h).lt gh rfl).2 hne)).trans (h.hearF i)⟩
theorem MeshIs.tellG (h : MeshIs K w0 w mb nr nt nh M rv (.slice (some ⟨gt, 0, none⟩) nt ct) hv ts hs) {i : Nat} (hi : i < nt) (hg : w.grownBy w1 (ts i).ownBlock) : w1.cell? ⟨gt, i, none⟩ = some (ts i) ∧ w1.frozen? ⟨gt, i, none⟩ = false := by
  have hne : some gt ≠ (ts i).ownBlock := fun e => h.rows.2 (.ti i) .t gt (by simp) e.symm rfl
  exact ⟨hg.cell (h.tell hi) hne, (World.frozen?_of_block (w := w) (hg.block gt ((h.rows.1 .t).lt gt rfl).2 hne)).trans (h.tellF i)⟩
end
/-- What hear and apply leave. -/
def Heard (K : Nat → Prop) (w0 w : World) (mb nr nt nh : Nat) (M : Msh) (rv tv hv : Value) (e : Ending) (w' : World) : Prop :=
  e = .returned (.tuple #[]) ∧ (∃ ts hs, MeshIs K w0 w' mb nr nt nh M rv tv hv ts hs) ∧ Below mb w w'

set_option maxRecDepth 100000 in
set_option maxHeartbeats 1000000 in
theorem hear_at (K : Nat → Prop) (w0 w : World) (mb nr nt n : Nat) (M : Msh) (rv tv : Value) (gh ch : Nat) (ts hs : Nat → Value) (hM : MeshIs K w0 w mb nr nt n M rv tv (.slice (some ⟨gh, 0, none⟩) n ch) ts hs)
    (i : Nat) (hi : i < n) (hn : n ≤ 100) (o : Ofr) (hlen : Hid ((M.H i).length ≤ 1000000)) :
    Calls Try.prog 29 #[.pointer (some ⟨mb, 0, none⟩), .int .i64 i, o.v] w (Heard K w0 w mb nr nt n { M with H := upd M.H i (putO (M.H i) o) } rv tv (.slice (some ⟨gh, 0, none⟩) n ch)) := by
  obtain ⟨a, cc, hsi, _, hmc, hcm⟩ := hM.offers i
  have HSI := Lib.hid hsi
  obtain ⟨l, hl⟩ : ∃ l, M.H i = l := ⟨_, rfl⟩
  rw [hl] at hsi hmc hlen ⊢
  have HL := Lib.hid hl; clear hl
  obtain ⟨m, hm⟩ : ∃ m, l.length = m := ⟨_, rfl⟩
  rw [hm] at hsi hmc hlen
  have HMM := Lib.hid hm; clear hm
  have hi1 : (i : Int) < (n : Int) := by omega
  have hi0 : (0 : Int) ≤ (i : Int) := by omega
  have hmc' : (m : Int) ≤ (cc : Int) := by omega
  have HMC := Lib.hid hmc
  have HCM := Lib.hid hcm
  clear hmc hcm
  have HMB := hM.f.2
  go_enter Try.func29, Try.ntmps29
  go_upto_region 1 with (fail)
  have To := CAt.new (w) [.int .i64 o.p, .int .i64 o.t.s, .int .i64 o.t.r, .int .i64 o.c] 40
  replace hM := hM.keep (Below.alloc (Below.refl _ (w)) (Nat.le_refl _) (.cells #[.int .i64 o.p, .int .i64 o.t.s, .int .i64 o.t.r, .int .i64 o.c] 40))
  have BB : Below w.heap.size w ((w).alloc (.cells #[.int .i64 o.p, .int .i64 o.t.s, .int .i64 o.t.r, .int .i64 o.c] 40)) := ball (Below.refl _ _) _
  obtain ⟨V1, hV1⟩ : ∃ V1, w.alloc (.cells #[.int .i64 o.p, .int .i64 o.t.s, .int .i64 o.t.r, .int .i64 o.c] 40) = V1 := ⟨_, rfl⟩
  rw [hV1] at BB To hM ⊢
  clear hV1
  have o0 := To 0 _ rfl
  have o1 := To 1 _ rfl
  have o2 := To 2 _ rfl
  have o3 := To 3 _ rfl
  have m2 := hM.c 2 _ rfl
  have h1 := hM.hear hi
  rw [hsi] at h1
  go_upto_region 2 with (fail)
  clear o0 o1 o2 o3 m2 h1
  have BB0 := BB
  go_loopw [15] (fun g wr => ∃ j : Nat, j ≤ m ∧ g = .int .i64 j ∧ (∀ q, q < j → (l.getD q default).p ≠ o.p) ∧ Below w.heap.size w wr ∧ CAt wr w.heap.size [.int .i64 o.p, .int .i64 o.t.s, .int .i64 o.t.r, .int .i64 o.c] ∧ MeshIs K w0 wr mb nr nt n M rv tv (.slice (some ⟨gh, 0, none⟩) n ch) ts hs) (fun g _ => m - (intOf g).toNat)
  case atStart => exact ⟨0, Nat.zero_le _, rfl, fun q hq => by omega, BB, To, hM⟩
  case round =>
    clear BB To hM BB0
    obtain ⟨j, hj, rfl, hno, BB, To, hM⟩ := hrel
    by_cases hlt : j < m
    ·
      have hmx : m ≤ 1000000 := hlen.out
      have hj1 : (j : Int) < (m : Int) := by omega
      have hj0 : (0 : Int) ≤ (j : Int) := by omega
      have own := hM.rows.1 (.hi i)
      obtain ⟨g, c9, hg⟩ := form' own (by show 0 < (M.H i).length; rw [HL.out, HMM.out]; omega)
      have hae : a = some ⟨g, 0, none⟩ := by
        have h : hs i = .slice (some ⟨g, 0, none⟩) (M.H i).length c9 := hg
        rw [hsi] at h; simp at h; exact h.1
      subst hae
      have hgh := (own.lt g (by show (hs i).ownBlock = some g; rw [hsi]; rfl))
      have HGH := Lib.hid hgh
      have key : ∀ q, q < 4 → wr.cell? ⟨g, j * 4 + q, none⟩ = (flat l)[j * 4 + q]? := fun q hq => by
        have own' : wr.ownsRow (mb + 1) 40 4 (.slice (some ⟨g, 0, none⟩) m cc) m (flat l) := by
          have h : wr.ownsRow (mb + 1) 40 4 (hs i) (M.H i).length (flat (M.H i)) := own
          rwa [hsi, HL.out, HMM.out] at h
        exact World.ownsRow.cellAt own' (j * 4 + q) (by omega)
      have fk : ∀ q, wr.frozen? ⟨g, q, none⟩ = false := fun q => by
        have own' : wr.ownsRow (mb + 1) 40 4 (.slice (some ⟨g, 0, none⟩) m cc) m (flat l) := by
          have h : wr.ownsRow (mb + 1) 40 4 (hs i) (M.H i).length (flat (M.H i)) := own
          rwa [hsi, HL.out, HMM.out] at h
        exact World.ownsRow.frozenAt own' q
      have fl := flat_at l j (by rw [HMM.out]; omega)
      obtain ⟨x, hx⟩ : ∃ x, l.getD j default = x := ⟨_, rfl⟩
      rw [hx] at fl
      have HX := Lib.hid hx
      have x0 := (key 0 (by omega)).trans fl.1
      rw [Nat.add_zero] at x0
      have x1 := (key 1 (by omega)).trans fl.2.1
      have x2 := (key 2 (by omega)).trans fl.2.2.1
      have x3 := (key 3 (by omega)).trans fl.2.2.2
      have f0 := fk (j * 4); have f1 := fk (j * 4 + 1); have f2 := fk (j * 4 + 2); have f3 := fk (j * 4 + 3)
      clear key fk fl own hg hgh hx
      have o0 := To 0 _ rfl
      have o1 := To 1 _ rfl
      have o2 := To 2 _ rfl
      have o3 := To 3 _ rfl
      have m2 := hM.c 2 _ rfl
      have h1 := hM.hear hi
      rw [hsi] at h1
      go_upto_region 4 with (fail)
      clear o0 o1 o2 o3 m2 h1
      have m2 := hM.c 2 _ rfl
      have h1 := hM.hear hi
      rw [hsi] at h1
      have km2 := cell_regrown m2; have kh1 := cell_regrown h1; have kx0 := cell_regrown x0
      have o0 := To 0 _ rfl
      have ko0 := cell_regrown o0
      have o1 := To 1 _ rfl
      have ko1 := cell_regrown o1
      have o2 := To 2 _ rfl
      have ko2 := cell_regrown o2
      have o3 := To 3 _ rfl
      have ko3 := cell_regrown o3
      refine wp_region_quiet_below (by kernel_rfl) (by kernel_rfl) ?_
      repeat (go_big_quiet_step (fail))
      refine wpQuiet_nil ?_
      intro _ hw'
      obtain ⟨⟨dq, osq⟩, hw''⟩ := hw'
      subst hw''
      clear o0 ko0 o1 ko1 o2 ko2 o3 ko3
      have bq := below_regrown wr dq osq
      obtain ⟨V2, hV2⟩ : ∃ V2, grow (redrawn wr dq) osq = V2 := ⟨_, rfl⟩
      rw [hV2] at bq ⊢
      clear hV2 dq osq
      replace To := To.keep bq
      replace hM := hM.keep bq
      replace BB := bstep BB bq
      clear bq
      clear m2 h1 km2 kh1 kx0 x0 x1 x2 x3 f0 f1 f2 f3
      by_cases he : x.p = o.p
      ·
        have HE := Lib.hid he
        have heb : (x.p == o.p) = true := by simp [he]
        go_upto_region 5 with (fail)
        have m2 := hM.c 2 _ rfl
        have h1 := hM.hear hi
        rw [hsi] at h1
        have km2 := cell_regrown m2; have kh1 := cell_regrown h1
        have bs3 : w.heap.size ≤ V2.heap.size := BB.size
        have lt3o : w.heap.size < V2.heap.size := World.block_lt_of_cell? V2 ⟨w.heap.size, 0, none⟩ (To 0 _ rfl)
        have o0 := To 0 _ rfl
        have ko0 := cell_regrown o0
        have o1 := To 1 _ rfl
        have ko1 := cell_regrown o1
        have o2 := To 2 _ rfl
        have ko2 := cell_regrown o2
        have o3 := To 3 _ rfl
        have ko3 := cell_regrown o3
        refine' wp_region_mixed [0, 1, 2, 3, 4, 5, 6, 7, 8, 9] [] [10] (by kernel_rfl) (by kernel_rfl) _ (fun Z hZ hN => quiet_hole ?hq5) (fun _ => .cells #[] 0) (fun _ p => .pointer (some ⟨p, 0, none⟩)) (fun i hi => by cases hi) ?ht5
        case hq5 =>
          intro Q9 hQ9
          show wpQuiet _ _ _ _ [_, _, _, _, _, _, _, _, _, _] _
          repeat (go_big_quiet_step (fail))
          exact wpQuiet_nil hQ9
        rintro π z3 hz3 hπ hπd
        simp only [List.filterMap_cons, List.filterMap_nil, List.getElem?_cons_zero, List.getElem?_cons_succ, putsA, Option.bind_some, Act.put, List.setIfInBounds_toArray, List.set_cons_zero, List.set_cons_succ]
        show wpList _ _ _ [_] _ _
        clear o0 ko0 o1 ko1 o2 ko2 o3 ko3
        replace To := To.keep hz3
        replace hM := hM.keep hz3
        replace BB := bstep BB hz3
        clear m2 h1 km2 kh1
        have own := hM.rows.1 (.hi i)
        have own' : z3.ownsRow (mb + 1) 40 4 (.slice (some ⟨g, 0, none⟩) m cc) m (flat l) := by
          have h : z3.ownsRow (mb + 1) 40 4 (hs i) (M.H i).length (flat (M.H i)) := own
          rwa [hsi, HL.out, HMM.out] at h
        have fl := flat_at l j (by rw [HMM.out]; omega)
        have x0 := (World.ownsRow.cellAt own' (j * 4) (by omega)).trans fl.1
        have x1 := (World.ownsRow.cellAt own' (j * 4 + 1) (by omega)).trans fl.2.1
        have x2 := (World.ownsRow.cellAt own' (j * 4 + 2) (by omega)).trans fl.2.2.1
        have x3 := (World.ownsRow.cellAt own' (j * 4 + 3) (by omega)).trans fl.2.2.2
        have f0 := World.ownsRow.frozenAt own' (j * 4); have f1 := World.ownsRow.frozenAt own' (j * 4 + 1); have f2 := World.ownsRow.frozenAt own' (j * 4 + 2); have f3 := World.ownsRow.frozenAt own' (j * 4 + 3)
        clear fl own own' 
        have o0 := To 0 _ rfl
        have o1 := To 1 _ rfl
        have o2 := To 2 _ rfl
        have o3 := To 3 _ rfl
        have m2 := hM.c 2 _ rfl
        have h1 := hM.hear hi
        rw [hsi] at h1
        go_wp2_with fail
        ((try simp only [Exit.inBlock, Exit.then]); refine bodyPost_ret (results_none rfl _ _ _) (by rfl) ?_)
        obtain ⟨P1, P2⟩ := hM.heardPut (i := i) (j := j) (g := g) (c := cc) (by rw [hsi, HL.out, HMM.out]) (by rw [HL.out, HMM.out]; omega) o
        rw [HL.out, ← putO_at (by rw [HMM.out]; omega) hno (by rw [HX.out]; exact HE.out)] at P1
        exact ⟨rfl, ⟨ts, hs, P1⟩, (BB.mono (Nat.le_of_lt HMB)).trans P2⟩
      ·
        have heb : (x.p == o.p) = false := by simp [he]
        go_wp2_with fail
        go_roundw
        case rel => exact ⟨j + 1, by omega, by go_num, fun q hq => by rcases Nat.lt_or_ge q j with hq2 | hq2; exact hno q hq2; obtain rfl : q = j := (by omega); rw [HX.out]; exact he, BB, To, hM⟩
        case measure => simp [intOf]; omega
    ·
      obtain rfl : m = j := by omega
      have hlt' : ¬ (m : Int) < (m : Int) := by omega
      have hw1 : IntKind.i64.wrap ((m : Int) + 1) = (m : Int) + 1 := IntWalk.i64_in _ (by have := hlen.out; omega)
      have o0 := To 0 _ rfl
      have o1 := To 1 _ rfl
      have o2 := To 2 _ rfl
      have o3 := To 3 _ rfl
      have m2 := hM.c 2 _ rfl
      have h1 := hM.hear hi
      rw [hsi] at h1
      go_upto_region 7 with (fail)
      clear o0 o1 o2 o3 m2 h1
      have m2 := hM.c 2 _ rfl
      have h1 := hM.hear hi
      rw [hsi] at h1
      have km2 := cell_regrown m2; have kh1 := cell_regrown h1
      have o0 := To 0 _ rfl
      have ko0 := cell_regrown o0
      have o1 := To 1 _ rfl
      have ko1 := cell_regrown o1
      have o2 := To 2 _ rfl
      have ko2 := cell_regrown o2
      have o3 := To 3 _ rfl
      have ko3 := cell_regrown o3
      refine' wp_region_late' [0, 1, 2, 3, 4, 5, 6, 7, 8, 9, 10, 11, 12] [13] [14, 15, 16] [0, 1, 2, 3, 4] (by kernel_rfl) (by kernel_rfl) _
        (fun w' => w'.cell? ⟨mb, 2, none⟩ = some (.slice (some ⟨gh, 0, none⟩) n ch)) (fun j => if j = 0 then .pointer (some ⟨mb, 0, none⟩) else if j = 1 then .pointer (some ⟨mb, 0, none⟩) else if j = 2 then .pointer (some ⟨mb, 2, none⟩) else if j = 3 then .slice (some ⟨gh, 0, none⟩) n ch else if j = 4 then .int .i64 i else undef)
        (fun Z hZ hN => quiet_hole ?hq7) (fun _ => (.cells #[.int .i64 o.p, .int .i64 o.t.s, .int .i64 o.t.r, .int .i64 o.c] 40)) (fun _ p => .slice (some ⟨p, 0, none⟩) 1 1) ?ha7 ?hl7 ?ht7
      case hq7 =>
        intro Q9 hQ9
        show wpQuiet _ _ _ _ [_, _, _, _, _, _, _, _, _, _, _, _, _] _
        repeat (go_big_quiet_step (fail))
        exact wpQuiet_nil hQ9
      case ha7 =>
        intro i hi o ho w' hw'
        simp only [List.mem_cons, List.not_mem_nil, or_false] at hi
        subst hi
        simp only [List.getElem?_cons_succ, List.getElem?_cons_zero, Option.some.injEq] at ho
        subst ho
        go_simp
      case hl7 =>
        intro j hj o ho
        simp only [List.mem_cons, List.not_mem_nil, or_false] at hj
        rcases hj with rfl | rfl | rfl | rfl | rfl
        all_goals (
          simp only [List.getElem?_cons_succ, List.getElem?_cons_zero, Option.some.injEq] at ho
          subst ho
          refine ⟨fun w' hw' => by go_simp, fun t ht => ?_⟩
          simp only [Option.some.injEq] at ht
          subst ht
          rfl)
      intro π z2 hz hπ _
      obtain ⟨q, hq⟩ : ∃ q, π 13 = q := ⟨_, rfl⟩
      obtain ⟨hqb, hql⟩ := hπ 13 (by simp)
      rw [hq] at hqb hql
      simp only [List.filterMap_cons, List.filterMap_nil, List.getElem?_cons_zero, List.getElem?_cons_succ, putsA, Option.bind_some, Act.put, List.setIfInBounds_toArray, List.set_cons_zero, List.set_cons_succ, hq]
      clear o0 ko0 o1 ko1 o2 ko2 o3 ko3
      clear hπ hq
      replace To := To.keep hz
      replace hM := hM.keep hz
      replace BB := bstep BB hz
      refine ⟨hM.c 2 _ rfl, ?_⟩
      show wpListS _ _ _ _ [_, _, _] _ _
      clear m2 h1 km2 kh1
      have own := hM.rows.1 (.hi i)
      have own' : z2.ownsRow (mb + 1) 40 4 (.slice a m cc) m (flat l) := by
        have h : z2.ownsRow (mb + 1) 40 4 (hs i) (M.H i).length (flat (M.H i)) := own
        rwa [hsi, HL.out, HMM.out] at h
      obtain ⟨i0, hi9, hz0, hz1, hz2⟩ := info_parts info40'
      refine listS_step rfl fun K9 hK9 => ?_
      refine wp_append_at (.tmp 54) (.tmp 56) 26 rfl (mb + 1) 40 i0 _ 4 32 Try.underlying26 hi9 hz0 hz1 hz2 rfl (by decide) (.slice a m cc) m (flat l) (by rfl) own' ⟨q, 0, none⟩ 1 1 o.cs (by rfl) rfl (fun j u hj => by rw [add0]; exact cell_blk hqb (by simpa using hj)) (fun u hu => by simp at hu; rcases hu with rfl | rfl | rfl | rfl <;> rfl) (by have := hlen.out; unfold maxLen; omega) (by have := hlen.out; omega) (by have := hM.f.2; omega) ?_
      intro v1 w1 hown1 hg1 hv1
      obtain ⟨a1, c9, rfl⟩ : ∃ a1 c9, v1 = .slice a1 (m + 1) c9 := by
        rcases hown1.2 with ⟨_, h0⟩ | ⟨g9, c9, _, hv9, _⟩
        · omega
        · exact ⟨_, c9, hv9⟩
      have hg2 : z2.grownBy w1 (hs i).ownBlock := by rw [hsi]; exact hg1
      have hS := (hM.grown (.hi i) hg2).1 2 _ rfl
      refine hK9 _ _ hS ?_
      clear hK9 K9
      obtain ⟨c1, f1⟩ := hM.hearG hi hg2
      refine listS_step rfl fun K9 hK9 => ?_
      go_simp
      refine hK9 _ _ hS ?_
      clear hK9 K9
      refine listS_step rfl fun K9 hK9 => ?_
      go_simp
      obtain ⟨P1, P2⟩ := hM.heardApp hi o (by rw [HL.out, HMM.out]; exact hown1) hg2 (by rw [hsi]; exact hv1)
      refine hK9 _ _ (P1.c 2 _ rfl) ?_
      clear hK9 K9
      unfold wpListS noPanic
      go_end0
      rw [HL.out, ← putO_new (fun q hq => hno q (by rw [← HMM.out]; exact hq))] at P1
      exact ⟨rfl, ⟨ts, _, P1⟩, (BB.mono (Nat.le_of_lt HMB)).trans P2⟩

end Go.Proofs.Ytbonchnhngaicaa
