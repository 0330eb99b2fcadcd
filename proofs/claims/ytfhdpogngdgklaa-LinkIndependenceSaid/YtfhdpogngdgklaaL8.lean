/- Proved: what link.Count returns: the list after a frame. Conditions: the list lies in memory. -/
import Derived.Test.YtfhdpogngdgklaaL7
import Derived.Deep.Upon
namespace Go.Proofs.Ytfhdpogngdgklaa
open Go.RowKit Go.Sort Go.BigFrame
set_option linter.unusedVariables false
set_option linter.unusedSimpArgs false
attribute [local go_sem] cell_alloc_old

theorem info32 : (Try.prog.info? 32).map (fun i => (i.zero, i.size, i.bytes)) = some (some (.agg #[.int .i64 0, .int .i64 0, .int .i64 0]), 3, 24) := by kernel_rfl
theorem valid_ge {ls : List Lk} (hv : validV ls = true) : ∀ i, i < ls.length → (i : Int) ≤ (ls.getD i default).p
  | 0, hi => by
    have := okTo_at hv 0 hi
    unfold okAt at this
    rw [Bool.and_eq_true, lkOk_iff] at this
    omega
  | i + 1, hi => by
    have h1 := valid_ge hv i (by omega)
    have h2 := ok_lt hv (show i < i + 1 by omega) hi
    omega
theorem valid_len {ls : List Lk} (hv : validV ls = true) : ls.length ≤ 60 := by
  rcases Nat.lt_or_ge ls.length 61 with h | h
  · omega
  · have h1 := valid_ge hv 60 (by omega)
    have h2 := okTo_at hv 60 (by omega)
    unfold okAt at h2
    rw [Bool.and_eq_true, lkOk_iff] at h2
    omega

/-- APPEND TO AN OWN ROW OF A SLICE THAT MAY BE EMPTY. -/
theorem run_append_rest {P : Program} (w : World) (base : Nat) (t ty e : TypeId) (i : TypeInfo) (z : Value) (size bytes : Nat) (ht : P.underlying t = some (.slice e)) (hi : P.info? e = some i) (hz : i.zero = some z) (hsize : i.size = size) (hby : i.bytes = bytes) (hzs : z.cells.size = size) (hsz : 0 < size)
    (v : Value) (n : Nat) (xs : List Value) (hown : w.ownsRow base e size v n xs) (ao : Option Addr) (m c : Nat) (news : List Value) (hl : news.length = m * size) (hnews : m = 0 ∨ ∃ b off, ao = some ⟨b, off, none⟩ ∧ CellsAt w b off news) (h1 : ∀ u ∈ news, u.oneCell' = true)
    (h63 : n + m ≤ maxLen) (hbytes : (n + m) * bytes ≤ 140737488355328) (hbase : base ≤ w.heap.size) :
    ∃ v' w', (Builtin.append_ #[t, t] ty #[v, .slice ao m c]).run P w = .ok v' w' ∧ w'.ownsRow base e size v' (n + m) (xs ++ news) ∧ Below base w w' := by
  rcases hnews with rfl | ⟨b, off, rfl, hc⟩
  · obtain rfl : news = [] := List.eq_nil_of_length_eq_zero (by simpa using hl)
    have hsrc : Src P i.size t (.slice ao 0 c) 0 [] w := by
      cases ao with
      | none => exact Src.ofNil w ht c
      | some a => exact Src.ofSlice w ht a 0 c [] (by simp) (fun j u hj => by simp at hj) (fun u hu => by cases hu)
    refine ⟨v, w, ?_, by simpa using hown, Below.refl _ _⟩
    rcases hown.2 with ⟨rfl, rfl⟩ | ⟨g, cap, cur, rfl, _, _, hnc, _⟩
    · exact run_append_nothing w t t ty e i ht hi none 0 0 (Nat.le_refl _) _ hsrc
    · exact run_append_nothing w t t ty e i ht hi _ n cap hnc _ hsrc
  · obtain ⟨v', w', hr, ho, hg, _, _⟩ := run_append_own_at (P := P) w base t ty e i z size bytes ht hi hz hsize hby hzs hsz v n xs hown ⟨b, off, none⟩ m c news hl hc.add h1 h63 hbytes hbase
    exact ⟨v', w', hr, ho, (Below.refl _ _).grown hg hbase (fun j hj => (hown.lt j hj).1)⟩

theorem LkAt.keep2 {w V z : World} {a : Option Addr} {ls : List Lk} (h : LkAt w a ls) (h1 : Below w.heap.size w V) (h2 : Below (w.heap.size + 1) V z) : LkAt z a ls := by
  rcases h with h | ⟨b, off, ha, h⟩
  · exact .inl h
  · have k : ∀ (ad : Addr) v, w.cell? ad = some v → z.cell? ad = some v := fun ad v hv => (h2.cell (p := ad) (by have := World.block_lt_of_cell? w ad hv; omega)).trans (keep1 h1 hv)
    exact .inr ⟨b, off, ha, fun i hi => ⟨k _ _ (h i hi).1, k _ _ (h i hi).2.1, k _ _ (h i hi).2.2⟩⟩
theorem OwnL.links2 {w : World} {base : Nat} {v : Value} {ls : List Lk} (h : OwnL w base v ls) : ∃ a cap, v = .slice a ls.length cap ∧ LkAt w a ls ∧ ls.length ≤ cap ∧ cap ≤ maxLen := by
  have h0 := h
  obtain ⟨a, cap, rfl, hl, _⟩ := h.links
  rcases h0.2 with ⟨hn, h1⟩ | ⟨g, cap', cur, hv, hb, hg, hnc, hcm, _⟩
  · simp only [Value.slice.injEq] at hn
    exact ⟨a, cap, rfl, hl, by omega, by rw [hn.2.2]; unfold maxLen; omega⟩
  · simp only [Value.slice.injEq] at hv
    exact ⟨a, cap, rfl, hl, by omega, by omega⟩
theorem take_cells {z : World} {a : Option Addr} {ls : List Lk} {k : Nat} (h : LkAt z a ls) (hk : k ≤ ls.length) : k = 0 ∨ ∃ b off, a = some ⟨b, off, none⟩ ∧ CellsAt z b off (flat (ls.take k)) := by
  rcases Nat.eq_zero_or_pos k with h0 | h0
  · exact .inl h0
  · obtain ⟨b, off, ha, hc⟩ := h.cells (fun hh => by subst hh; simp at hk; omega)
    refine .inr ⟨b, off, ha, ?_⟩
    rw [← List.take_append_drop k ls, flat_append] at hc
    exact hc.left
theorem drop_cells {z : World} {b off : Nat} {ls : List Lk} {k : Nat} (h : LkAt z (some ⟨b, off, none⟩) ls) (hk : k ≤ ls.length) : CellsAt z b (off + k * 3) (flat (ls.drop k)) := by
  by_cases hne : ls = []
  · subst hne
    intro j u hj
    simp [flat] at hj
  · obtain ⟨b', off', ha, hc⟩ := h.cells hne
    simp only [Option.some.injEq, Addr.mk.injEq] at ha
    obtain ⟨rfl, rfl, _⟩ := ha
    rw [← List.take_append_drop k ls, flat_append] at hc
    have := hc.right
    rwa [flat_len, List.length_take, Nat.min_eq_left hk] at this
def CountPost (ls : List Lk) (peer : Int) (acked : Bool) (w : World) (e : Ending) (w' : World) : Prop :=
  ∃ a cap, e = .returned (.tuple #[.slice a (countV ls peer acked).length cap, .int .i64 0]) ∧ LkAt w' a (countV ls peer acked) ∧ (countV ls peer acked).length ≤ cap ∧ cap ≤ maxLen ∧ Below w.heap.size w w'

set_option maxRecDepth 100000 in
set_option maxHeartbeats 4000000 in
theorem count_any (a : Option Addr) (cap : Nat) (ls : List Lk) (peer : Int) (acked : Bool) (w : World) (hl : LkAt w a ls) (hcap : ls.length ≤ cap) (hcm : cap ≤ maxLen) (hv : validV ls = true) (p0 : 0 ≤ peer) (p1 : peer ≤ 59) :
    Calls Try.prog 10 #[.slice a ls.length cap, .int .i64 peer, .bool acked] w (CountPost ls peer acked w) := by
  obtain ⟨i0, hi, hz0, hz1, hz2⟩ := info_parts info32
  have hm : ls.length ≤ maxLen := Nat.le_trans hcap hcm
  have hlen := valid_len hv
  have hok := of_ok hv p0 p1
  obtain ⟨n, hn⟩ : ∃ n, n = ls.length := ⟨_, rfl⟩
  rw [← hn] at hcap hlen ⊢
  have HN := Lib.hid hn; clear hn
  have HM := Lib.hid hm; clear hm
  have HV := Lib.hid hv
  have HC := Lib.hid hcm; clear hcm
  obtain ⟨x, hx⟩ : ∃ x, ofV ls peer = x := ⟨_, rfl⟩
  rw [hx] at hok
  have HX := Lib.hid hx; clear hx
  have HP := Lib.hid (show (decide (0 ≤ peer) && decide (peer ≤ 59)) = true by simp [p0, p1])
  obtain ⟨hok, hxp⟩ := hok
  obtain ⟨_, _, s0, s1, g0, g1⟩ := (lkOk_iff x).1 hok
  have HXP := Lib.hid hxp
  clear hv hok hxp
  go_enter Try.func10, Try.ntmps10
  go_wp2_with fail
  refine (valid_at n a cap ls _ _ HN.out hl HM.out HV.out).mono ?_
  rintro e w1 ⟨rfl, b1⟩
  have hl := hl.keep b1
  go_wp2_with fail
  refine (peer_at peer true _ HP.out).mono ?_
  rintro e w2 ⟨rfl, rfl⟩
  go_wp2_with fail
  refine (find_at n a cap ls peer _ HN.out hl HM.out HV.out x HX.out).mono ?_
  rintro e w2 ⟨k, rfl, hk, b2⟩
  have B2 := bstep b1 b2
  have hl := hl.keep b2
  clear b1 b2
  have hkn : k ≤ n := by rw [HN.out]; exact hk.1
  have HK := Lib.hid hk; clear hk
  go_wp2_with fail
  have hB : Below w.heap.size w ((w2.alloc (.cells #[.int .i64 x.p, .int .i64 x.s, .int .i64 x.g] 32)).alloc (.cells #[.int .i64 x.p, .int .i64 x.s, .int .i64 x.g] 42)) := ball (ball B2 _) _
  have c0 : ((w2.alloc (.cells #[.int .i64 x.p, .int .i64 x.s, .int .i64 x.g] 32)).alloc (.cells #[.int .i64 x.p, .int .i64 x.s, .int .i64 x.g] 42)).cell? ⟨w2.heap.size + 1, 0, none⟩ = some (.int .i64 x.p) := new0 (by simp) rfl
  have c1 : ((w2.alloc (.cells #[.int .i64 x.p, .int .i64 x.s, .int .i64 x.g] 32)).alloc (.cells #[.int .i64 x.p, .int .i64 x.s, .int .i64 x.g] 42)).cell? ⟨w2.heap.size + 1, 1, none⟩ = some (.int .i64 x.s) := new0 (by simp) rfl
  have c2 : ((w2.alloc (.cells #[.int .i64 x.p, .int .i64 x.s, .int .i64 x.g] 32)).alloc (.cells #[.int .i64 x.p, .int .i64 x.s, .int .i64 x.g] 42)).cell? ⟨w2.heap.size + 1, 2, none⟩ = some (.int .i64 x.g) := new0 (by simp) rfl
  have hf : ∀ j, ((w2.alloc (.cells #[.int .i64 x.p, .int .i64 x.s, .int .i64 x.g] 32)).alloc (.cells #[.int .i64 x.p, .int .i64 x.s, .int .i64 x.g] 42)).frozen? ⟨w2.heap.size + 1, j, none⟩ = false := fun j => by
    rw [frozen?_alloc_cells, frozen?_alloc_cells]; exact frz_new (Nat.le_succ _)
  have hbV := ball (ball (Below.refl w2.heap.size w2) (.cells #[.int .i64 x.p, .int .i64 x.s, .int .i64 x.g] 32)) (.cells #[.int .i64 x.p, .int .i64 x.s, .int .i64 x.g] 42)
  obtain ⟨V, hV⟩ : ∃ V, (w2.alloc (.cells #[.int .i64 x.p, .int .i64 x.s, .int .i64 x.g] 32)).alloc (.cells #[.int .i64 x.p, .int .i64 x.s, .int .i64 x.g] 42) = V := ⟨_, rfl⟩
  have hVz : V.heap.size = w2.heap.size + 2 := by rw [← hV]; simp
  rw [hV] at hB c0 c1 c2 hf hbV ⊢
  clear hV
  refine (add_any (w2.heap.size + 1) x.p x.s x.g acked V c0 c1 c2 (hf 1) (hf 2) s0 s1 g0 g1).mono ?_
  rintro e w5 ⟨rfl, d0, d1, d2, b5⟩
  have hl := hl.keep2 hbV b5
  have B5 : Below w.heap.size w w5 := hB.trans (b5.mono (by have := B2.size; omega))
  clear hB hbV c0 c1 c2 hf B2
  obtain ⟨y, hy⟩ : ∃ y, cntV ⟨x.p, x.s, x.g⟩ acked = y := ⟨_, rfl⟩
  rw [hy] at d0 d1 d2
  have hyc : cntV x acked = y := hy
  have HY := Lib.hid hyc; clear hy hyc
  obtain ⟨c, hcc⟩ : ∃ c, w2.heap.size = c := ⟨_, rfl⟩
  rw [hcc] at d0 d1 d2 b5 ⊢
  clear hVz b5
  have hts := take_lower HV.out HK.out
  have hdu := drop_upper HV.out HK.out
  have hcv : countV ls peer acked = ls.take k ++ y :: ls.drop (if k < ls.length ∧ (ls.getD k default).p = peer then k + 1 else k) := by
    unfold countV; rw [← hts, ← hdu, HX.out, HY.out]
  have HCV0 := Lib.hid hcv; clear hcv hts hdu
  have fin : ∀ a2 cap2 z2, LkAt z2 a2 (countV ls peer acked) → (countV ls peer acked).length ≤ cap2 → cap2 ≤ maxLen → Below w.heap.size w z2 → CountPost ls peer acked w (.returned (.tuple #[.slice a2 (countV ls peer acked).length cap2, .int .i64 0])) z2 := fun a2 cap2 z2 h1 h2 h3 h4 => ⟨a2, cap2, rfl, h1, h2, h3, h4⟩
  have FIN := Lib.hid fin; clear fin
  have hkc : (k : Int) ≤ (cap : Int) := by omega
  have hkn' : (k : Int) ≤ (n : Int) := by omega
  have hnc : (n : Int) ≤ (cap : Int) := by omega
  have hk0 : (0 : Int) ≤ (k : Int) := by omega
  by_cases hlt : k < n
  · obtain ⟨b, off, rfl, hc⟩ := hl.at (i := k) (by rw [← HN.out]; exact hlt)
    obtain ⟨e0, _, _⟩ := hc k (by rw [← HN.out]; exact hlt)
    have hkn1 : (k : Int) < (n : Int) := by omega
    have hck : ¬ cap = k := by omega
    have hck' : ¬ (cap : Int) = (k : Int) := by omega
    obtain ⟨pk, hpk⟩ : ∃ pk, (ls.getD k default).p = pk := ⟨_, rfl⟩
    have hcond : ∀ c : Prop, (pk = peer ↔ c) → (k < ls.length ∧ (ls.getD k default).p = peer ↔ c) := fun c h => by rw [hpk, ← h, ← HN.out]; exact ⟨fun h => h.2, fun h => ⟨hlt, h⟩⟩
    rw [hpk] at e0
    have HPK := Lib.hid hpk; clear hpk hc
    have HCO := Lib.hid hcond; clear hcond
    have e0z := e0
    by_cases hq : pk = peer
    · have HCV := Lib.hid (show countV ls peer acked = ls.take k ++ y :: ls.drop (k + 1) by rw [HCV0.out, if_pos ((HCO.out _ (Iff.rfl)).2 hq)])
      by_cases hc1 : cap = k + 1
      · have hr1 : cap - k = 1 := by omega
        have hr2 : n - k = 1 := by omega
        go_wp2_with fail
        have kd0 := cell_regrown d0; have kd1 := cell_regrown d1; have kd2 := cell_regrown d2
        refine' wp_region_late' [0, 1, 2, 3, 4, 5, 8] [6] [7, 9, 10, 11] [8] (by kernel_rfl) (by kernel_rfl) _ (fun w' => True) (fun _ => .slice (some ⟨b, off + k * 3, none⟩) 0 0)
          (fun Z hZ hN => quiet_hole ?hq1) (fun _ => .cells #[.int .i64 y.p, .int .i64 y.s, .int .i64 y.g] 32) (fun _ p => .slice (some ⟨p, 0, none⟩) 1 1) ?hal1 ?hl1 ?ht1
        case hq1 =>
          intro Q9 hQ9
          show wpQuiet _ _ _ _ [_, _, _, _, _, _, _] _
          repeat (go_big_quiet_step (fail))
          exact wpQuiet_nil hQ9
        case hal1 =>
          intro i hi o ho w' hw'
          simp only [List.mem_cons, List.not_mem_nil, or_false] at hi
          subst hi
          simp only [List.getElem?_cons_succ, List.getElem?_cons_zero, Option.some.injEq] at ho
          subst ho
          go_simp
        case hl1 =>
          intro j hj o ho
          simp only [List.mem_cons, List.not_mem_nil, or_false] at hj
          subst hj
          simp only [List.getElem?_cons_succ, List.getElem?_cons_zero, Option.some.injEq] at ho
          subst ho
          refine ⟨fun w' hw' => by go_simp, fun t ht => ?_⟩
          simp only [Option.some.injEq] at ht
          subst ht
          rfl
        intro π z hz hπ hπd
        refine ⟨trivial, ?_⟩
        simp only [List.filterMap_cons, List.filterMap_nil, List.getElem?_cons_zero, List.getElem?_cons_succ, putsA, Option.bind_some, Act.put, List.setIfInBounds_toArray, List.set_cons_zero, List.set_cons_succ]
        show wpListS _ _ _ _ [_, _, _, _] _ _
        have hp6 := hπ 6 (by simp)
        clear hπ hπd kd0 kd1 kd2
        generalize π 6 = g at *
        have hcg : CellsAt z g 0 (flat [y]) := fun j u hj => by
          rw [Nat.zero_add]
          exact cell_blk hp6.1 (by simpa [flat] using hj)
        have hlz := hl.keep hz
        have Bz := bstep B5 hz
        obtain ⟨v1, z1, hr1, ho1, hb1⟩ := run_append_full (P := Try.prog) z 22 22 32 i0 _ 3 24 Try.underlying22 hi hz0 hz1 hz2 rfl ((some ⟨b, off, none⟩)) k (flat (ls.take k)) (by rw [flat_len, List.length_take, ← HN.out, Nat.min_eq_left hkn])
          (take_cells hlz (by rw [← HN.out]; exact hkn)) g 0 1 1 (flat [y]) rfl hcg (flat_one _) (by decide) (by unfold maxLen; omega) (by omega)
        have hlz1 := hlz.keep hb1
        obtain ⟨v2, z2, hr2, ho2, hb2⟩ := run_append_rest (P := Try.prog) z1 z.heap.size 22 22 32 i0 _ 3 24 Try.underlying22 hi hz0 hz1 hz2 rfl (by decide) v1 (k + 1) (flat (ls.take k) ++ flat [y]) ho1 (some ⟨b, off + k * 3, none⟩) (0) (0) (flat (ls.drop (k + 1))) (by rw [flat_len]; simp only [List.length_drop, ← HN.out, List.length_nil]; try omega)
          (.inl rfl) (flat_one _) (by unfold maxLen; omega) (by omega) hb1.size
        have Bz2 : Below w.heap.size w z2 := (bstep Bz hb1).trans (hb2.mono Bz.size)
        have ho3 : OwnL z2 z.heap.size v2 (countV ls peer acked) := by
          unfold OwnL
          have hlen3 : (ls.take k ++ y :: (ls.drop (k + 1))).length = k + 1 + (0) := by simp only [List.length_append, List.length_take, List.length_cons, List.length_drop, ← HN.out, Nat.min_eq_left hkn, List.length_nil]; omega
          rw [HCV.out, hlen3, flat_append, show flat (y :: (ls.drop (k + 1))) = flat [y] ++ flat (ls.drop (k + 1)) from rfl, ← List.append_assoc]
          exact ho2
        obtain ⟨a2, cap2, rfl, hla2, hlc2, hcm2⟩ := ho3.links2
        clear ho1 ho2 ho3 hcg hp6 hlz hlz1 hb1 hb2 d0 d1 d2 hl hz
        generalize (countV ls peer acked).length = m2 at *
        refine listS_step rfl fun K hK => ?_
        refine oper_append (.tmp 49) (.tmp 52) 22 rfl rfl rfl hr1 (hK _ _ trivial ?_)
        clear hK K
        refine listS_step rfl fun K hK => ?_
        refine oper_append (.tmp 53) (.tmp 54) 22 rfl rfl rfl hr2 (hK _ _ trivial ?_)
        clear hK K hr1 hr2
        refine listS_step rfl fun K hK => ?_
        go_simp
        refine hK _ _ trivial ?_
        clear hK K
        refine listS_step rfl fun K hK => ?_
        go_simp
        refine hK _ _ trivial ?_
        clear hK K
        simp only [wpListS, noPanic]
        go_wp2_with fail
        go_ret2
        exact FIN.out a2 cap2 z2 hla2 hlc2 hcm2 Bz2
      · have hr1 : ¬ cap - k = 1 := by omega
        have hr2 : 1 ≤ n - k := by omega
        have hr3 : 0 < n - k := by omega
        have hr4 : 1 ≤ cap - k := by omega
        go_wp2_with fail
        have kd0 := cell_regrown d0; have kd1 := cell_regrown d1; have kd2 := cell_regrown d2
        refine' wp_region_late' [0, 1, 2, 3, 4, 5, 8] [6] [7, 9, 10, 11] [8] (by kernel_rfl) (by kernel_rfl) _ (fun w' => True) (fun _ => .slice (some ⟨b, off + k * 3 + 3, none⟩) (n - k - 1) (cap - k - 1))
          (fun Z hZ hN => quiet_hole ?hq2) (fun _ => .cells #[.int .i64 y.p, .int .i64 y.s, .int .i64 y.g] 32) (fun _ p => .slice (some ⟨p, 0, none⟩) 1 1) ?hal2 ?hl2 ?ht2
        case hq2 =>
          intro Q9 hQ9
          show wpQuiet _ _ _ _ [_, _, _, _, _, _, _] _
          repeat (go_big_quiet_step (fail))
          exact wpQuiet_nil hQ9
        case hal2 =>
          intro i hi o ho w' hw'
          simp only [List.mem_cons, List.not_mem_nil, or_false] at hi
          subst hi
          simp only [List.getElem?_cons_succ, List.getElem?_cons_zero, Option.some.injEq] at ho
          subst ho
          go_simp
        case hl2 =>
          intro j hj o ho
          simp only [List.mem_cons, List.not_mem_nil, or_false] at hj
          subst hj
          simp only [List.getElem?_cons_succ, List.getElem?_cons_zero, Option.some.injEq] at ho
          subst ho
          refine ⟨fun w' hw' => by go_simp, fun t ht => ?_⟩
          simp only [Option.some.injEq] at ht
          subst ht
          rfl
        intro π z hz hπ hπd
        refine ⟨trivial, ?_⟩
        simp only [List.filterMap_cons, List.filterMap_nil, List.getElem?_cons_zero, List.getElem?_cons_succ, putsA, Option.bind_some, Act.put, List.setIfInBounds_toArray, List.set_cons_zero, List.set_cons_succ]
        show wpListS _ _ _ _ [_, _, _, _] _ _
        have hp6 := hπ 6 (by simp)
        clear hπ hπd kd0 kd1 kd2
        generalize π 6 = g at *
        have hcg : CellsAt z g 0 (flat [y]) := fun j u hj => by
          rw [Nat.zero_add]
          exact cell_blk hp6.1 (by simpa [flat] using hj)
        have hlz := hl.keep hz
        have Bz := bstep B5 hz
        obtain ⟨v1, z1, hr1, ho1, hb1⟩ := run_append_full (P := Try.prog) z 22 22 32 i0 _ 3 24 Try.underlying22 hi hz0 hz1 hz2 rfl ((some ⟨b, off, none⟩)) k (flat (ls.take k)) (by rw [flat_len, List.length_take, ← HN.out, Nat.min_eq_left hkn])
          (take_cells hlz (by rw [← HN.out]; exact hkn)) g 0 1 1 (flat [y]) rfl hcg (flat_one _) (by decide) (by unfold maxLen; omega) (by omega)
        have hlz1 := hlz.keep hb1
        obtain ⟨v2, z2, hr2, ho2, hb2⟩ := run_append_rest (P := Try.prog) z1 z.heap.size 22 22 32 i0 _ 3 24 Try.underlying22 hi hz0 hz1 hz2 rfl (by decide) v1 (k + 1) (flat (ls.take k) ++ flat [y]) ho1 (some ⟨b, off + k * 3 + 3, none⟩) (n - k - 1) (cap - k - 1) (flat (ls.drop (k + 1))) (by rw [flat_len]; simp only [List.length_drop, ← HN.out, List.length_nil]; try omega)
          (.inr ⟨b, off + k * 3 + 3, rfl, by have := drop_cells hlz1 (k := k + 1) (by rw [← HN.out]; omega); rwa [show off + (k + 1) * 3 = off + k * 3 + 3 from by omega] at this⟩) (flat_one _) (by unfold maxLen; omega) (by omega) hb1.size
        have Bz2 : Below w.heap.size w z2 := (bstep Bz hb1).trans (hb2.mono Bz.size)
        have ho3 : OwnL z2 z.heap.size v2 (countV ls peer acked) := by
          unfold OwnL
          have hlen3 : (ls.take k ++ y :: (ls.drop (k + 1))).length = k + 1 + (n - k - 1) := by simp only [List.length_append, List.length_take, List.length_cons, List.length_drop, ← HN.out, Nat.min_eq_left hkn, List.length_nil]; omega
          rw [HCV.out, hlen3, flat_append, show flat (y :: (ls.drop (k + 1))) = flat [y] ++ flat (ls.drop (k + 1)) from rfl, ← List.append_assoc]
          exact ho2
        obtain ⟨a2, cap2, rfl, hla2, hlc2, hcm2⟩ := ho3.links2
        clear ho1 ho2 ho3 hcg hp6 hlz hlz1 hb1 hb2 d0 d1 d2 hl hz
        generalize (countV ls peer acked).length = m2 at *
        refine listS_step rfl fun K hK => ?_
        refine oper_append (.tmp 49) (.tmp 52) 22 rfl rfl rfl hr1 (hK _ _ trivial ?_)
        clear hK K
        refine listS_step rfl fun K hK => ?_
        refine oper_append (.tmp 53) (.tmp 54) 22 rfl rfl rfl hr2 (hK _ _ trivial ?_)
        clear hK K hr1 hr2
        refine listS_step rfl fun K hK => ?_
        go_simp
        refine hK _ _ trivial ?_
        clear hK K
        refine listS_step rfl fun K hK => ?_
        go_simp
        refine hK _ _ trivial ?_
        clear hK K
        simp only [wpListS, noPanic]
        go_wp2_with fail
        go_ret2
        exact FIN.out a2 cap2 z2 hla2 hlc2 hcm2 Bz2
    · have HCV := Lib.hid (show countV ls peer acked = ls.take k ++ y :: ls.drop k by rw [HCV0.out, if_neg (fun hh => hq ((HCO.out _ (Iff.rfl)).1 hh))])
      have hr3 : 0 < n - k := by omega
      have hqb : (pk == peer) = false := by simp [hq]
      go_wp2_with fail
      have kd0 := cell_regrown d0; have kd1 := cell_regrown d1; have kd2 := cell_regrown d2
      refine' wp_region_late' [0, 1, 2, 3, 4, 5, 8] [6] [7, 9, 10, 11] [8] (by kernel_rfl) (by kernel_rfl) _ (fun w' => True) (fun _ => .slice (some ⟨b, off + k * 3, none⟩) (n - k) (cap - k))
        (fun Z hZ hN => quiet_hole ?hq3) (fun _ => .cells #[.int .i64 y.p, .int .i64 y.s, .int .i64 y.g] 32) (fun _ p => .slice (some ⟨p, 0, none⟩) 1 1) ?hal3 ?hl3 ?ht3
      case hq3 =>
        intro Q9 hQ9
        show wpQuiet _ _ _ _ [_, _, _, _, _, _, _] _
        repeat (go_big_quiet_step (fail))
        exact wpQuiet_nil hQ9
      case hal3 =>
        intro i hi o ho w' hw'
        simp only [List.mem_cons, List.not_mem_nil, or_false] at hi
        subst hi
        simp only [List.getElem?_cons_succ, List.getElem?_cons_zero, Option.some.injEq] at ho
        subst ho
        go_simp
      case hl3 =>
        intro j hj o ho
        simp only [List.mem_cons, List.not_mem_nil, or_false] at hj
        subst hj
        simp only [List.getElem?_cons_succ, List.getElem?_cons_zero, Option.some.injEq] at ho
        subst ho
        refine ⟨fun w' hw' => by go_simp, fun t ht => ?_⟩
        simp only [Option.some.injEq] at ht
        subst ht
        rfl
      intro π z hz hπ hπd
      refine ⟨trivial, ?_⟩
      simp only [List.filterMap_cons, List.filterMap_nil, List.getElem?_cons_zero, List.getElem?_cons_succ, putsA, Option.bind_some, Act.put, List.setIfInBounds_toArray, List.set_cons_zero, List.set_cons_succ]
      show wpListS _ _ _ _ [_, _, _, _] _ _
      have hp6 := hπ 6 (by simp)
      clear hπ hπd kd0 kd1 kd2
      generalize π 6 = g at *
      have hcg : CellsAt z g 0 (flat [y]) := fun j u hj => by
        rw [Nat.zero_add]
        exact cell_blk hp6.1 (by simpa [flat] using hj)
      have hlz := hl.keep hz
      have Bz := bstep B5 hz
      obtain ⟨v1, z1, hr1, ho1, hb1⟩ := run_append_full (P := Try.prog) z 22 22 32 i0 _ 3 24 Try.underlying22 hi hz0 hz1 hz2 rfl ((some ⟨b, off, none⟩)) k (flat (ls.take k)) (by rw [flat_len, List.length_take, ← HN.out, Nat.min_eq_left hkn])
        (take_cells hlz (by rw [← HN.out]; exact hkn)) g 0 1 1 (flat [y]) rfl hcg (flat_one _) (by decide) (by unfold maxLen; omega) (by omega)
      have hlz1 := hlz.keep hb1
      obtain ⟨v2, z2, hr2, ho2, hb2⟩ := run_append_rest (P := Try.prog) z1 z.heap.size 22 22 32 i0 _ 3 24 Try.underlying22 hi hz0 hz1 hz2 rfl (by decide) v1 (k + 1) (flat (ls.take k) ++ flat [y]) ho1 (some ⟨b, off + k * 3, none⟩) (n - k) (cap - k) (flat (ls.drop k)) (by rw [flat_len]; simp only [List.length_drop, ← HN.out, List.length_nil]; try omega)
        (.inr ⟨b, off + k * 3, rfl, drop_cells hlz1 (by rw [← HN.out]; exact hkn)⟩) (flat_one _) (by unfold maxLen; omega) (by omega) hb1.size
      have Bz2 : Below w.heap.size w z2 := (bstep Bz hb1).trans (hb2.mono Bz.size)
      have ho3 : OwnL z2 z.heap.size v2 (countV ls peer acked) := by
        unfold OwnL
        have hlen3 : (ls.take k ++ y :: (ls.drop k)).length = k + 1 + (n - k) := by simp only [List.length_append, List.length_take, List.length_cons, List.length_drop, ← HN.out, Nat.min_eq_left hkn, List.length_nil]; omega
        rw [HCV.out, hlen3, flat_append, show flat (y :: (ls.drop k)) = flat [y] ++ flat (ls.drop k) from rfl, ← List.append_assoc]
        exact ho2
      obtain ⟨a2, cap2, rfl, hla2, hlc2, hcm2⟩ := ho3.links2
      clear ho1 ho2 ho3 hcg hp6 hlz hlz1 hb1 hb2 d0 d1 d2 hl hz
      generalize (countV ls peer acked).length = m2 at *
      refine listS_step rfl fun K hK => ?_
      refine oper_append (.tmp 49) (.tmp 52) 22 rfl rfl rfl hr1 (hK _ _ trivial ?_)
      clear hK K
      refine listS_step rfl fun K hK => ?_
      refine oper_append (.tmp 53) (.tmp 54) 22 rfl rfl rfl hr2 (hK _ _ trivial ?_)
      clear hK K hr1 hr2
      refine listS_step rfl fun K hK => ?_
      go_simp
      refine hK _ _ trivial ?_
      clear hK K
      refine listS_step rfl fun K hK => ?_
      go_simp
      refine hK _ _ trivial ?_
      clear hK K
      simp only [wpListS, noPanic]
      go_wp2_with fail
      go_ret2
      exact FIN.out a2 cap2 z2 hla2 hlc2 hcm2 Bz2
  · have HCV := Lib.hid (show countV ls peer acked = ls.take k ++ y :: ls.drop k by rw [HCV0.out, if_neg (fun hh => by have := hh.1; rw [← HN.out] at this; omega)])
    have hr3 : n - k = 0 := by omega
    by_cases hc1 : cap = k
    · have hr1 : cap - k = 0 := by omega
      go_wp2_with fail
      have kd0 := cell_regrown d0; have kd1 := cell_regrown d1; have kd2 := cell_regrown d2
      refine' wp_region_late' [0, 1, 2, 3, 4, 5, 8] [6] [7, 9, 10, 11] [8] (by kernel_rfl) (by kernel_rfl) _ (fun w' => True) (fun _ => .slice a 0 0)
        (fun Z hZ hN => quiet_hole ?hq4) (fun _ => .cells #[.int .i64 y.p, .int .i64 y.s, .int .i64 y.g] 32) (fun _ p => .slice (some ⟨p, 0, none⟩) 1 1) ?hal4 ?hl4 ?ht4
      case hq4 =>
        intro Q9 hQ9
        show wpQuiet _ _ _ _ [_, _, _, _, _, _, _] _
        repeat (go_big_quiet_step (fail))
        exact wpQuiet_nil hQ9
      case hal4 =>
        intro i hi o ho w' hw'
        simp only [List.mem_cons, List.not_mem_nil, or_false] at hi
        subst hi
        simp only [List.getElem?_cons_succ, List.getElem?_cons_zero, Option.some.injEq] at ho
        subst ho
        go_simp
      case hl4 =>
        intro j hj o ho
        simp only [List.mem_cons, List.not_mem_nil, or_false] at hj
        subst hj
        simp only [List.getElem?_cons_succ, List.getElem?_cons_zero, Option.some.injEq] at ho
        subst ho
        refine ⟨fun w' hw' => by go_simp, fun t ht => ?_⟩
        simp only [Option.some.injEq] at ht
        subst ht
        rfl
      intro π z hz hπ hπd
      refine ⟨trivial, ?_⟩
      simp only [List.filterMap_cons, List.filterMap_nil, List.getElem?_cons_zero, List.getElem?_cons_succ, putsA, Option.bind_some, Act.put, List.setIfInBounds_toArray, List.set_cons_zero, List.set_cons_succ]
      show wpListS _ _ _ _ [_, _, _, _] _ _
      have hp6 := hπ 6 (by simp)
      clear hπ hπd kd0 kd1 kd2
      generalize π 6 = g at *
      have hcg : CellsAt z g 0 (flat [y]) := fun j u hj => by
        rw [Nat.zero_add]
        exact cell_blk hp6.1 (by simpa [flat] using hj)
      have hlz := hl.keep hz
      have Bz := bstep B5 hz
      obtain ⟨v1, z1, hr1, ho1, hb1⟩ := run_append_full (P := Try.prog) z 22 22 32 i0 _ 3 24 Try.underlying22 hi hz0 hz1 hz2 rfl (a) k (flat (ls.take k)) (by rw [flat_len, List.length_take, ← HN.out, Nat.min_eq_left hkn])
        (take_cells hlz (by rw [← HN.out]; exact hkn)) g 0 1 1 (flat [y]) rfl hcg (flat_one _) (by decide) (by unfold maxLen; omega) (by omega)
      have hlz1 := hlz.keep hb1
      obtain ⟨v2, z2, hr2, ho2, hb2⟩ := run_append_rest (P := Try.prog) z1 z.heap.size 22 22 32 i0 _ 3 24 Try.underlying22 hi hz0 hz1 hz2 rfl (by decide) v1 (k + 1) (flat (ls.take k) ++ flat [y]) ho1 (a) (0) (0) (flat (ls.drop k)) (by rw [flat_len]; simp only [List.length_drop, ← HN.out, List.length_nil]; try omega)
        (.inl rfl) (flat_one _) (by unfold maxLen; omega) (by omega) hb1.size
      have Bz2 : Below w.heap.size w z2 := (bstep Bz hb1).trans (hb2.mono Bz.size)
      have ho3 : OwnL z2 z.heap.size v2 (countV ls peer acked) := by
        unfold OwnL
        have hlen3 : (ls.take k ++ y :: (ls.drop k)).length = k + 1 + (0) := by simp only [List.length_append, List.length_take, List.length_cons, List.length_drop, ← HN.out, Nat.min_eq_left hkn, List.length_nil]; omega
        rw [HCV.out, hlen3, flat_append, show flat (y :: (ls.drop k)) = flat [y] ++ flat (ls.drop k) from rfl, ← List.append_assoc]
        exact ho2
      obtain ⟨a2, cap2, rfl, hla2, hlc2, hcm2⟩ := ho3.links2
      clear ho1 ho2 ho3 hcg hp6 hlz hlz1 hb1 hb2 d0 d1 d2 hl hz
      generalize (countV ls peer acked).length = m2 at *
      refine listS_step rfl fun K hK => ?_
      refine oper_append (.tmp 49) (.tmp 52) 22 rfl rfl rfl hr1 (hK _ _ trivial ?_)
      clear hK K
      refine listS_step rfl fun K hK => ?_
      refine oper_append (.tmp 53) (.tmp 54) 22 rfl rfl rfl hr2 (hK _ _ trivial ?_)
      clear hK K hr1 hr2
      refine listS_step rfl fun K hK => ?_
      go_simp
      refine hK _ _ trivial ?_
      clear hK K
      refine listS_step rfl fun K hK => ?_
      go_simp
      refine hK _ _ trivial ?_
      clear hK K
      simp only [wpListS, noPanic]
      go_wp2_with fail
      go_ret2
      exact FIN.out a2 cap2 z2 hla2 hlc2 hcm2 Bz2
    · have hr4 : ¬ cap = k := by omega
      have hr5 : ¬ (cap : Int) = (k : Int) := by omega
      obtain ⟨ar, har⟩ : ∃ ar, Option.map (fun x : Addr => x.add (k * 3)) a = ar := ⟨_, rfl⟩
      go_wp2_with fail
      have kd0 := cell_regrown d0; have kd1 := cell_regrown d1; have kd2 := cell_regrown d2
      refine' wp_region_late' [0, 1, 2, 3, 4, 5, 8] [6] [7, 9, 10, 11] [8] (by kernel_rfl) (by kernel_rfl) _ (fun w' => True) (fun _ => .slice ar 0 (cap - k))
        (fun Z hZ hN => quiet_hole ?hq5) (fun _ => .cells #[.int .i64 y.p, .int .i64 y.s, .int .i64 y.g] 32) (fun _ p => .slice (some ⟨p, 0, none⟩) 1 1) ?hal5 ?hl5 ?ht5
      case hq5 =>
        intro Q9 hQ9
        show wpQuiet _ _ _ _ [_, _, _, _, _, _, _] _
        repeat (go_big_quiet_step (fail))
        exact wpQuiet_nil hQ9
      case hal5 =>
        intro i hi o ho w' hw'
        simp only [List.mem_cons, List.not_mem_nil, or_false] at hi
        subst hi
        simp only [List.getElem?_cons_succ, List.getElem?_cons_zero, Option.some.injEq] at ho
        subst ho
        go_simp
      case hl5 =>
        intro j hj o ho
        simp only [List.mem_cons, List.not_mem_nil, or_false] at hj
        subst hj
        simp only [List.getElem?_cons_succ, List.getElem?_cons_zero, Option.some.injEq] at ho
        subst ho
        refine ⟨fun w' hw' => by go_simp, fun t ht => ?_⟩
        simp only [Option.some.injEq] at ht
        subst ht
        rfl
      intro π z hz hπ hπd
      refine ⟨trivial, ?_⟩
      simp only [List.filterMap_cons, List.filterMap_nil, List.getElem?_cons_zero, List.getElem?_cons_succ, putsA, Option.bind_some, Act.put, List.setIfInBounds_toArray, List.set_cons_zero, List.set_cons_succ]
      show wpListS _ _ _ _ [_, _, _, _] _ _
      have hp6 := hπ 6 (by simp)
      clear hπ hπd kd0 kd1 kd2
      generalize π 6 = g at *
      have hcg : CellsAt z g 0 (flat [y]) := fun j u hj => by
        rw [Nat.zero_add]
        exact cell_blk hp6.1 (by simpa [flat] using hj)
      have hlz := hl.keep hz
      have Bz := bstep B5 hz
      obtain ⟨v1, z1, hr1, ho1, hb1⟩ := run_append_full (P := Try.prog) z 22 22 32 i0 _ 3 24 Try.underlying22 hi hz0 hz1 hz2 rfl (a) k (flat (ls.take k)) (by rw [flat_len, List.length_take, ← HN.out, Nat.min_eq_left hkn])
        (take_cells hlz (by rw [← HN.out]; exact hkn)) g 0 1 1 (flat [y]) rfl hcg (flat_one _) (by decide) (by unfold maxLen; omega) (by omega)
      have hlz1 := hlz.keep hb1
      obtain ⟨v2, z2, hr2, ho2, hb2⟩ := run_append_rest (P := Try.prog) z1 z.heap.size 22 22 32 i0 _ 3 24 Try.underlying22 hi hz0 hz1 hz2 rfl (by decide) v1 (k + 1) (flat (ls.take k) ++ flat [y]) ho1 (ar) (0) (cap - k) (flat (ls.drop k)) (by rw [flat_len]; simp only [List.length_drop, ← HN.out, List.length_nil]; try omega)
        (.inl rfl) (flat_one _) (by unfold maxLen; omega) (by omega) hb1.size
      have Bz2 : Below w.heap.size w z2 := (bstep Bz hb1).trans (hb2.mono Bz.size)
      have ho3 : OwnL z2 z.heap.size v2 (countV ls peer acked) := by
        unfold OwnL
        have hlen3 : (ls.take k ++ y :: (ls.drop k)).length = k + 1 + (0) := by simp only [List.length_append, List.length_take, List.length_cons, List.length_drop, ← HN.out, Nat.min_eq_left hkn, List.length_nil]; omega
        rw [HCV.out, hlen3, flat_append, show flat (y :: (ls.drop k)) = flat [y] ++ flat (ls.drop k) from rfl, ← List.append_assoc]
        exact ho2
      obtain ⟨a2, cap2, rfl, hla2, hlc2, hcm2⟩ := ho3.links2
      clear ho1 ho2 ho3 hcg hp6 hlz hlz1 hb1 hb2 d0 d1 d2 hl hz
      generalize (countV ls peer acked).length = m2 at *
      refine listS_step rfl fun K hK => ?_
      refine oper_append (.tmp 49) (.tmp 52) 22 rfl rfl rfl hr1 (hK _ _ trivial ?_)
      clear hK K
      refine listS_step rfl fun K hK => ?_
      refine oper_append (.tmp 53) (.tmp 54) 22 rfl rfl rfl hr2 (hK _ _ trivial ?_)
      clear hK K hr1 hr2
      refine listS_step rfl fun K hK => ?_
      go_simp
      refine hK _ _ trivial ?_
      clear hK K
      refine listS_step rfl fun K hK => ?_
      go_simp
      refine hK _ _ trivial ?_
      clear hK K
      simp only [wpListS, noPanic]
      go_wp2_with fail
      go_ret2
      exact FIN.out a2 cap2 z2 hla2 hlc2 hcm2 Bz2
end Go.Proofs.Ytfhdpogngdgklaa
