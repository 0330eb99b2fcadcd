/- Proved: what the helper heard of the statements returns. Conditions: rows and tables lie in memory, the row of the node is long enough. -/
import Derived.Test.YtleenbfldkmcaaaK16
import Derived.Test.YtleenbfldkmcaaaK4
import Derived.Test.YtleenbfldkmcaaaK7
namespace Go.Proofs.Ytleenbfldkmcaaa
open Go.RowKit Go.Sort Go.BigFrame
set_option linter.unusedVariables false
set_option linter.unusedSimpArgs false
attribute [local go_sem] cell_alloc_old

theorem info61 : (Try.prog.info? 61).map (fun i => (i.zero, i.size, i.bytes)) = some (some (.agg Z61), 31, 392) := by kernel_rfl
theorem nv_one (x : Nv) : ∀ u ∈ x.cs, u.oneCell' = true := by simp [Value.oneCell']
theorem nv_size (x : Nv) : x.cs.length = 31 := rfl
/-- What a node hears of the first nodes. -/
def hearTo (H : List (List Bool)) (T : List Tv) (me : Nat) (fr : Int) (k : Nat) : List Nv := ((List.range k).filter (tabB H me)).map fun (i : Nat) => bcn i fr (T.getD i default)
theorem hearTo_succ (H : List (List Bool)) (T : List Tv) (me : Nat) (fr : Int) (k : Nat) : hearTo H T me fr (k + 1) = hearTo H T me fr k ++ (if tabB H me k = true then [bcn k fr (T.getD k default)] else []) := by
  unfold hearTo
  rw [List.range_succ, List.filter_append, List.map_append]
  congr 1
  by_cases h : tabB H me k = true <;> simp [h]
theorem hearTo_len (H : List (List Bool)) (T : List Tv) (me : Nat) (fr : Int) (k : Nat) : (hearTo H T me fr k).length ≤ k := by
  unfold hearTo; rw [List.length_map]; exact Nat.le_trans (List.length_filter_le _ _) (by simp)
theorem hear_nbs (H : List (List Bool)) (T : List Tv) (me : Nat) (fr : Int) : nbs (hearTo H T me fr T.length) = heardV H (tbs T) me fr := by
  unfold nbs hearTo heardV
  rw [List.map_map, tbs_len]
  refine List.map_congr_left fun i hi => ?_
  have hi' : i < T.length := List.mem_range.1 (List.mem_filter.1 hi).1
  simp only [Function.comp, tbs_at hi']
def HeardPost (H : List (List Bool)) (T : List Tv) (me : Nat) (fr : Int) (w : World) (e : Ending) (w' : World) : Prop := ∃ a n c, e = .returned (.slice a n c) ∧ NsAt w' a (hearTo H T me fr T.length) ∧ n = (hearTo H T me fr T.length).length ∧ n ≤ c ∧ c ≤ maxLen ∧ Below w.heap.size w w'

set_option maxRecDepth 100000 in
set_option maxHeartbeats 4000000 in
theorem heard_at (H : List (List Bool)) (T : List Tv) (m n me : Nat) (fr : Int) (a b : Option Addr) (ca cb : Nat) (w : World) (hm : Hid (m = H.length)) (hn : Hid (n = T.length)) (hl : TabAt w a H) (ht : TsAt w b T) (hn2 : n ≤ 1000) (hm2 : m ≤ maxLen) (hme : me < m) (hr : Hid ((H.getD me []).length = n)) :
    Calls Try.prog 21 #[.slice a m ca, .slice b n cb, .int .i64 me, .int .i64 fr] w (HeardPost H T me fr w) := by
  unfold maxLen at hm2
  have hme1 : (me : Int) < (m : Int) := by omega
  have hme0 : (0 : Int) ≤ (me : Int) := by omega
  go_enter Try.func21, Try.ntmps21
  go_wp2_with fail
  go_loopw [9, 13] (fun o i wr => ∃ k : Nat, k ≤ n ∧ i = .int .i64 k ∧ Below w.heap.size w wr ∧ ∃ q, q ≤ k ∧ Hid (q = (hearTo H T me fr k).length) ∧ wr.ownsRow w.heap.size 61 31 o q (flatL Nv.cs (hearTo H T me fr k))) (fun _ i _ => n - (intOf i).toNat)
  case atStart => exact ⟨0, Nat.zero_le _, rfl, Below.refl _ _, 0, Nat.le_refl _, Lib.hid rfl, World.ownsRow_nil _ _ _ _⟩
  case round =>
    obtain ⟨k, hk, rfl, BB, q, hq, hql, R⟩ := hrel
    by_cases hlt : k < n
    · have hlt' : (k : Int) < (n : Int) := by omega
      have hk0 : (0 : Int) ≤ (k : Int) := by omega
      obtain ⟨a1, o1, ra, rc, rfl, c0, hb0, -, -⟩ := hl.at BB (i := me) (by rw [← hm.out]; exact hme)
      obtain ⟨rb, ro, rfl, d0⟩ := hb0.at (Below.refl _ _) (i := k) (by rw [hr.out]; exact hlt)
      rw [hr.out] at c0
      obtain ⟨z, hz⟩ : ∃ z, (H.getD me []).getD k false = z := ⟨_, rfl⟩
      rw [hz] at d0
      have HZ : Hid (tabB H me k = z) := Lib.hid hz
      clear hz
      obtain ⟨b1, off, rfl, ho, t0, t1, t2⟩ := ht.at BB (i := k) (by rw [← hn.out]; exact hlt)
      have HO := Lib.hid ho
      clear ho
      cases z
      · have HS : Hid (hearTo H T me fr (k + 1) = hearTo H T me fr k) := Lib.hid (by rw [hearTo_succ, HZ.out]; simp)
        go_wp2_with fail
        go_roundw
        case rel => exact ⟨k + 1, by omega, by go_num, BB, q, by omega, Lib.hid (by rw [HS.out]; exact hql.out), by rw [HS.out]; exact R⟩
        case measure => simp [intOf]; omega
      · obtain ⟨x, hx⟩ : ∃ x, T.getD k default = x := ⟨_, rfl⟩
        have HS : Hid (hearTo H T me fr (k + 1) = hearTo H T me fr k ++ [bcn k fr x]) := Lib.hid (by rw [hearTo_succ, HZ.out, hx]; simp)
        rw [hx] at t0 t1 t2 HO
        clear hx
        go_wp2_with fail
        refine (beacon_at _ _ x _).mono ?_
        rintro e w2 ⟨rfl, bq⟩
        replace R := ownsRow_below R bq
        have hsz := bq.size
        have hBB := BB.size
        replace BB := bstep BB bq
        have HO2 := Lib.hid (HO.out.keep bq)
        clear HO bq c0 d0 t0 t1 t2
        obtain ⟨va, vc, rfl⟩ := row_shape R
        obtain ⟨i0, hi9, hz0, hz1, hz2⟩ := info_parts info61
        go_wp2_with (at_builtin; refine wpList_append_own _ rfl _ _ 27 rfl w.heap.size 61 i0 _ 31 392 Try.underlying27 hi9 hz0 hz1 hz2 rfl (by decide) _ _ _ rfl (R.alloc _) ⟨w2.heap.size, 0, none⟩ 1 1 (bcn k fr x).cs rfl rfl (fun j u hj => by rw [add0]; exact CAt.new _ (bcn k fr x).cs _ j u hj) (nv_one _) (by unfold maxLen; omega) (by omega) (by simp; omega) ?_)
        intro v1 w4 R1 hg1 hv1
        have RA := R.alloc (.cells (bcn k fr x).cs.toArray 61)
        have bA : Below w2.heap.size w2 (w2.alloc (.cells (bcn k fr x).cs.toArray 61)) := ball (Below.refl _ _) _
        have BB1 := app_below (bstep BB bA) (Nat.le_refl _) RA hg1
        clear hg1 hv1 RA bA R BB
        obtain ⟨a9, c9, rfl⟩ := row_shape R1
        go_wp2_with fail
        go_roundw
        case rel => exact ⟨k + 1, by omega, by go_num, BB1, q + 1, by omega, Lib.hid (by rw [HS.out, List.length_append, ← hql.out]; rfl), by rw [HS.out, flatL_append, flatL_one]; exact R1⟩
        case measure => simp [intOf]; omega
    · obtain rfl : n = k := by omega
      have hlt' : ¬ (n : Int) < (n : Int) := by omega
      obtain ⟨a9, c9, rfl, h1, h2, h3⟩ := own_at nv_size R hql.out
      go_wp2_with fail
      go_ret
      refine ⟨_, _, _, rfl, ⟨by rw [← hn.out]; exact h1, fun y hy => ?_⟩, by rw [← hn.out]; exact hql.out, h2, h3, BB⟩
      unfold hearTo at hy
      obtain ⟨i, hi, rfl⟩ := List.mem_map.1 hy
      exact bcn_ok ((ht.2 _ (getD_mem (List.mem_range.1 (List.mem_filter.1 hi).1))).keep BB)
end Go.Proofs.Ytleenbfldkmcaaa
