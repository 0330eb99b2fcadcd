/- Proved: what sponsor.Valid and its twin say of a list that is valid. Conditions: the list is valid and lies in memory. -/
import Derived.Test.YtgmabjlehjpboaaDoorT11
namespace Go.Proofs.YtgmabjlehjpboaaDoor
open Go.RowKit Go.Sort Go.BigFrame Go.Proofs.YtgmabjlehjpboaaDoor.K
set_option linter.unusedVariables false
set_option linter.unusedSimpArgs false
attribute [local go_sem] cell_alloc_old

/-- A half-open join is valid. -/
structure Hf.ok (h : Hf) : Prop where
  s : nodeB h.s = true
  n : inB h.n 1000000000 = true
  c : inB h.c 1000000000 = true
  u : inB h.u 1000000000 = true
  k : inB h.k 2000000 = true
  p : h.pr = false → h.k = 0
/-- A list of half-open joins is valid. -/
structure OkL (l : List Hf) : Prop where
  len : l.length ≤ 4
  ok : ∀ h ∈ l, h.ok
  srt : l.Pairwise fun a b => a.s < b.s
theorem OkL.lt {l : List Hf} (h : OkL l) {i j : Nat} (hij : i < j) (hj : j < l.length) : (l.getD i default).s < (l.getD j default).s := by
  have hi : i < l.length := by omega
  simp only [List.getD_eq_getElem?_getD, List.getElem?_eq_getElem hi, List.getElem?_eq_getElem hj, Option.getD_some]
  exact List.pairwise_iff_getElem.1 h.srt i j hi hj hij
theorem OkL.get {l : List Hf} (h : OkL l) {i : Nat} (hi : i < l.length) : (l.getD i default).ok := h.ok _ (getD_mem hi)
theorem OkL.nil : OkL [] := ⟨by simp, by simp, List.Pairwise.nil⟩
set_option maxRecDepth 100000 in
set_option maxHeartbeats 4000000 in
theorem ishalf_p (s n c u k : Int) (w : World) (ok : Hf.ok ⟨s, n, c, u, true, k⟩) : Calls Tryd.prog 52 #[(⟨s, n, c, u, true, k⟩ : Hf).v] w (Ans (.bool true) w) := by
  have h0 := Lib.hid ok.s; have h1 := Lib.hid ok.n; have h2 := Lib.hid ok.c; have h3 := Lib.hid ok.u; have h4 := Lib.hid ok.k; clear ok
  simp only at h0 h1 h2 h3 h4
  go_enter Tryd.func52, Tryd.ntmps52
  go_wp2_with fail
  have Tt := CAt.new (w) [.int .i64 s, .int .i64 n, .int .i64 c, .int .i64 u, .bool true, .int .i64 k] 70
  have BB : Below w.heap.size w ((w).alloc (.cells #[.int .i64 s, .int .i64 n, .int .i64 c, .int .i64 u, .bool true, .int .i64 k] 70)) := ball (Below.refl _ _) _
  obtain ⟨V1, hV1⟩ : ∃ V1, w.alloc (.cells #[.int .i64 s, .int .i64 n, .int .i64 c, .int .i64 u, .bool true, .int .i64 k] 70) = V1 := ⟨_, rfl⟩
  rw [hV1] at BB Tt ⊢
  clear hV1
  have t0 := Tt 0 _ rfl
  have t1 := Tt 1 _ rfl
  have t2 := Tt 2 _ rfl
  have t3 := Tt 3 _ rfl
  have t4 := Tt 4 _ rfl
  have t5 := Tt 5 _ rfl
  go_wp2_with fail
  refine (isnode_at s true _ h0.out).mono ?_
  rintro e w' ⟨rfl, rfl⟩
  go_wp2_with fail
  refine (in_at n 1000000000 true _ h1.out).mono ?_
  rintro e w' ⟨rfl, rfl⟩
  go_wp2_with fail
  refine (in_at c 1000000000 true _ h2.out).mono ?_
  rintro e w' ⟨rfl, rfl⟩
  go_wp2_with fail
  refine (in_at u 1000000000 true _ h3.out).mono ?_
  rintro e w' ⟨rfl, rfl⟩
  go_wp2_with fail
  refine (in_at k 2000000 true _ h4.out).mono ?_
  rintro e w' ⟨rfl, rfl⟩
  go_wp2_with fail
  go_ret
  exact ⟨rfl, BB⟩
set_option maxRecDepth 100000 in
set_option maxHeartbeats 4000000 in
theorem ishalf_n (s n c u k : Int) (w : World) (ok : Hf.ok ⟨s, n, c, u, false, 0⟩) : Calls Tryd.prog 52 #[(⟨s, n, c, u, false, 0⟩ : Hf).v] w (Ans (.bool true) w) := by
  have h0 := Lib.hid ok.s; have h1 := Lib.hid ok.n; have h2 := Lib.hid ok.c; have h3 := Lib.hid ok.u; have h4 := Lib.hid ok.k; clear ok
  simp only at h0 h1 h2 h3 h4
  go_enter Tryd.func52, Tryd.ntmps52
  go_wp2_with fail
  have Tt := CAt.new (w) [.int .i64 s, .int .i64 n, .int .i64 c, .int .i64 u, .bool false, .int .i64 0] 70
  have BB : Below w.heap.size w ((w).alloc (.cells #[.int .i64 s, .int .i64 n, .int .i64 c, .int .i64 u, .bool false, .int .i64 0] 70)) := ball (Below.refl _ _) _
  obtain ⟨V1, hV1⟩ : ∃ V1, w.alloc (.cells #[.int .i64 s, .int .i64 n, .int .i64 c, .int .i64 u, .bool false, .int .i64 0] 70) = V1 := ⟨_, rfl⟩
  rw [hV1] at BB Tt ⊢
  clear hV1
  have t0 := Tt 0 _ rfl
  have t1 := Tt 1 _ rfl
  have t2 := Tt 2 _ rfl
  have t3 := Tt 3 _ rfl
  have t4 := Tt 4 _ rfl
  have t5 := Tt 5 _ rfl
  go_wp2_with fail
  refine (isnode_at s true _ h0.out).mono ?_
  rintro e w' ⟨rfl, rfl⟩
  go_wp2_with fail
  refine (in_at n 1000000000 true _ h1.out).mono ?_
  rintro e w' ⟨rfl, rfl⟩
  go_wp2_with fail
  refine (in_at c 1000000000 true _ h2.out).mono ?_
  rintro e w' ⟨rfl, rfl⟩
  go_wp2_with fail
  refine (in_at u 1000000000 true _ h3.out).mono ?_
  rintro e w' ⟨rfl, rfl⟩
  go_wp2_with fail
  refine (in_at 0 2000000 true _ h4.out).mono ?_
  rintro e w' ⟨rfl, rfl⟩
  go_wp2_with fail
  go_ret
  exact ⟨rfl, BB⟩
def Pc (w : World) (b o : Nat) (y : Int) : Prop := w.cell? ⟨b, o, none⟩ = some (.int .i64 y)
def Pv (w : World) (k b o : Nat) (z : Int) : Prop := 0 < k → ∃ y : Int, w.cell? ⟨b, o, none⟩ = some (.int .i64 y) ∧ y < z
theorem Pv.keep {w w' : World} {k b o : Nat} {z : Int} (h : Pv w k b o z) (hb : Below w.heap.size w w') : Pv w' k b o z := fun h0 => by
  obtain ⟨y, h1, h2⟩ := h h0; exact ⟨y, keep1 hb h1, h2⟩
theorem ishalf_at (h : Hf) (w : World) (ok : h.ok) : Calls Tryd.prog 52 #[h.v] w (Ans (.bool true) w) := by
  obtain ⟨s, n, c, u, pr, k⟩ := h
  cases pr
  · obtain rfl : k = 0 := ok.p rfl
    exact ishalf_n s n c u 0 w ok
  · exact ishalf_p s n c u k w ok
set_option maxRecDepth 100000 in
set_option maxHeartbeats 4000000 in
theorem svalid_at (l : List Hf) (n : Nat) (a : Option Addr) (cap : Nat) (w : World) (ok : OkL l) (hn : Hid (n = l.length)) (hl : HsAt w a l) : Calls Tryd.prog 29 #[.slice a n cap] w (Ans (.bool true) w) := by
  have OK := Lib.hid ok; clear ok
  have h4 : n ≤ 4 := by rw [hn.out]; exact OK.out.len
  go_enter Tryd.func29, Tryd.ntmps29
  go_wp2_with fail
  go_loopw [7] (fun i wr => ∃ k : Nat, k ≤ n ∧ i = .int .i64 k ∧ Below w.heap.size w wr) (fun i _ => n - (intOf i).toNat)
  case atStart => exact ⟨0, Nat.zero_le _, rfl, Below.refl _ _⟩
  case round =>
    obtain ⟨k, hk, rfl, BB⟩ := hrel
    by_cases hlt : k < n
    · have hlt' : (k : Int) < (n : Int) := by omega
      have hk0 : (0 : Int) ≤ (k : Int) := by omega
      have hwk : IntKind.i64.wrap ((k : Int) + 1) = (k : Int) + 1 := IntWalk.i64_in _ (by omega)
      obtain ⟨b, off, e1, c0, c1, c2, c3, c4, c5⟩ := hl.hf BB (i := k) (by rw [← hn.out]; exact hlt)
      obtain ⟨x, hx⟩ : ∃ x, l.getD k default = x := ⟨_, rfl⟩
      have hok : x.ok := by rw [← hx]; exact OK.out.get (by rw [← hn.out]; exact hlt)
      have HOK := Lib.hid hok; clear hok
      have hprev : 0 < k → ∃ y : Int, wr.cell? ⟨b, off + (k - 1) * 6, none⟩ = some (.int .i64 y) ∧ y < x.s := fun h0 => by
        obtain ⟨b', off', e', d0, _⟩ := hl.hf BB (i := k - 1) (by rw [← hn.out]; omega)
        rw [e1] at e'
        simp only [Option.some.injEq, Addr.mk.injEq, and_true] at e'
        obtain ⟨rfl, rfl⟩ := e'
        exact ⟨_, d0, by rw [← hx]; exact OK.out.lt (by omega) (by rw [← hn.out]; exact hlt)⟩
      rw [hx] at c0 c1 c2 c3 c4 c5
      clear hx
      subst e1
      go_upto_region 4 with (fail)
      replace hprev : Pv wr k b (off + (k - 1) * 6) x.s := hprev
      have bs1 : w.heap.size ≤ wr.heap.size := BB.size
      have Tx := CAt.new (wr) [.int .i64 x.s, .int .i64 x.n, .int .i64 x.c, .int .i64 x.u, .bool x.pr, .int .i64 x.k] 70
      replace hprev := hprev.keep (Below.alloc (Below.refl _ (wr)) (Nat.le_refl _) (.cells #[.int .i64 x.s, .int .i64 x.n, .int .i64 x.c, .int .i64 x.u, .bool x.pr, .int .i64 x.k] 70))
      replace BB := ball BB (.cells #[.int .i64 x.s, .int .i64 x.n, .int .i64 x.c, .int .i64 x.u, .bool x.pr, .int .i64 x.k] 70)
      obtain ⟨V1, hV1⟩ : ∃ V1, wr.alloc (.cells #[.int .i64 x.s, .int .i64 x.n, .int .i64 x.c, .int .i64 x.u, .bool x.pr, .int .i64 x.k] 70) = V1 := ⟨_, rfl⟩
      rw [hV1] at BB Tx hprev ⊢
      clear hV1
      obtain ⟨k1, hk1⟩ : ∃ k1, wr.heap.size = k1 := ⟨_, rfl⟩
      rw [hk1] at Tx bs1 ⊢
      clear hk1
      rcases Nat.eq_zero_or_pos k with hz | hz
      · subst hz
        have x0 := Tx 0 _ rfl
        have x1 := Tx 1 _ rfl
        have x2 := Tx 2 _ rfl
        have x3 := Tx 3 _ rfl
        have x4 := Tx 4 _ rfl
        have x5 := Tx 5 _ rfl
        go_wp2_with fail
        clear x0 x1 x2 x3 x4 x5
        have x0 := Tx 0 _ rfl
        have kx0 := cell_regrown x0
        have x1 := Tx 1 _ rfl
        have kx1 := cell_regrown x1
        have x2 := Tx 2 _ rfl
        have kx2 := cell_regrown x2
        have x3 := Tx 3 _ rfl
        have kx3 := cell_regrown x3
        have x4 := Tx 4 _ rfl
        have kx4 := cell_regrown x4
        have x5 := Tx 5 _ rfl
        have kx5 := cell_regrown x5
        refine wp_region_quiet_below (by kernel_rfl) (by kernel_rfl) ?_
        repeat (go_big_quiet_step (first
          | (go_at_call 52; exact rg_of fun w' h => ishalf_at x w' HOK.out)))
        refine wpQuiet_nil ?_
        intro _ hw'
        obtain ⟨⟨dq, osq⟩, hw''⟩ := hw'
        subst hw''
        clear x0 kx0 x1 kx1 x2 kx2 x3 kx3 x4 kx4 x5 kx5
        have bq := below_regrown V1 dq osq
        obtain ⟨V2, hV2⟩ : ∃ V2, grow (redrawn V1 dq) osq = V2 := ⟨_, rfl⟩
        rw [hV2] at bq ⊢
        clear hV2 dq osq
        replace Tx := Tx.keep bq
        replace hprev := hprev.keep bq
        replace BB := bstep BB bq
        clear bq
        go_wp2_with fail
        go_roundw
        case rel => exact ⟨1, by omega, by go_num, BB⟩
        case measure => simp [intOf]; omega
      · obtain ⟨y, hy', hyx⟩ := hprev hz
        have hz' : (0 : Int) < (k : Int) := by omega
        have hd : decide (x.s ≤ y) = false := by simp; omega
        have hkm : IntKind.i64.wrap ((k : Int) - 1) = ((k - 1 : Nat) : Int) := by rw [IntWalk.i64_in _ (by omega)]; omega
        have hk1 : ((k - 1 : Nat) : Int) < (n : Int) := by omega
        have hk2 : (0 : Int) ≤ ((k - 1 : Nat) : Int) := by omega
        have ky := cell_regrown hy'
        have x0 := Tx 0 _ rfl
        have x1 := Tx 1 _ rfl
        have x2 := Tx 2 _ rfl
        have x3 := Tx 3 _ rfl
        have x4 := Tx 4 _ rfl
        have x5 := Tx 5 _ rfl
        go_wp2_with fail
        clear x0 x1 x2 x3 x4 x5
        have x0 := Tx 0 _ rfl
        have kx0 := cell_regrown x0
        have x1 := Tx 1 _ rfl
        have kx1 := cell_regrown x1
        have x2 := Tx 2 _ rfl
        have kx2 := cell_regrown x2
        have x3 := Tx 3 _ rfl
        have kx3 := cell_regrown x3
        have x4 := Tx 4 _ rfl
        have kx4 := cell_regrown x4
        have x5 := Tx 5 _ rfl
        have kx5 := cell_regrown x5
        refine wp_region_quiet_below (by kernel_rfl) (by kernel_rfl) ?_
        repeat (go_big_quiet_step (first
          | (go_at_call 52; exact rg_of fun w' h => ishalf_at x w' HOK.out)))
        refine wpQuiet_nil ?_
        intro _ hw'
        obtain ⟨⟨dq, osq⟩, hw''⟩ := hw'
        subst hw''
        clear x0 kx0 x1 kx1 x2 kx2 x3 kx3 x4 kx4 x5 kx5
        have bq := below_regrown V1 dq osq
        obtain ⟨V2, hV2⟩ : ∃ V2, grow (redrawn V1 dq) osq = V2 := ⟨_, rfl⟩
        rw [hV2] at bq ⊢
        clear hV2 dq osq
        replace Tx := Tx.keep bq
        replace hprev := hprev.keep bq
        replace BB := bstep BB bq
        clear bq
        go_wp2_with fail
        go_roundw
        case rel => exact ⟨k + 1, by omega, by go_num, BB⟩
        case measure => simp [intOf]; omega
    · have hkn : k = n := by omega
      subst hkn
      have hlt' : ¬ (k : Int) < (k : Int) := by omega
      have h4' : (k : Int) ≤ 4 := by omega
      go_wp2_with fail
      go_ret
      exact ⟨rfl, BB⟩
end Go.Proofs.YtgmabjlehjpboaaDoor
