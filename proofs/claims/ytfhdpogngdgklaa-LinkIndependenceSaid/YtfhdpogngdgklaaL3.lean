/- Proved: what link.first and link.find and the reference Of return: the place of a peer in a list, and its link. Conditions: the list lies in memory. -/
import Derived.Test.YtfhdpogngdgklaaL2
namespace Go.Proofs.Ytfhdpogngdgklaa
open Go.RowKit Go.Sort Go.BigFrame
set_option linter.unusedVariables false
set_option linter.unusedSimpArgs false
attribute [local go_sem] cell_alloc_old

abbrev Lk.v (x : Lk) : Value := .agg #[.int .i64 x.p, .int .i64 x.s, .int .i64 x.g]

theorem has_any (p s g peer : Int) (c : Nat) (w : World) (hc : w.cell? ⟨c, 0, none⟩ = some (.int .i64 peer)) (y : Bool) (hy : decide (peer ≤ p) = y) :
    Calls Try.prog 25 #[.agg #[.int .i64 p, .int .i64 s, .int .i64 g], .pointer (some ⟨c, 0, none⟩)] w fun e w' => e = .returned (.bool y) ∧ Below w.heap.size w w' := by
  go_enter Try.func25, Try.ntmps25
  go_wp2_with fail
  go_ret
  exact ⟨by simp [hy], ball (Below.refl _ _) _⟩

/-- The place of the first element that is not before the peer. -/
def noneTo (ls : List Lk) (peer : Int) (k : Nat) : Prop := ∀ i, i < k → (ls.getD i default).p < peer
theorem none_succ {ls : List Lk} {peer : Int} {k : Nat} (h : noneTo ls peer k) (h1 : (ls.getD k default).p < peer) : noneTo ls peer (k + 1) := fun i hi => by
  rcases Nat.lt_or_ge i k with h2 | h2
  · exact h i h2
  · rw [show i = k from by omega]; exact h1
def IsFirst (ls : List Lk) (peer : Int) (k : Nat) : Prop := k ≤ ls.length ∧ noneTo ls peer k ∧ (k < ls.length → peer ≤ (ls.getD k default).p)

set_option maxRecDepth 100000 in
set_option maxHeartbeats 1000000 in
theorem first_any (a : Option Addr) (cap : Nat) (ls : List Lk) (peer : Int) (c : Nat) (w : World) (hl : LkAt w a ls) (hm : ls.length ≤ maxLen) (hp : w.cell? ⟨c, 0, none⟩ = some (.int .i64 peer)) :
    Calls Try.prog 24 #[.slice a ls.length cap, .func (.func 25) #[] #[.pointer (some ⟨c, 0, none⟩)]] w fun e w' => (∃ k : Nat, e = .returned (.int .i64 k) ∧ IsFirst ls peer k) ∧ Below w.heap.size w w' := by
  unfold maxLen at hm
  obtain ⟨n, hn⟩ : ∃ n, n = ls.length := ⟨_, rfl⟩
  unfold IsFirst
  rw [← hn] at hm ⊢
  have HN := Lib.hid hn; clear hn
  go_enter Try.func24, Try.ntmps24
  go_wp2_with fail
  go_loopw [9] (fun i wr => ∃ k : Nat, k ≤ n ∧ i = .int .i64 k ∧ noneTo ls peer k ∧ Below w.heap.size w wr) (fun i _ => n - (intOf i).toNat)
  case atStart => exact ⟨0, Nat.zero_le _, rfl, fun i hi => absurd hi (Nat.not_lt_zero _), Below.refl _ _⟩
  case round =>
    obtain ⟨k, hk, rfl, hno, hB⟩ := hrel
    have HNO := Lib.hid hno; clear hno
    by_cases hlt : k < n
    · have hlt' : (k : Int) < (n : Int) := by omega
      have hk0 : (0 : Int) ≤ (k : Int) := by omega
      obtain ⟨b, off, rfl, hc⟩ := hl.at (i := k) (by rw [← HN.out]; exact hlt)
      obtain ⟨c0, c1, c2⟩ := hc k (by rw [← HN.out]; exact hlt)
      have d0 := keep1 hB c0
      have d1 := keep1 hB c1
      have d2 := keep1 hB c2
      obtain ⟨x, hx⟩ : ∃ x, ls.getD k default = x := ⟨_, rfl⟩
      rw [hx] at d0 d1 d2
      have HX := Lib.hid hx
      clear c0 c1 c2 hc hl hx
      have BW : Below w.heap.size w (wr.alloc (.cells #[.int .i64 x.p, .int .i64 x.s, .int .i64 x.g] 32)) := ball hB _
      go_wp2_with fail
      cases hy : decide (peer ≤ x.p)
      · have hy2 : ¬ peer ≤ x.p := of_decide_eq_false hy
        refine (has_any _ _ _ peer c _ (keep1 BW hp) false hy).mono ?_
        rintro e w1 ⟨rfl, b1⟩
        go_wp2_with fail
        go_roundw
        case rel => exact ⟨k + 1, by omega, by go_num, none_succ HNO.out (by rw [HX.out]; omega), bstep BW b1⟩
        case measure => simp [intOf]; omega
      · have hy2 : peer ≤ x.p := of_decide_eq_true hy
        refine (has_any _ _ _ peer c _ (keep1 BW hp) true hy).mono ?_
        rintro e w1 ⟨rfl, b1⟩
        go_wp2_with fail
        go_ret
        exact ⟨⟨k, rfl, hk, HNO.out, fun _ => by rw [HX.out]; exact hy2⟩, bstep BW b1⟩
    · have hkn : n = k := by omega
      subst hkn
      go_wp2_with fail
      go_ret
      exact ⟨⟨n, rfl, Nat.le_refl _, HNO.out, fun h => absurd h (Nat.lt_irrefl _)⟩, hB⟩

theorem set3 {z : World} {c : Nat} {u0 u1 u2 : Value} {p s g : Int} (h0 : z.cell? ⟨c, 0, none⟩ = some u0) (h1 : z.cell? ⟨c, 1, none⟩ = some u1) (h2 : z.cell? ⟨c, 2, none⟩ = some u2) :
    (((z.setCell ⟨c, 0, none⟩ (.int .i64 p)).setCell ⟨c, 1, none⟩ (.int .i64 s)).setCell ⟨c, 2, none⟩ (.int .i64 g)).cell? ⟨c, 0, none⟩ = some (.int .i64 p) ∧
    (((z.setCell ⟨c, 0, none⟩ (.int .i64 p)).setCell ⟨c, 1, none⟩ (.int .i64 s)).setCell ⟨c, 2, none⟩ (.int .i64 g)).cell? ⟨c, 1, none⟩ = some (.int .i64 s) ∧
    (((z.setCell ⟨c, 0, none⟩ (.int .i64 p)).setCell ⟨c, 1, none⟩ (.int .i64 s)).setCell ⟨c, 2, none⟩ (.int .i64 g)).cell? ⟨c, 2, none⟩ = some (.int .i64 g) := by
  refine ⟨?_, ?_, ?_⟩
  · rw [World.cell?_setCell_other _ _ _ _ (by simp), World.cell?_setCell_other _ _ _ _ (by simp)]
    exact World.cell?_setCell_same' _ _ _ (by rw [h0]; rfl)
  · rw [World.cell?_setCell_other _ _ _ _ (by simp)]
    exact World.cell?_setCell_same' _ _ _ (by rw [World.cell?_setCell_other _ _ _ _ (by simp), h1]; rfl)
  · exact World.cell?_setCell_same' _ _ _ (by rw [World.cell?_setCell_other _ _ _ _ (by simp), World.cell?_setCell_other _ _ _ _ (by simp), h2]; rfl)
def atV (ls : List Lk) (peer : Int) (k : Nat) : Lk := if k < ls.length ∧ (ls.getD k default).p = peer then ls.getD k default else ⟨peer, 0, 0⟩
def FindPost (ls : List Lk) (peer : Int) (w : World) (e : Ending) (w' : World) : Prop :=
  ∃ k : Nat, e = .returned (.tuple #[.int .i64 k, .agg #[.int .i64 (atV ls peer k).p, .int .i64 (atV ls peer k).s, .int .i64 (atV ls peer k).g]]) ∧ IsFirst ls peer k ∧ Below w.heap.size w w'

set_option maxRecDepth 100000 in
set_option maxHeartbeats 2000000 in
theorem find_any (a : Option Addr) (cap : Nat) (ls : List Lk) (peer : Int) (w : World) (hl : LkAt w a ls) (hm : ls.length ≤ maxLen) :
    Calls Try.prog 20 #[.slice a ls.length cap, .int .i64 peer] w (FindPost ls peer w) := by
  have hm0 := hm
  unfold maxLen at hm
  obtain ⟨n, hn⟩ : ∃ n, n = ls.length := ⟨_, rfl⟩
  have H0 := Lib.hid hm0; clear hm0
  rw [← hn] at hm ⊢
  have HN := Lib.hid hn; clear hn
  go_enter Try.func20, Try.ntmps20
  go_wp2_with fail
  have BV : Below w.heap.size w ((w.alloc (.cells #[.int .i64 peer] 3)).alloc (.cells #[.int .i64 0, .int .i64 0, .int .i64 0] 32)) := ball (ball (Below.refl _ _) _) _
  have c0 : ((w.alloc (.cells #[.int .i64 peer] 3)).alloc (.cells #[.int .i64 0, .int .i64 0, .int .i64 0] 32)).cell? ⟨w.heap.size, 0, none⟩ = some (.int .i64 peer) := old1 (new0 rfl rfl) _
  have r0 : ((w.alloc (.cells #[.int .i64 peer] 3)).alloc (.cells #[.int .i64 0, .int .i64 0, .int .i64 0] 32)).cell? ⟨w.heap.size + 1, 0, none⟩ = some (.int .i64 0) := new0 (by simp) rfl
  have r1 : ((w.alloc (.cells #[.int .i64 peer] 3)).alloc (.cells #[.int .i64 0, .int .i64 0, .int .i64 0] 32)).cell? ⟨w.heap.size + 1, 1, none⟩ = some (.int .i64 0) := new0 (by simp) rfl
  have r2 : ((w.alloc (.cells #[.int .i64 peer] 3)).alloc (.cells #[.int .i64 0, .int .i64 0, .int .i64 0] 32)).cell? ⟨w.heap.size + 1, 2, none⟩ = some (.int .i64 0) := new0 (by simp) rfl
  have rf : ∀ j, ((w.alloc (.cells #[.int .i64 peer] 3)).alloc (.cells #[.int .i64 0, .int .i64 0, .int .i64 0] 32)).frozen? ⟨w.heap.size + 1, j, none⟩ = false := fun j => by
    rw [frozen?_alloc_cells, frozen?_alloc_cells]; exact frz_new (Nat.le_succ _)
  obtain ⟨V, hV⟩ : ∃ V, (w.alloc (.cells #[.int .i64 peer] 3)).alloc (.cells #[.int .i64 0, .int .i64 0, .int .i64 0] 32) = V := ⟨_, rfl⟩
  rw [hV] at BV c0 r0 r1 r2 rf ⊢
  clear hV
  have hF := first_any a cap ls peer w.heap.size V (hl.keep BV) H0.out c0
  rw [← HN.out] at hF
  refine hF.mono ?_
  rintro e W ⟨⟨k, rfl, hk⟩, bW⟩
  clear hF
  have BW := bstep BV bW
  have c0 := keep1 bW c0
  have s0 := keep1 bW r0
  have s1 := keep1 bW r1
  have s2 := keep1 bW r2
  have sf : ∀ j, W.frozen? ⟨w.heap.size + 1, j, none⟩ = false := fun j => (bW.frozen (p := ⟨w.heap.size + 1, j, none⟩) (World.block_lt_of_cell? V ⟨w.heap.size + 1, 0, none⟩ r0)).trans (rf j)
  clear r0 r1 r2 rf BV bW
  have hl2 := hl.keep BW
  go_wp2_with fail
  have kc0 := cell_regrown c0
  have hkn : k ≤ n := by rw [HN.out]; exact hk.1
  have HK := Lib.hid hk; clear hk
  have fsame : ∀ (x : Lk), atV ls peer k = x → ∀ z, Below w.heap.size w z → FindPost ls peer w (.returned (.tuple #[.int .i64 k, .agg #[.int .i64 x.p, .int .i64 x.s, .int .i64 x.g]])) z := fun x hx z hz => ⟨k, by rw [hx], HK.out, hz⟩
  have FIN := Lib.hid fsame; clear fsame
  by_cases hlt : k < n
  · have hlt' : (k : Int) < (n : Int) := by omega
    have hk0 : (0 : Int) ≤ (k : Int) := by omega
    obtain ⟨b, off, rfl, hc⟩ := hl2.at (i := k) (by rw [← HN.out]; exact hlt)
    obtain ⟨d0, d1, d2⟩ := hc k (by rw [← HN.out]; exact hlt)
    have hav : ∀ y, decide ((ls.getD k default).p = peer) = y → atV ls peer k = if y = true then ls.getD k default else ⟨peer, 0, 0⟩ := fun y hy => by
      unfold atV; rw [← HN.out]; subst hy; simp [hlt]
    have HAV := Lib.hid hav; clear hav
    obtain ⟨x, hx⟩ : ∃ x, ls.getD k default = x := ⟨_, rfl⟩
    rw [hx] at d0 d1 d2 HAV
    clear hc hl hx hl2
    have kd0 := cell_regrown d0; have kd1 := cell_regrown d1; have kd2 := cell_regrown d2
    cases hy : decide (x.p = peer)
    · have hx := HAV.out false hy
      have HX := Lib.hid hx; clear hx
      have hyb : (x.p == peer) = false := by simpa using hy
      refine wp_region_quiet_below (by kernel_rfl) (by kernel_rfl) ?_
      repeat (go_big_quiet_step (fail))
      refine wpQuiet_nil ?_
      intro _ hw'
      obtain ⟨⟨dq, osq⟩, hw''⟩ := hw'
      subst hw''
      go_wp2_with fail
      have b2 := below_regrown W dq osq
      obtain ⟨V2, hV2⟩ : ∃ V2, grow (redrawn W dq) osq = V2 := ⟨_, rfl⟩
      rw [hV2] at b2 ⊢
      clear hV2
      have B2 := bstep BW b2
      have c0 := keep1 b2 c0
      have s0 := keep1 b2 s0
      have s1 := keep1 b2 s1
      have s2 := keep1 b2 s2
      have sf : ∀ j, V2.frozen? ⟨w.heap.size + 1, j, none⟩ = false := fun j => (b2.frozen (p := ⟨w.heap.size + 1, j, none⟩) (World.block_lt_of_cell? W ⟨w.heap.size + 1, 0, none⟩ (by assumption))).trans (sf j)
      have kc0 := cell_regrown c0
      refine' wp_region_mixed [0, 1, 2, 3] [] [4] (by kernel_rfl) (by kernel_rfl) _ (fun Z hZ hN => quiet_hole ?hq1) (fun _ => .cells #[] 0) (fun _ _ => undef) (fun i hi => by cases hi) ?ht1
      case hq1 =>
        intro Q9 hQ9
        show wpQuiet _ _ _ _ [_, _, _, _] _
        repeat (go_big_quiet_step (fail))
        exact wpQuiet_nil hQ9
      rintro π z hz _ _
      simp only [putsA]
      show wpList _ _ _ [_] _ _
      have B3 := bstep B2 hz
      have s0 := keep1 hz s0
      have s1 := keep1 hz s1
      have s2 := keep1 hz s2
      have sf : ∀ j, z.frozen? ⟨w.heap.size + 1, j, none⟩ = false := fun j => (hz.frozen (p := ⟨w.heap.size + 1, j, none⟩) (World.block_lt_of_cell? V2 ⟨w.heap.size + 1, 0, none⟩ (by assumption))).trans (sf j)
      have t0 := sf 0
      have t1 := sf 1
      have t2 := sf 2
      clear sf kc0
      go_wp2_with fail
      obtain ⟨q0, q1, q2⟩ := set3 (p := peer) (s := 0) (g := 0) s0 s1 s2
      have B4 : Below w.heap.size w (((z.setCell ⟨w.heap.size + 1, 0, none⟩ (.int .i64 peer)).setCell ⟨w.heap.size + 1, 1, none⟩ (.int .i64 0)).setCell ⟨w.heap.size + 1, 2, none⟩ (.int .i64 0)) := ((B3.setCell (p := ⟨w.heap.size + 1, 0, none⟩) (Nat.le_succ _) _).setCell (p := ⟨w.heap.size + 1, 1, none⟩) (Nat.le_succ _) _).setCell (p := ⟨w.heap.size + 1, 2, none⟩) (Nat.le_succ _) _
      obtain ⟨Z, hZ⟩ : ∃ Z, ((z.setCell ⟨w.heap.size + 1, 0, none⟩ (.int .i64 peer)).setCell ⟨w.heap.size + 1, 1, none⟩ (.int .i64 0)).setCell ⟨w.heap.size + 1, 2, none⟩ (.int .i64 0) = Z := ⟨_, rfl⟩
      rw [hZ] at q0 q1 q2 B4 ⊢
      refine bodyPost_ret (v := .tuple #[.int .i64 k, .agg #[.int .i64 peer, .int .i64 0, .int .i64 0]]) (by simp [results, Try.results20, go_sem, q0, q1, q2]) rfl ?_
      exact FIN.out ⟨peer, 0, 0⟩ HX.out _ B4
    · have hx := HAV.out true hy
      have HX := Lib.hid hx; clear hx
      have hyb : (x.p == peer) = true := by simpa using hy
      refine wp_region_quiet_below (by kernel_rfl) (by kernel_rfl) ?_
      repeat (go_big_quiet_step (fail))
      refine wpQuiet_nil ?_
      intro _ hw'
      obtain ⟨⟨dq, osq⟩, hw''⟩ := hw'
      subst hw''
      go_wp2_with fail
      have b2 := below_regrown W dq osq
      obtain ⟨V2, hV2⟩ : ∃ V2, grow (redrawn W dq) osq = V2 := ⟨_, rfl⟩
      rw [hV2] at b2 ⊢
      clear hV2
      have B2 := bstep BW b2
      have d0 := keep1 b2 d0
      have d1 := keep1 b2 d1
      have d2 := keep1 b2 d2
      have s0 := keep1 b2 s0
      have s1 := keep1 b2 s1
      have s2 := keep1 b2 s2
      have sf : ∀ j, V2.frozen? ⟨w.heap.size + 1, j, none⟩ = false := fun j => (b2.frozen (p := ⟨w.heap.size + 1, j, none⟩) (World.block_lt_of_cell? W ⟨w.heap.size + 1, 0, none⟩ (by assumption))).trans (sf j)
      have kd0 := cell_regrown d0
      have kd1 := cell_regrown d1
      have kd2 := cell_regrown d2
      refine' wp_region_mixed [0, 1, 2, 3, 4, 5] [] [6] (by kernel_rfl) (by kernel_rfl) _ (fun Z hZ hN => quiet_hole ?hq2) (fun _ => .cells #[] 0) (fun _ _ => undef) (fun i hi => by cases hi) ?ht2
      case hq2 =>
        intro Q9 hQ9
        show wpQuiet _ _ _ _ [_, _, _, _, _, _] _
        repeat (go_big_quiet_step (fail))
        exact wpQuiet_nil hQ9
      rintro π z hz _ _
      simp only [putsA]
      show wpList _ _ _ [_] _ _
      have B3 := bstep B2 hz
      have s0 := keep1 hz s0
      have s1 := keep1 hz s1
      have s2 := keep1 hz s2
      have sf : ∀ j, z.frozen? ⟨w.heap.size + 1, j, none⟩ = false := fun j => (hz.frozen (p := ⟨w.heap.size + 1, j, none⟩) (World.block_lt_of_cell? V2 ⟨w.heap.size + 1, 0, none⟩ (by assumption))).trans (sf j)
      have t0 := sf 0
      have t1 := sf 1
      have t2 := sf 2
      clear sf kd0 kd1 kd2
      go_wp2_with fail
      obtain ⟨q0, q1, q2⟩ := set3 (p := x.p) (s := x.s) (g := x.g) s0 s1 s2
      have B4 : Below w.heap.size w (((z.setCell ⟨w.heap.size + 1, 0, none⟩ (.int .i64 x.p)).setCell ⟨w.heap.size + 1, 1, none⟩ (.int .i64 x.s)).setCell ⟨w.heap.size + 1, 2, none⟩ (.int .i64 x.g)) := ((B3.setCell (p := ⟨w.heap.size + 1, 0, none⟩) (Nat.le_succ _) _).setCell (p := ⟨w.heap.size + 1, 1, none⟩) (Nat.le_succ _) _).setCell (p := ⟨w.heap.size + 1, 2, none⟩) (Nat.le_succ _) _
      obtain ⟨Z, hZ⟩ : ∃ Z, ((z.setCell ⟨w.heap.size + 1, 0, none⟩ (.int .i64 x.p)).setCell ⟨w.heap.size + 1, 1, none⟩ (.int .i64 x.s)).setCell ⟨w.heap.size + 1, 2, none⟩ (.int .i64 x.g) = Z := ⟨_, rfl⟩
      rw [hZ] at q0 q1 q2 B4 ⊢
      refine bodyPost_ret (v := .tuple #[.int .i64 k, .agg #[.int .i64 x.p, .int .i64 x.s, .int .i64 x.g]]) (by simp [results, Try.results20, go_sem, q0, q1, q2]) rfl ?_
      exact FIN.out x HX.out _ B4
  · have hav : atV ls peer k = ⟨peer, 0, 0⟩ := by unfold atV; rw [if_neg (by rw [← HN.out]; omega)]
    have HX := Lib.hid hav; clear hav
    have hge : (n : Int) ≤ (k : Int) := by omega
    refine wp_region_quiet_below (by kernel_rfl) (by kernel_rfl) ?_
    repeat (go_big_quiet_step (fail))
    refine wpQuiet_nil ?_
    intro _ hw'
    obtain ⟨⟨dq, osq⟩, hw''⟩ := hw'
    subst hw''
    go_wp2_with fail
    have b2 := below_regrown W dq osq
    obtain ⟨V2, hV2⟩ : ∃ V2, grow (redrawn W dq) osq = V2 := ⟨_, rfl⟩
    rw [hV2] at b2 ⊢
    clear hV2
    have B2 := bstep BW b2
    have c0 := keep1 b2 c0
    have s0 := keep1 b2 s0
    have s1 := keep1 b2 s1
    have s2 := keep1 b2 s2
    have sf : ∀ j, V2.frozen? ⟨w.heap.size + 1, j, none⟩ = false := fun j => (b2.frozen (p := ⟨w.heap.size + 1, j, none⟩) (World.block_lt_of_cell? W ⟨w.heap.size + 1, 0, none⟩ (by assumption))).trans (sf j)
    have kc0 := cell_regrown c0
    refine' wp_region_mixed [0, 1, 2, 3] [] [4] (by kernel_rfl) (by kernel_rfl) _ (fun Z hZ hN => quiet_hole ?hq3) (fun _ => .cells #[] 0) (fun _ _ => undef) (fun i hi => by cases hi) ?ht3
    case hq3 =>
      intro Q9 hQ9
      show wpQuiet _ _ _ _ [_, _, _, _] _
      repeat (go_big_quiet_step (fail))
      exact wpQuiet_nil hQ9
    rintro π z hz _ _
    simp only [putsA]
    show wpList _ _ _ [_] _ _
    have B3 := bstep B2 hz
    have s0 := keep1 hz s0
    have s1 := keep1 hz s1
    have s2 := keep1 hz s2
    have sf : ∀ j, z.frozen? ⟨w.heap.size + 1, j, none⟩ = false := fun j => (hz.frozen (p := ⟨w.heap.size + 1, j, none⟩) (World.block_lt_of_cell? V2 ⟨w.heap.size + 1, 0, none⟩ (by assumption))).trans (sf j)
    have t0 := sf 0
    have t1 := sf 1
    have t2 := sf 2
    clear sf kc0
    go_wp2_with fail
    obtain ⟨q0, q1, q2⟩ := set3 (p := peer) (s := 0) (g := 0) s0 s1 s2
    have B4 : Below w.heap.size w (((z.setCell ⟨w.heap.size + 1, 0, none⟩ (.int .i64 peer)).setCell ⟨w.heap.size + 1, 1, none⟩ (.int .i64 0)).setCell ⟨w.heap.size + 1, 2, none⟩ (.int .i64 0)) := ((B3.setCell (p := ⟨w.heap.size + 1, 0, none⟩) (Nat.le_succ _) _).setCell (p := ⟨w.heap.size + 1, 1, none⟩) (Nat.le_succ _) _).setCell (p := ⟨w.heap.size + 1, 2, none⟩) (Nat.le_succ _) _
    obtain ⟨Z, hZ⟩ : ∃ Z, ((z.setCell ⟨w.heap.size + 1, 0, none⟩ (.int .i64 peer)).setCell ⟨w.heap.size + 1, 1, none⟩ (.int .i64 0)).setCell ⟨w.heap.size + 1, 2, none⟩ (.int .i64 0) = Z := ⟨_, rfl⟩
    rw [hZ] at q0 q1 q2 B4 ⊢
    refine bodyPost_ret (v := .tuple #[.int .i64 k, .agg #[.int .i64 peer, .int .i64 0, .int .i64 0]]) (by simp [results, Try.results20, go_sem, q0, q1, q2]) rfl ?_
    exact FIN.out ⟨peer, 0, 0⟩ HX.out _ B4
end Go.Proofs.Ytfhdpogngdgklaa
