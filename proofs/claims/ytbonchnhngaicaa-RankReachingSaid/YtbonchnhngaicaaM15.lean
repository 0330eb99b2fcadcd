/- Proved: that the law RankLoops of the statements returns true for every input. Conditions: the list of moves lies in memory, its numbers in the bounds of their kinds. -/
import Derived.Test.YtbonchnhngaicaaM14
import Derived.Deep.DrawnRows
namespace Go.Proofs.Ytbonchnhngaicaa
open Go.RowKit Go.Sort Go.BigFrame
set_option linter.unusedVariables false
set_option linter.unusedSimpArgs false
attribute [local go_sem] cell_alloc_old
attribute [local go_sem ↓] Go.wp_at_zero Go.wp_at_succ

instance : Inhabited Mv := ⟨⟨0, 0, 0, 0, 0⟩⟩
abbrev Mv.cs (x : Mv) : List Value := [.int .u8 x.d, .int .u8 x.nd, .int .u8 x.fr, .int .u8 x.lt, .int .u16 x.co]
/-- The moves lie in memory. -/
def MvAt (w : World) (a : Option Addr) (l : List Mv) : Prop := l = [] ∨ ∃ b off, a = some ⟨b, off, none⟩ ∧ ∀ i, i < l.length → ∀ j u, (l.getD i default).cs[j]? = some u → w.cell? ⟨b, off + i * 5 + j, none⟩ = some u
theorem MvAt.at {w wr : World} {a : Option Addr} {l : List Mv} (h : MvAt w a l) (hb : Below w.heap.size w wr) {i : Nat} (hi : i < l.length) : ∃ b off, a = some ⟨b, off, none⟩ ∧
    wr.cell? ⟨b, off + i * 5, none⟩ = some (.int .u8 (l.getD i default).d) ∧ wr.cell? ⟨b, off + i * 5 + 1, none⟩ = some (.int .u8 (l.getD i default).nd) ∧ wr.cell? ⟨b, off + i * 5 + 2, none⟩ = some (.int .u8 (l.getD i default).fr) ∧
    wr.cell? ⟨b, off + i * 5 + 3, none⟩ = some (.int .u8 (l.getD i default).lt) ∧ wr.cell? ⟨b, off + i * 5 + 4, none⟩ = some (.int .u16 (l.getD i default).co) := by
  rcases h with rfl | ⟨b, off, ha, h⟩
  · simp at hi
  · exact ⟨b, off, ha, keep1 hb (h i hi 0 _ rfl), keep1 hb (h i hi 1 _ rfl), keep1 hb (h i hi 2 _ rfl), keep1 hb (h i hi 3 _ rfl), keep1 hb (h i hi 4 _ rfl)⟩
theorem doM_inv {n : Nat} {M : Msh} (h : Inv n M) (hn : 0 < n) {x : Mv} (hx : x.ok) : Inv n (doM n M x) := h.move hn _ _ _ hx.l0 (mod_nat hx.n0 hn).2 (mod_nat hx.f0 hn).2
theorem own0 {n : Nat} {M : Msh} (h : Inv n M) (hn : 0 < n) : 0 ≤ (M.R 0).o.s ∧ (M.R 0).o.s ≤ 1000000000 := by
  obtain ⟨v1, _⟩ := valid_iff.1 (h.v 0 hn)
  rw [dist_iff] at v1; omega

set_option maxRecDepth 100000 in
set_option maxHeartbeats 8000000 in
theorem loops_0 (nd : Int) (h0 : 0 ≤ nd) (h1 : nd ≤ 255) (m : Nat) (a : Option Addr) (cap : Nat) (l : List Mv) (w : World) (hm : Hid (m = l.length)) (hl : MvAt w a l) (h200 : (200 : Int) < m) : Calls Try.prog 8 #[.int .u8 nd, .slice a m cap] w (Yes true w) := by
  go_enter Try.func8, Try.ntmps8
  go_wp2_with fail
  refine (head_any w).mono ?_
  rintro e w1 ⟨rfl, b1⟩
  have BB := b1
  clear b1
  go_wp2_with fail
  go_ret
  exact ⟨rfl, BB⟩
set_option maxRecDepth 100000 in
set_option maxHeartbeats 8000000 in
theorem loops_1 (nd : Int) (h0 : 0 ≤ nd) (h1 : nd ≤ 255) (m : Nat) (a : Option Addr) (cap : Nat) (l : List Mv) (w : World) (hm : Hid (m = l.length)) (hl : MvAt w a l) (hok : Hid (∀ x ∈ l, x.ok)) (h200 : ¬ (200 : Int) < m) : Calls Try.prog 8 #[.int .u8 nd, .slice a m cap] w (Yes true w) := by
  obtain ⟨n, hn⟩ : ∃ n : Nat, 2 + nd % 7 = (n : Int) := ⟨(2 + nd % 7).toNat, by omega⟩
  have hn2 : 2 ≤ n := by omega
  have hn9 : n ≤ 8 := by omega
  have hw9 : IntKind.i64.wrap (2 + nd % 7) = (n : Int) := by rw [hn]; exact IntWalk.i64_in _ (by omega)
  go_enter Try.func8, Try.ntmps8
  go_wp2_with fail
  refine (head_any w).mono ?_
  rintro e w1 ⟨rfl, b1⟩
  have BB := b1
  clear b1
  go_wp2_with fail
  refine (mesh_start n (by omega) (by omega) w1).mono ?_
  rintro e w2 ⟨rfl, b2, hA⟩
  have hbs := BB.size
  obtain ⟨mb, hmb⟩ : ∃ mb, w1.heap.size = mb := ⟨_, rfl⟩
  rw [hmb] at hA hbs ⊢
  replace BB := bstep BB b2
  have HB := Lib.hid hmb; clear hmb b2
  have hI := Inv.start n
  have hS := Short.start n
  obtain ⟨M0, hM0⟩ : ∃ M0, startM n = M0 := ⟨_, rfl⟩
  rw [hM0] at hA hI hS
  clear hM0
  go_upto_region 6 with (fail)
  go_loopw [23] (fun g wr => ∃ j : Nat, j ≤ m ∧ g = .int .i64 j ∧ Below w.heap.size w wr ∧ ∃ M, Inv n M ∧ Short (1 + j) M ∧ MeshAt (fun _ => False) w1 wr mb n M) (fun g _ => m - (intOf g).toNat)
  case atStart => exact ⟨0, Nat.zero_le _, rfl, BB, M0, hI, hS, hA⟩
  case round =>
    clear BB hA hI hS
    obtain ⟨j, hj, rfl, BB, M, hI, hS, hA⟩ := hrel
    by_cases hlt : j < m
    ·
      have hj1 : (j : Int) < (m : Int) := by omega
      have hj0 : (0 : Int) ≤ (j : Int) := by omega
      have hwj : IntKind.i64.wrap ((j : Int) + 1) = (j : Int) + 1 := IntWalk.i64_in _ (by omega)
      obtain ⟨b, off, rfl, x0, x1, x2, x3, x4⟩ := hl.at BB (i := j) (by rw [← hm.out]; exact hlt)
      have hxm : l.getD j default ∈ l := by
        rw [List.getD_eq_getElem?_getD, List.getElem?_eq_getElem (by rw [← hm.out]; exact hlt)]; exact List.getElem_mem _
      obtain ⟨x, hx⟩ : ∃ x, l.getD j default = x := ⟨_, rfl⟩
      rw [hx] at x0 x1 x2 x3 x4 hxm
      have hxo := hok.out x hxm
      have HXO := Lib.hid hxo
      clear hx hxm hxo
      go_upto_region 8 with (fail)
      obtain ⟨gr, cr, gt, ct, gh, ch, ts, hs, hM⟩ := hA
      clear x0 x1 x2 x3 x4
      have bs2 : w.heap.size ≤ wr.heap.size := BB.size
      have Tx := CAt.new (wr) [.int .u8 x.d, .int .u8 x.nd, .int .u8 x.fr, .int .u8 x.lt, .int .u16 x.co] 50
      replace hM := hM.keep (Below.alloc (Below.refl _ (wr)) (Nat.le_refl _) (.cells #[.int .u8 x.d, .int .u8 x.nd, .int .u8 x.fr, .int .u8 x.lt, .int .u16 x.co] 50))
      replace BB := ball BB (.cells #[.int .u8 x.d, .int .u8 x.nd, .int .u8 x.fr, .int .u8 x.lt, .int .u16 x.co] 50)
      obtain ⟨V2, hV2⟩ : ∃ V2, wr.alloc (.cells #[.int .u8 x.d, .int .u8 x.nd, .int .u8 x.fr, .int .u8 x.lt, .int .u16 x.co] 50) = V2 := ⟨_, rfl⟩
      rw [hV2] at BB Tx hM ⊢
      clear hV2
      obtain ⟨k2, hk2⟩ : ∃ k2, wr.heap.size = k2 := ⟨_, rfl⟩
      rw [hk2] at Tx bs2 ⊢
      clear hk2
      have x0 := Tx 0 _ rfl
      have x1 := Tx 1 _ rfl
      have x2 := Tx 2 _ rfl
      have x3 := Tx 3 _ rfl
      have x4 := Tx 4 _ rfl
      go_wp2_with fail
      clear x0 x1 x2 x3 x4
      refine (apply_any (fun _ => False) w1 _ mb n M ⟨gr, cr, gt, ct, gh, ch, ts, hs, hM⟩ hn2 (by omega) x HXO.out (1 + j) (by omega) hS hI.ne (own0 hI (by omega))).mono ?_
      rintro e w5 ⟨rfl, hA, b5⟩
      replace BB := BB.trans (b5.mono hbs)
      clear b5 Tx hM
      replace hI := doM_inv hI (by omega) HXO.out
      replace hS : Short (1 + (j + 1)) (doM n M x) := hS.move _ _ _ _ _
      clear HXO
      obtain ⟨M', hM'⟩ : ∃ M', doM n M x = M' := ⟨_, rfl⟩
      rw [hM'] at hI hS hA
      clear hM' ts hs gr cr gt ct gh ch
      obtain ⟨gr, cr, gt, ct, gh, ch, ts, hs, hM⟩ := hA
      go_wp2_with fail
      refine (loop_false (fun _ => False) w1 _ mb n M' gr cr _ _ ts hs hM (by omega) (cntM M' n) (Lib.hid (cnt_lt M' n)) (Lib.hid hI.down)).mono ?_
      rintro e w6 ⟨rfl, b6⟩
      replace hM := hM.keep b6
      replace BB := bstep BB b6
      clear b6
      have m0 := hM.c 0 _ rfl
      go_upto_region 12 with (fail)
      clear m0
      go_loopw [37] (fun g wr => ∃ q : Nat, q ≤ n ∧ g = .int .i64 q ∧ Below w.heap.size w wr ∧ MeshIs (fun _ => False) w1 wr mb n n n M' (.slice (some ⟨gr, 0, none⟩) n cr) (.slice (some ⟨gt, 0, none⟩) n ct) (.slice (some ⟨gh, 0, none⟩) n ch) ts hs) (fun g _ => n - (intOf g).toNat)
      case atStart => exact ⟨0, Nat.zero_le _, rfl, BB, hM⟩
      case round =>
        clear BB hM
        obtain ⟨q, hq, rfl, BB, hM⟩ := hrel
        by_cases hqn : q < n
        ·
          have hq1 : (q : Int) < (n : Int) := by omega
          have hq0 : (0 : Int) ≤ (q : Int) := by omega
          have hwr : IntKind.i64.wrap ((q : Int) + 1) = (q : Int) + 1 := IntWalk.i64_in _ (by omega)
          obtain ⟨r0, r1, r2, r3, r4⟩ := hM.route hqn
          obtain ⟨r, hr⟩ : ∃ r, M'.R q = r := ⟨_, rfl⟩
          have hpar := hI.p q hqn
          rw [hr] at r0 r1 r2 r3 r4 hpar
          go_upto_region 14 with (fail)
          clear r0 r1 r2 r3 r4
          have bs3 : w.heap.size ≤ wr.heap.size := BB.size
          have Tr := CAt.new (wr) [.int .i64 r.o.s, .int .i64 r.o.r, .int .i64 r.l.s, .int .i64 r.l.r, .int .i64 r.p] 25
          replace hM := hM.keep (Below.alloc (Below.refl _ (wr)) (Nat.le_refl _) (.cells #[.int .i64 r.o.s, .int .i64 r.o.r, .int .i64 r.l.s, .int .i64 r.l.r, .int .i64 r.p] 25))
          replace BB := ball BB (.cells #[.int .i64 r.o.s, .int .i64 r.o.r, .int .i64 r.l.s, .int .i64 r.l.r, .int .i64 r.p] 25)
          obtain ⟨V3, hV3⟩ : ∃ V3, wr.alloc (.cells #[.int .i64 r.o.s, .int .i64 r.o.r, .int .i64 r.l.s, .int .i64 r.l.r, .int .i64 r.p] 25) = V3 := ⟨_, rfl⟩
          rw [hV3] at BB Tr hM ⊢
          clear hV3
          obtain ⟨k3, hk3⟩ : ∃ k3, wr.heap.size = k3 := ⟨_, rfl⟩
          rw [hk3] at Tr bs3 ⊢
          clear hk3
          rcases hpar with hp | ⟨k, hk, hp, hb⟩
          ·
            have hp1 : decide ((n : Int) ≤ r.p) = false := by simp; omega
            have hp2 : decide ((0 : Int) ≤ r.p) = false := by simp; omega
            have m0 := hM.c 0 _ rfl
            have km0 := cell_regrown m0
            have r0 := Tr 0 _ rfl
            have kr0 := cell_regrown r0
            have r1 := Tr 1 _ rfl
            have kr1 := cell_regrown r1
            have r2 := Tr 2 _ rfl
            have kr2 := cell_regrown r2
            have r3 := Tr 3 _ rfl
            have kr3 := cell_regrown r3
            have r4 := Tr 4 _ rfl
            have kr4 := cell_regrown r4
            refine wp_region_quiet_below (by kernel_rfl) (by kernel_rfl) ?_
            repeat (go_big_quiet_step (fail))
            refine wpQuiet_nil ?_
            intro _ hw'
            obtain ⟨⟨dq, osq⟩, hw''⟩ := hw'
            subst hw''
            clear r0 kr0 r1 kr1 r2 kr2 r3 kr3 r4 kr4
            have bq := below_regrown V3 dq osq
            obtain ⟨V4, hV4⟩ : ∃ V4, grow (redrawn V3 dq) osq = V4 := ⟨_, rfl⟩
            rw [hV4] at bq ⊢
            clear hV4 dq osq
            replace Tr := Tr.keep bq
            replace hM := hM.keep bq
            replace BB := bstep BB bq
            clear bq
            clear m0 km0
            go_wp2_with fail
            go_roundw
            case rel => exact ⟨q + 1, by omega, by go_num, BB, hM⟩
            case measure => simp [intOf]; omega
          ·
            have hp1 : decide ((n : Int) ≤ r.p) = false := by simp; omega
            have hp2 : decide ((0 : Int) ≤ r.p) = true := by simp; omega
            have hp3 : r.p < (n : Int) := by omega
            have hp4 : (0 : Int) ≤ r.p := by omega
            have hkb := congrArg Int.toNat hp
            obtain ⟨_, _, y2, y3, _⟩ := hM.route hk
            obtain ⟨g, hg⟩ : ∃ g, M'.R k = g := ⟨_, rfl⟩
            rw [hg] at y2 y3 hb
            have HPB := Lib.hid hb
            have hkt : r.p.toNat = k := by omega
            have m0 := hM.c 0 _ rfl
            have km0 := cell_regrown m0; have ky2 := cell_regrown y2; have ky3 := cell_regrown y3
            clear hb hg hkb hp
            have CH : ∀ w', Below V3.heap.size V3 w' → Calls Try.prog 14 #[g.l.v, r.l.v] w' fun e w'' => e = .returned (.bool true) ∧ Below w'.heap.size w' w'' := fun w' h => better_at g.l r.l true w' HPB.out
            have r0 := Tr 0 _ rfl
            have kr0 := cell_regrown r0
            have r1 := Tr 1 _ rfl
            have kr1 := cell_regrown r1
            have r2 := Tr 2 _ rfl
            have kr2 := cell_regrown r2
            have r3 := Tr 3 _ rfl
            have kr3 := cell_regrown r3
            have r4 := Tr 4 _ rfl
            have kr4 := cell_regrown r4
            refine wp_region_quiet_below (by kernel_rfl) (by kernel_rfl) ?_
            repeat (go_big_quiet_step (first
              | (go_at_call 14; with_reducible exact rg_of CH)))
            refine wpQuiet_nil ?_
            intro _ hw'
            obtain ⟨⟨dq, osq⟩, hw''⟩ := hw'
            subst hw''
            clear r0 kr0 r1 kr1 r2 kr2 r3 kr3 r4 kr4
            have bq := below_regrown V3 dq osq
            obtain ⟨V4, hV4⟩ : ∃ V4, grow (redrawn V3 dq) osq = V4 := ⟨_, rfl⟩
            rw [hV4] at bq ⊢
            clear hV4 dq osq
            replace Tr := Tr.keep bq
            replace hM := hM.keep bq
            replace BB := bstep BB bq
            clear bq
            clear m0 km0 y2 y3 ky2 ky3 CH
            go_wp2_with fail
            go_roundw
            case rel => exact ⟨q + 1, by omega, by go_num, BB, hM⟩
            case measure => simp [intOf]; omega
        ·
          have hqq : n = q := by omega
          subst hqq
          have hq1 : ¬ (n : Int) < (n : Int) := by omega
          go_wp2_with fail
          go_roundw
          case rel => exact ⟨j + 1, by omega, by go_num, BB, M', hI, hS, gr, cr, gt, ct, gh, ch, ts, hs, hM⟩
          case measure => simp [intOf]; omega
    ·
      have hjm : m = j := by omega
      have hj1 : ¬ (j : Int) < (m : Int) := by omega
      go_wp2_with fail
      go_ret
      exact ⟨rfl, BB⟩
theorem lawLoops (nd : Int) (h0 : 0 ≤ nd) (h1 : nd ≤ 255) (a : Option Addr) (cap : Nat) (l : List Mv) (w : World) (hl : MvAt w a l) (hok : ∀ x ∈ l, x.ok) : Calls Try.prog 8 #[.int .u8 nd, .slice a l.length cap] w (Yes true w) := by
  by_cases h200 : (200 : Int) < (l.length : Int)
  · exact loops_0 nd h0 h1 _ a cap l w (Lib.hid rfl) hl h200
  · exact loops_1 nd h0 h1 _ a cap l w (Lib.hid rfl) hl (Lib.hid hok) h200
end Go.Proofs.Ytbonchnhngaicaa
