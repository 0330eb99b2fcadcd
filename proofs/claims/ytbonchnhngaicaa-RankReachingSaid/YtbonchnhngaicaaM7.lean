/- Proved: that apply, a function of the statements, performs a move on the mesh. Conditions: those that the theorem names. -/
import Derived.Test.YtbonchnhngaicaaM5
import Derived.Test.YtbonchnhngaicaaLate
namespace Go.Proofs.Ytbonchnhngaicaa
open Go.RowKit Go.Sort Go.BigFrame
set_option linter.unusedVariables false
set_option linter.unusedSimpArgs false
attribute [local go_sem] cell_alloc_old
attribute [local go_sem ↓] Go.wp_at_zero Go.wp_at_succ

set_option maxRecDepth 100000 in
set_option maxHeartbeats 1000000 in
theorem apply_1a (K : Nat → Prop) (w0 w : World) (mb n : Nat) (M : Msh) (gr cr gt ct gh ch : Nat) (ts hs : Nat → Value) (hM : MeshIs K w0 w mb n n n M (.slice (some ⟨gr, 0, none⟩) n cr) (.slice (some ⟨gt, 0, none⟩) n ct) (.slice (some ⟨gh, 0, none⟩) n ch) ts hs)
    (hn : 2 ≤ n) (hn2 : n ≤ 100) (d nd fr lt co : Int) (hd0 : 0 ≤ d) (hd1 : d ≤ 255) (hnd0 : 0 ≤ nd) (hnd1 : nd ≤ 255) (hfr0 : 0 ≤ fr) (hfr1 : fr ≤ 255) (hlt0 : 0 ≤ lt) (hlt1 : lt ≤ 255) (hco0 : 0 ≤ co) (hco1 : co ≤ 65535)
    (i k : Nat) (hi : nd.tmod n = i) (hk : fr.tmod n = k) (hin : i < n) (hkn : k < n) (hlt' : Hid (∀ j, (M.T j).length ≤ 1000000)) (hlh : Hid (∀ j, (M.H j).length ≤ 1000000)) (hdd : (d % 4 == 0) = false) (hdd1 : (d % 4 == 1) = true) (hik : ((i : Int) == (k : Int)) = true) :
    Calls Try.prog 27 #[.pointer (some ⟨mb, 0, none⟩), .agg #[.int .u8 d, .int .u8 nd, .int .u8 fr, .int .u8 lt, .int .u16 co]] w (Heard K w0 w mb n n n M (.slice (some ⟨gr, 0, none⟩) n cr) (.slice (some ⟨gt, 0, none⟩) n ct) (.slice (some ⟨gh, 0, none⟩) n ch)) := by
  have HMB := hM.f.2
  have hi1 : (i : Int) < (n : Int) := by omega
  have hi0 : (0 : Int) ≤ (i : Int) := by omega
  have hk1 : (k : Int) < (n : Int) := by omega
  have hk0 : (0 : Int) ≤ (k : Int) := by omega
  have hz0 : (0 : Int) < (n : Int) := by omega
  have hn0 : ¬ (n : Int) = 0 := by omega
  have hn0' : ¬ n = 0 := by omega
  go_enter Try.func27, Try.ntmps27
  go_upto_region 1 with (fail)
  have Tx := CAt.new (w) [.int .u8 d, .int .u8 nd, .int .u8 fr, .int .u8 lt, .int .u16 co] 50
  replace hM := hM.keep (Below.alloc (Below.refl _ (w)) (Nat.le_refl _) (.cells #[.int .u8 d, .int .u8 nd, .int .u8 fr, .int .u8 lt, .int .u16 co] 50))
  have BB : Below w.heap.size w ((w).alloc (.cells #[.int .u8 d, .int .u8 nd, .int .u8 fr, .int .u8 lt, .int .u16 co] 50)) := ball (Below.refl _ _) _
  obtain ⟨V1, hV1⟩ : ∃ V1, w.alloc (.cells #[.int .u8 d, .int .u8 nd, .int .u8 fr, .int .u8 lt, .int .u16 co] 50) = V1 := ⟨_, rfl⟩
  rw [hV1] at BB Tx hM ⊢
  clear hV1
  have x0 := Tx 0 _ rfl
  have x1 := Tx 1 _ rfl
  have x2 := Tx 2 _ rfl
  have x3 := Tx 3 _ rfl
  have x4 := Tx 4 _ rfl
  have m0 := hM.c 0 _ rfl
  have m1 := hM.c 1 _ rfl
  have m2 := hM.c 2 _ rfl
  have km0 := cell_regrown m0; have km1 := cell_regrown m1; have km2 := cell_regrown m2
  go_upto_region 2 with (fail)
  clear x0 x1 x2 x3 x4 m0 m1 m2 km0 km1 km2
  have x0 := Tx 0 _ rfl
  have kx0 := cell_regrown x0
  have x1 := Tx 1 _ rfl
  have kx1 := cell_regrown x1
  have x2 := Tx 2 _ rfl
  have kx2 := cell_regrown x2
  have x3 := Tx 3 _ rfl
  have kx3 := cell_regrown x3
  have x4 := Tx 4 _ rfl
  have kx4 := cell_regrown x4
  refine wp_region_quiet_below (by kernel_rfl) (by kernel_rfl) ?_
  repeat (go_big_quiet_step (fail))
  refine wpQuiet_nil ?_
  intro _ hw'
  obtain ⟨⟨dq, osq⟩, hw''⟩ := hw'
  subst hw''
  clear x0 kx0 x1 kx1 x2 kx2 x3 kx3 x4 kx4
  have bq := below_regrown V1 dq osq
  obtain ⟨V2, hV2⟩ : ∃ V2, grow (redrawn V1 dq) osq = V2 := ⟨_, rfl⟩
  rw [hV2] at bq ⊢
  clear hV2 dq osq
  replace Tx := Tx.keep bq
  replace hM := hM.keep bq
  replace BB := bstep BB bq
  clear bq
  have x0 := Tx 0 _ rfl
  have x1 := Tx 1 _ rfl
  have x2 := Tx 2 _ rfl
  have x3 := Tx 3 _ rfl
  have x4 := Tx 4 _ rfl
  have m0 := hM.c 0 _ rfl
  have m1 := hM.c 1 _ rfl
  have m2 := hM.c 2 _ rfl
  have km0 := cell_regrown m0; have km1 := cell_regrown m1; have km2 := cell_regrown m2
  go_wp2_with fail
  go_end0
  exact ⟨rfl, ⟨_, _, hM⟩, BB.mono (Nat.le_of_lt HMB)⟩
end Go.Proofs.Ytbonchnhngaicaa
