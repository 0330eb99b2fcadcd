/- Proved: the beacon that the statements make of a table. Conditions: those that each theorem names. -/
import Derived.Test.YtleenbfldkmcaaaK9
namespace Go.Proofs.Ytleenbfldkmcaaa
open Go.RowKit Go.Sort Go.BigFrame
set_option linter.unusedVariables false
set_option linter.unusedSimpArgs false
attribute [local go_sem] cell_alloc_old
attribute [local go_sem ↓] exec_store61

/-- What is heard of a node with a table. -/
abbrev bcn (h f : Int) (t : Tv) : Nv := ⟨⟨f, h, t.T.U, t.T.G⟩, 0, 0, 0, 0, 0, 0, 0, 0, 0, 0, t.ua, t.nu, t.uc, t.ga, t.ng, t.gc, ⟨t.aa, t.na, t.ac⟩, ⟨none, 0, 0⟩, ⟨none, 0, 0⟩, ⟨none, 0, 0⟩, ⟨none, 0, 0⟩, ⟨none, 0, 0⟩, ⟨none, 0, 0⟩, false, false, 0, 0, 0, 0, 0, 0, 0, 0⟩
theorem bcn_ok {h f : Int} {t : Tv} {w : World} (ht : t.ok w) : (bcn h f t).ok w := ⟨ht.u, ht.g, ht.un, ht.gn, ht.uc, ht.gc, ht.um, ht.gm⟩
set_option maxRecDepth 100000 in
set_option maxHeartbeats 4000000 in
theorem beacon_at (h f : Int) (t : Tv) (w : World) : Calls Try.prog 24 #[.int .i64 h, .int .i64 f, t.v] w fun e w' => e = .returned (bcn h f t).v ∧ Below w.heap.size w w' := by
  go_enter Try.func24, Try.ntmps24
  go_upto_region 1 with (fail)
  obtain ⟨W1, hW1⟩ : ∃ W1, w.alloc (.cells #[.slice t.ua t.nu t.uc, .slice t.ga t.ng t.gc, .slice t.aa t.na t.ac] 26) = W1 := ⟨_, rfl⟩
  have BB : Below w.heap.size w W1 := by rw [← hW1]; exact ball (Below.refl _ _) _
  have T0 := CAt.new w [.slice t.ua t.nu t.uc, .slice t.ga t.ng t.gc, .slice t.aa t.na t.ac] 26
  have hz : W1.heap.size = w.heap.size + 1 := by rw [← hW1]; simp
  rw [hW1] at T0 ⊢
  have hc0 := T0 0 _ rfl
  have hc1 := T0 1 _ rfl
  have hc2 := T0 2 _ rfl
  obtain ⟨V, hst, Tx, BV, -⟩ := run_new61 W1 (bcn h f t)
  rw [hz] at hst
  unfold Z61 at hst
  have BB2 := BB.trans (BV.mono BB.size)
  rw [hz] at Tx
  clear T0 hW1 BB BV hz
  go_wp2_with fail
  have hld := run_load61 (o := 0) (bcn h f t) (fun j v hj => by rw [Nat.zero_add]; exact Tx j v hj)
  clear hst Tx hc0 hc1 hc2
  refine bodyPost_ret (v := (bcn h f t).v) ?_ rfl ⟨rfl, BB2⟩
  unfold results
  unfold load61 at hld
  simpa [Try.f24, go_sem] using hld
end Go.Proofs.Ytleenbfldkmcaaa
