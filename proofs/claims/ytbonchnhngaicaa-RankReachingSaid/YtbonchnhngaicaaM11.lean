/- Proved: small facts on a mesh in memory that grows by a node. Conditions: those that each theorem names. -/
import Derived.Test.YtbonchnhngaicaaM5
import Derived.Below
namespace Go.Proofs.Ytbonchnhngaicaa
open Go.RowKit Go.Sort Go.BigFrame
set_option linter.unusedVariables false
set_option linter.unusedSimpArgs false

theorem Rows'.fresh {W Z : World} {base : Nat} {f : Ix → Rw} (h : Rows' W base f) (hb : Below W.heap.size W Z) (k : Ix) {e : TypeId} {sz : Nat} {v : Value} {n : Nat} {xs : List Value} {q : Nat} (hq : W.heap.size ≤ q)
    (hv : v.ownBlock = some q) (ho : Z.ownsRow base e sz v n xs) : Rows' Z base (fput f k ⟨e, sz, v, n, xs⟩) := by
  refine ⟨fun j => ?_, fun j j' b hjj hj hj' => ?_⟩
  · unfold fput
    by_cases hjk : j = k
    · rw [if_pos hjk]; exact ho
    · rw [if_neg hjk]; exact ownsRow_below' (h.1 j) hb
  · unfold fput at hj hj'
    by_cases hjk : j = k
    · have hjk' : j' ≠ k := fun e => hjj (hjk.trans e.symm)
      rw [if_pos hjk] at hj; rw [if_neg hjk'] at hj'
      simp only at hj
      have := ((h.1 j').lt b hj').2
      rw [hv] at hj; simp at hj; omega
    · rw [if_neg hjk] at hj
      by_cases hjk' : j' = k
      · rw [if_pos hjk'] at hj'
        simp only at hj'
        have := ((h.1 j).lt b hj).2
        rw [hv] at hj'; simp at hj'; omega
      · rw [if_neg hjk'] at hj'; exact h.2 j j' b hjj hj hj'
theorem Rows'.below {w : World} {mb : Nat} {f : Ix → Rw} (h : Rows' w (mb + 1) f) (j : Nat) (u : Value) : Rows' (w.setCell ⟨mb, j, none⟩ u) (mb + 1) f :=
  ⟨fun k => ownsRow_setCell_below (h.1 k) (by simp) u, h.2⟩
theorem map_upd {f : Nat → Value} {n i : Nat} (hi : n ≤ i) (v : Value) : (List.range n).map (upd f i v) = (List.range n).map f := by
  apply List.map_congr_left
  intro j hj
  have := List.mem_range.1 hj
  exact upd_ne _ _ (by omega)
theorem map_succ (f : Nat → Value) (n : Nat) : (List.range (n + 1)).map f = (List.range n).map f ++ [f n] := by simp [List.range_succ]
section
variable {K : Nat → Prop} {w0 w w1 : World} {mb nr nt nh : Nat} {M : Msh} {rv tv hv : Value} {ts hs : Nat → Value}
/-- A row of what a further node has told. -/
theorem MeshIs.fresh (h : MeshIs K w0 w mb nr nt nh M rv tv hv ts hs) {Z : World} (hb : Below w.heap.size w Z) {q : Nat} (hq : w.heap.size ≤ q) {v : Value} (hv' : v.ownBlock = some q) (d : Ds)
    (ho : Z.ownsRow (mb + 1) 23 2 v 1 d.cs) : MeshIs K w0 Z mb nr nt nh { M with T := upd M.T nt [d] } rv tv hv (upd ts nt v) hs := by
  refine ⟨h.c.keep hb, h.f.keep hb, (h.rows.fresh hb (.ti nt) hq hv' ho).congr fun k => ?_, fun k b hkb => ?_, h.mbK, h.lt, Nat.le_trans h.sz hb.size, fun b hk => (hb.block b (Nat.lt_of_lt_of_le (h.lt b hk) h.sz)).trans (h.kept b hk)⟩
  · cases k with
    | t => simp [fput, fam, map_upd (Nat.le_refl nt)]
    | ti j =>
      by_cases hj : j = nt
      · subst hj; simp [fput, fam, upd, flatD]
      · simp [fput, fam, upd, hj]
    | _ => simp [fput, fam]
  · cases k with
    | ti j =>
      by_cases hj : j = nt
      · subst hj
        simp only [fam, upd_same] at hkb
        intro hK
        rw [hv'] at hkb; simp at hkb
        have := h.lt b hK; have := h.sz; omega
      · simp only [fam, upd_ne _ _ hj] at hkb; exact h.far (.ti j) b hkb
    | r => exact h.far .r b hkb
    | t => exact h.far .t b hkb
    | h => exact h.far .h b hkb
    | hi j => exact h.far (.hi j) b hkb
theorem MeshIs.slot (h : MeshIs K w0 w mb nr nt nh M rv tv hv ts hs) (k : Ix) {v : Value} (j : Nat) (hj : j < 3) (hg : w.grownBy w1 (fam nr nt nh rv tv hv ts hs M k).v.ownBlock) :
    CAt (w1.setCell ⟨mb, j, none⟩ v) mb ([rv, tv, hv].set j v) ∧ Fz (w1.setCell ⟨mb, j, none⟩ v) mb ∧ w0.heap.size ≤ (w1.setCell ⟨mb, j, none⟩ v).heap.size ∧
      (∀ b, K b → (w1.setCell ⟨mb, j, none⟩ v).heap[b]? = w0.heap[b]?) ∧ Below mb w (w1.setCell ⟨mb, j, none⟩ v) := by
  obtain ⟨k1, k2, k3, k4, k5⟩ := h.grown k hg
  refine ⟨k1.set j v hj, k2.set _ _, Nat.le_trans k3 (by simp), fun b hK => ?_, k5.setCell (p := ⟨mb, j, none⟩) (Nat.le_refl _) v⟩
  rw [Below.heap_setCell _ _ _ _ (fun e => h.mbK (by have e' : b = mb := e; rw [← e']; exact hK))]; exact k4 b hK
theorem far_of (h : MeshIs K w0 w mb nr nt nh M rv tv hv ts hs) {v : Value} {o : Value} (k : Ix) (hk : (fam nr nt nh rv tv hv ts hs M k).v = o) (hvb : v.ownBlock = o.ownBlock ∨ v.ownBlock = some w.heap.size) : ∀ b, v.ownBlock = some b → ¬ K b := fun b hb hK => by
  rcases hvb with hv | hv
  · exact h.far k b (by rw [hk, ← hv]; exact hb) hK
  · rw [hv] at hb; simp at hb
    have := h.lt b hK; have := h.sz; omega
theorem MeshIs.routeApp (h : MeshIs K w0 w mb nr nt nh M rv tv hv ts hs) {v : Value} (ho : w1.ownsRow (mb + 1) 25 5 v (nr + 1) (rtsC M.R nr ++ (M.R nr).cs)) (hg : w.grownBy w1 rv.ownBlock)
    (hvb : v.ownBlock = rv.ownBlock ∨ v.ownBlock = some w.heap.size) : MeshIs K w0 (w1.setCell ⟨mb, 0, none⟩ v) mb (nr + 1) nt nh M v tv hv ts hs ∧ Below mb w (w1.setCell ⟨mb, 0, none⟩ v) := by
  have h1 := (h.rows.app .r ho hg hvb).below 0 v
  obtain ⟨k1, k2, k3, k4, k5⟩ := h.slot .r (v := v) 0 (by omega) hg
  refine ⟨⟨k1, k2, h1.congr fun k => ?_, fun k b hb => ?_, h.mbK, h.lt, k3, k4⟩, k5⟩
  · cases k with
    | r => simp [fput, fam, rtsC, blk_succ]
    | _ => simp [fput, fam]
  · cases k with
    | r => exact far_of h .r rfl hvb b hb
    | t => exact h.far .t b hb
    | h => exact h.far .h b hb
    | ti j => exact h.far (.ti j) b hb
    | hi j => exact h.far (.hi j) b hb
theorem MeshIs.tableApp (h : MeshIs K w0 w mb nr nt nh M rv tv hv ts hs) {v : Value} (ho : w1.ownsRow (mb + 1) 72 1 v (nt + 1) ((List.range nt).map ts ++ [ts nt])) (hg : w.grownBy w1 tv.ownBlock)
    (hvb : v.ownBlock = tv.ownBlock ∨ v.ownBlock = some w.heap.size) : MeshIs K w0 (w1.setCell ⟨mb, 1, none⟩ v) mb nr (nt + 1) nh M rv v hv ts hs ∧ Below mb w (w1.setCell ⟨mb, 1, none⟩ v) := by
  have h1 := (h.rows.app .t ho hg hvb).below 1 v
  obtain ⟨k1, k2, k3, k4, k5⟩ := h.slot .t (v := v) 1 (by omega) hg
  refine ⟨⟨k1, k2, h1.congr fun k => ?_, fun k b hb => ?_, h.mbK, h.lt, k3, k4⟩, k5⟩
  · cases k with
    | t => simp [fput, fam, map_succ]
    | _ => simp [fput, fam]
  · cases k with
    | t => exact far_of h .t rfl hvb b hb
    | r => exact h.far .r b hb
    | h => exact h.far .h b hb
    | ti j => exact h.far (.ti j) b hb
    | hi j => exact h.far (.hi j) b hb
theorem MeshIs.heardNew (h : MeshIs K w0 w mb nr nt nh M rv tv hv ts hs) {v : Value} (ho : w1.ownsRow (mb + 1) 26 1 v (nh + 1) ((List.range nh).map hs ++ [hs nh])) (hg : w.grownBy w1 hv.ownBlock)
    (hvb : v.ownBlock = hv.ownBlock ∨ v.ownBlock = some w.heap.size) : MeshIs K w0 (w1.setCell ⟨mb, 2, none⟩ v) mb nr nt (nh + 1) M rv tv v ts hs ∧ Below mb w (w1.setCell ⟨mb, 2, none⟩ v) := by
  have h1 := (h.rows.app .h ho hg hvb).below 2 v
  obtain ⟨k1, k2, k3, k4, k5⟩ := h.slot .h (v := v) 2 (by omega) hg
  refine ⟨⟨k1, k2, h1.congr fun k => ?_, fun k b hb => ?_, h.mbK, h.lt, k3, k4⟩, k5⟩
  · cases k with
    | h => simp [fput, fam, map_succ]
    | _ => simp [fput, fam]
  · cases k with
    | h => exact far_of h .h rfl hvb b hb
    | r => exact h.far .r b hb
    | t => exact h.far .t b hb
    | ti j => exact h.far (.ti j) b hb
    | hi j => exact h.far (.hi j) b hb
/-- An empty mesh. -/
theorem MeshIs.empty (w0 w : World) (R : Nat → Rt) (hs : w0.heap.size ≤ w.heap.size) : MeshIs (fun _ => False) w0 (w.alloc (.cells #[.slice none 0 0, .slice none 0 0, .slice none 0 0] 55)) w.heap.size 0 0 0 ⟨R, fun _ => [], fun _ => []⟩ (.slice none 0 0) (.slice none 0 0) (.slice none 0 0) (fun _ => .slice none 0 0) (fun _ => .slice none 0 0) := by
  refine ⟨CAt.new w [.slice none 0 0, .slice none 0 0, .slice none 0 0] 55, Fz.new _ _ _, ⟨fun k => ?_, fun k k' b _ hb => ?_⟩, fun _ _ _ h => h, fun h => h, fun _ h => h.elim, Nat.le_trans hs (by simp), fun _ h => h.elim⟩
  · cases k <;> exact World.ownsRow_nil _ _ _ _
  · cases k <;> simp [fam, Value.ownBlock] at hb
end
end Go.Proofs.Ytbonchnhngaicaa
