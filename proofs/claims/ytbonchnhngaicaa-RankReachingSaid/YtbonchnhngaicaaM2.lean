/- Proved: small facts on the mesh of the statements in memory: what each of its writes leaves. Conditions: those that each theorem names. -/
import Derived.Test.YtbonchnhngaicaaM1
namespace Go.Proofs.Ytbonchnhngaicaa
open Go.RowKit Go.Sort Go.BigFrame
set_option linter.unusedVariables false
set_option linter.unusedSimpArgs false

structure Msh where
  R : Nat → Rt
  T : Nat → List Ds
  H : Nat → List Ofr
def fam (nr nt nh : Nat) (rv tv hv : Value) (ts hs : Nat → Value) (M : Msh) : Ix → Rw
  | .r => ⟨25, 5, rv, nr, rtsC M.R nr⟩
  | .t => ⟨72, 1, tv, nt, (List.range nt).map ts⟩
  | .h => ⟨26, 1, hv, nh, (List.range nh).map hs⟩
  | .ti i => ⟨23, 2, ts i, (M.T i).length, flatD (M.T i)⟩
  | .hi i => ⟨40, 4, hs i, (M.H i).length, flat (M.H i)⟩
theorem map_put {f : Nat → Value} {n i : Nat} (hi : i < n) (v : Value) : ((List.range n).map f).set i v = (List.range n).map (upd f i v) := by
  apply List.ext_getElem?
  intro j
  rw [List.getElem?_set]
  by_cases h : i = j
  · subst h; simp [hi, upd]
  · rw [if_neg h]
    simp only [List.getElem?_map]
    by_cases hj : j < n
    · have h' : ¬ j = i := fun e => h e.symm
      simp [hj, upd, h']
    · simp [hj]
theorem form' {w : World} {base : Nat} {e : TypeId} {size : Nat} {v : Value} {n : Nat} {xs : List Value} (h : w.ownsRow base e size v n xs) (hn : 0 < n) : ∃ g cap, v = .slice (some ⟨g, 0, none⟩) n cap := by
  rcases h.2 with ⟨_, h0⟩ | ⟨g, cap, cur, hv, _⟩
  · omega
  · exact ⟨g, cap, hv⟩
theorem map_get {f : Nat → Value} {n i : Nat} (hi : i < n) : ((List.range n).map f)[i]? = some (f i) := by simp [hi]

/-- The mesh in memory: its block, its rows; K: blocks that are not the mesh's, kept as they were in w0. -/
structure MeshIs (K : Nat → Prop) (w0 w : World) (mb nr nt nh : Nat) (M : Msh) (rv tv hv : Value) (ts hs : Nat → Value) : Prop where
  c : CAt w mb [rv, tv, hv]
  f : Fz w mb
  rows : Rows' w (mb + 1) (fam nr nt nh rv tv hv ts hs M)
  far : ∀ k b, (fam nr nt nh rv tv hv ts hs M k).v.ownBlock = some b → ¬ K b
  mbK : ¬ K mb
  lt : ∀ b, K b → b < w0.heap.size
  sz : w0.heap.size ≤ w.heap.size
  kept : ∀ b, K b → w.heap[b]? = w0.heap[b]?
section
variable {K : Nat → Prop} {w0 w w' : World} {mb nr nt nh : Nat} {M : Msh} {rv tv hv : Value} {ts hs : Nat → Value}
theorem MeshIs.keep (h : MeshIs K w0 w mb nr nt nh M rv tv hv ts hs) (hb : Below w.heap.size w w') : MeshIs K w0 w' mb nr nt nh M rv tv hv ts hs :=
  ⟨h.c.keep hb, h.f.keep hb, h.rows.keep hb, h.far, h.mbK, h.lt, Nat.le_trans h.sz hb.size, fun b hk => (hb.block b (Nat.lt_of_lt_of_le (h.lt b hk) h.sz)).trans (h.kept b hk)⟩
/-- What the change of one row leaves of the rest. -/
theorem MeshIs.grown (h : MeshIs K w0 w mb nr nt nh M rv tv hv ts hs) (k : Ix) (hg : w.grownBy w' (fam nr nt nh rv tv hv ts hs M k).v.ownBlock) :
    CAt w' mb [rv, tv, hv] ∧ Fz w' mb ∧ w0.heap.size ≤ w'.heap.size ∧ (∀ b, K b → w'.heap[b]? = w0.heap[b]?) ∧ Below mb w w' := by
  have ne : some mb ≠ (fam nr nt nh rv tv hv ts hs M k).v.ownBlock := fun e => by have := ((h.rows.1 k).lt mb e.symm).1; omega
  refine ⟨h.c.grown hg ne, h.f.grown hg ne, Nat.le_trans h.sz hg.size, fun b hk => ?_, ?_⟩
  · exact (hg.block b (Nat.lt_of_lt_of_le (h.lt b hk) h.sz) (fun e => h.far k b e.symm hk)).trans (h.kept b hk)
  · exact (Below.refl _ _).grown hg (Nat.le_of_lt h.f.2) (fun j hj => by have := ((h.rows.1 k).lt j hj).1; omega)
theorem MeshIs.rform (h : MeshIs K w0 w mb nr nt nh M rv tv hv ts hs) (hn : 0 < nr) : ∃ g cap, rv = .slice (some ⟨g, 0, none⟩) nr cap := form' (h.rows.1 .r) hn
theorem MeshIs.tform (h : MeshIs K w0 w mb nr nt nh M rv tv hv ts hs) (hn : 0 < nt) : ∃ g cap, tv = .slice (some ⟨g, 0, none⟩) nt cap := form' (h.rows.1 .t) hn
theorem MeshIs.hform (h : MeshIs K w0 w mb nr nt nh M rv tv hv ts hs) (hn : 0 < nh) : ∃ g cap, hv = .slice (some ⟨g, 0, none⟩) nh cap := form' (h.rows.1 .h) hn
variable {gr cr gt ct gh ch : Nat}
/-- A route's cells. -/
theorem MeshIs.route (h : MeshIs K w0 w mb nr nt nh M (.slice (some ⟨gr, 0, none⟩) nr cr) tv hv ts hs) {i : Nat} (hi : i < nr) :
    w.cell? ⟨gr, i * 5, none⟩ = some (.int .i64 (M.R i).o.s) ∧ w.cell? ⟨gr, i * 5 + 1, none⟩ = some (.int .i64 (M.R i).o.r) ∧ w.cell? ⟨gr, i * 5 + 2, none⟩ = some (.int .i64 (M.R i).l.s) ∧
    w.cell? ⟨gr, i * 5 + 3, none⟩ = some (.int .i64 (M.R i).l.r) ∧ w.cell? ⟨gr, i * 5 + 4, none⟩ = some (.int .i64 (M.R i).p) := by
  have e := h.rows.1 .r
  have key : ∀ j, j < 5 → w.cell? ⟨gr, i * 5 + j, none⟩ = (M.R i).cs[j]? := fun j hj => by
    rw [World.ownsRow.cellAt e (i * 5 + j) (by show i * 5 + j < nr * 5; omega)]; exact rtsC_get M.R hi hj
  exact ⟨key 0 (by omega), key 1 (by omega), key 2 (by omega), key 3 (by omega), key 4 (by omega)⟩
theorem MeshIs.routeF (h : MeshIs K w0 w mb nr nt nh M (.slice (some ⟨gr, 0, none⟩) nr cr) tv hv ts hs) (j : Nat) : w.frozen? ⟨gr, j, none⟩ = false :=
  World.ownsRow.frozenAt (h.rows.1 .r) j
theorem MeshIs.tell (h : MeshIs K w0 w mb nr nt nh M rv (.slice (some ⟨gt, 0, none⟩) nt ct) hv ts hs) {i : Nat} (hi : i < nt) : w.cell? ⟨gt, i, none⟩ = some (ts i) := by
  rw [World.ownsRow.cellAt (h.rows.1 .t) i (by show i < nt * 1; omega)]; exact map_get hi
theorem MeshIs.tellF (h : MeshIs K w0 w mb nr nt nh M rv (.slice (some ⟨gt, 0, none⟩) nt ct) hv ts hs) (j : Nat) : w.frozen? ⟨gt, j, none⟩ = false :=
  World.ownsRow.frozenAt (h.rows.1 .t) j
theorem MeshIs.hear (h : MeshIs K w0 w mb nr nt nh M rv tv (.slice (some ⟨gh, 0, none⟩) nh ch) ts hs) {i : Nat} (hi : i < nh) : w.cell? ⟨gh, i, none⟩ = some (hs i) := by
  rw [World.ownsRow.cellAt (h.rows.1 .h) i (by show i < nh * 1; omega)]; exact map_get hi
theorem MeshIs.hearF (h : MeshIs K w0 w mb nr nt nh M rv tv (.slice (some ⟨gh, 0, none⟩) nh ch) ts hs) (j : Nat) : w.frozen? ⟨gh, j, none⟩ = false :=
  World.ownsRow.frozenAt (h.rows.1 .h) j
theorem MeshIs.offers (h : MeshIs K w0 w mb nr nt nh M rv tv hv ts hs) (i : Nat) : ∃ a cap, hs i = .slice a (M.H i).length cap ∧ OfAt w a (M.H i) ∧ (M.H i).length ≤ cap ∧ cap ≤ maxLen :=
  owns_offers (h.rows.1 (.hi i)) rfl

/-- A route is written. -/
theorem MeshIs.setRoute (h : MeshIs K w0 w mb nr nt nh M (.slice (some ⟨gr, 0, none⟩) nr cr) tv hv ts hs) {i : Nat} (hi : i < nr) (r : Rt) :
    MeshIs K w0 (putC gr w (i * 5) r.cs) mb nr nt nh { M with R := upd M.R i r } (.slice (some ⟨gr, 0, none⟩) nr cr) tv hv ts hs ∧ Below mb w (putC gr w (i * 5) r.cs) := by
  obtain ⟨h1, h2⟩ := h.rows.puts (k := .r) (g := gr) (cap := cr) r.cs (i * 5) rfl
  obtain ⟨k1, k2, k3, k4, k5⟩ := h.grown .r h2
  refine ⟨⟨k1, k2, h1.congr fun k => ?_, fun k b hb => h.far k b (by cases k <;> exact hb), h.mbK, h.lt, k3, k4⟩, k5⟩
  cases k <;> simp [fput, fam]
  exact rtsC_put M.R hi r
/-- A node tells one more distance: the append, and the store of the slice. -/
theorem MeshIs.toldApp (h : MeshIs K w0 w mb nr nt nh M rv (.slice (some ⟨gt, 0, none⟩) nt ct) hv ts hs) {i : Nat} (hi : i < nt) (d : Ds) {v : Value} {w1 : World}
    (ho : w1.ownsRow (mb + 1) 23 2 v ((M.T i).length + 1) (flatD (M.T i) ++ d.cs)) (hg : w.grownBy w1 (ts i).ownBlock) (hvb : v.ownBlock = (ts i).ownBlock ∨ v.ownBlock = some w.heap.size) :
    MeshIs K w0 (w1.setCell ⟨gt, i, none⟩ v) mb nr nt nh { M with T := upd M.T i (M.T i ++ [d]) } rv (.slice (some ⟨gt, 0, none⟩) nt ct) hv (upd ts i v) hs ∧ Below mb w (w1.setCell ⟨gt, i, none⟩ v) := by
  have h1 := h.rows.app (.ti i) ho hg hvb
  obtain ⟨k1, k2, k3, k4, k5⟩ := h.grown (.ti i) hg
  obtain ⟨h2, h3⟩ := h1.set .t (g := gt) (cap := ct) rfl i v
  have hgt := (h1.1 .t).lt gt (by simp [fput, fam, Value.ownBlock])
  have hne : ¬ gt = mb := by omega
  refine ⟨⟨k1.other hne _ _, k2.set _ _, h2.congr fun k => ?_, fun k b hb => ?_, h.mbK, h.lt, Nat.le_trans k3 (by simp), fun b hK => ?_⟩, k5.setCell (p := ⟨gt, i, none⟩) (by simp only; omega) v⟩
  · cases k with
    | r => simp [fput, fam]
    | t => simp [fput, fam, map_put hi]
    | h => simp [fput, fam]
    | ti j =>
      by_cases hj : j = i
      · subst hj; simp [fput, fam, upd, flatD_append]; rfl
      · simp [fput, fam, upd, hj]
    | hi j => simp [fput, fam]
  · cases k with
    | ti j =>
      by_cases hj : j = i
      · subst hj
        simp only [fam, upd_same] at hb
        rcases hvb with hv | hv
        · exact h.far (.ti j) b (by rw [hv] at hb; exact hb)
        · intro hK
          rw [hv] at hb; simp at hb
          have := h.lt b hK; have := h.sz; omega
      · simp only [fam, upd_ne _ _ hj] at hb; exact h.far (.ti j) b hb
    | r => exact h.far .r b hb
    | t => exact h.far .t b hb
    | h => exact h.far .h b hb
    | hi j => exact h.far (.hi j) b hb
  · rw [Below.heap_setCell _ _ _ _ (fun e => h.far .t b (by rw [e]; rfl) hK)]; exact k4 b hK
/-- A node has heard a further neighbour. -/
theorem MeshIs.heardApp (h : MeshIs K w0 w mb nr nt nh M rv tv (.slice (some ⟨gh, 0, none⟩) nh ch) ts hs) {i : Nat} (hi : i < nh) (d : Ofr) {v : Value} {w1 : World}
    (ho : w1.ownsRow (mb + 1) 40 4 v ((M.H i).length + 1) (flat (M.H i) ++ d.cs)) (hg : w.grownBy w1 (hs i).ownBlock) (hvb : v.ownBlock = (hs i).ownBlock ∨ v.ownBlock = some w.heap.size) :
    MeshIs K w0 (w1.setCell ⟨gh, i, none⟩ v) mb nr nt nh { M with H := upd M.H i (M.H i ++ [d]) } rv tv (.slice (some ⟨gh, 0, none⟩) nh ch) ts (upd hs i v) ∧ Below mb w (w1.setCell ⟨gh, i, none⟩ v) := by
  have h1 := h.rows.app (.hi i) ho hg hvb
  obtain ⟨k1, k2, k3, k4, k5⟩ := h.grown (.hi i) hg
  obtain ⟨h2, h3⟩ := h1.set .h (g := gh) (cap := ch) rfl i v
  have hgt := (h1.1 .h).lt gh (by simp [fput, fam, Value.ownBlock])
  have hne : ¬ gh = mb := by omega
  refine ⟨⟨k1.other hne _ _, k2.set _ _, h2.congr fun k => ?_, fun k b hb => ?_, h.mbK, h.lt, Nat.le_trans k3 (by simp), fun b hK => ?_⟩, k5.setCell (p := ⟨gh, i, none⟩) (by simp only; omega) v⟩
  · cases k with
    | r => simp [fput, fam]
    | t => simp [fput, fam]
    | h => simp [fput, fam, map_put hi]
    | hi j =>
      by_cases hj : j = i
      · subst hj; simp [fput, fam, upd, flat_append]; rfl
      · simp [fput, fam, upd, hj]
    | ti j => simp [fput, fam]
  · cases k with
    | hi j =>
      by_cases hj : j = i
      · subst hj
        simp only [fam, upd_same] at hb
        rcases hvb with hv | hv
        · exact h.far (.hi j) b (by rw [hv] at hb; exact hb)
        · intro hK
          rw [hv] at hb; simp at hb
          have := h.lt b hK; have := h.sz; omega
      · simp only [fam, upd_ne _ _ hj] at hb; exact h.far (.hi j) b hb
    | r => exact h.far .r b hb
    | t => exact h.far .t b hb
    | h => exact h.far .h b hb
    | ti j => exact h.far (.ti j) b hb
  · rw [Below.heap_setCell _ _ _ _ (fun e => h.far .h b (by rw [e]; rfl) hK)]; exact k4 b hK
/-- What a node has heard is forgotten. -/
theorem MeshIs.heardNil (h : MeshIs K w0 w mb nr nt nh M rv tv (.slice (some ⟨gh, 0, none⟩) nh ch) ts hs) {i : Nat} (hi : i < nh) :
    MeshIs K w0 (w.setCell ⟨gh, i, none⟩ (.slice none 0 0)) mb nr nt nh { M with H := upd M.H i [] } rv tv (.slice (some ⟨gh, 0, none⟩) nh ch) ts (upd hs i (.slice none 0 0)) ∧ Below mb w (w.setCell ⟨gh, i, none⟩ (.slice none 0 0)) := by
  have h1 := h.rows.nil (.hi i) 40 4
  obtain ⟨h2, h3⟩ := h1.set .h (g := gh) (cap := ch) rfl i (.slice none 0 0)
  have hgt := (h1.1 .h).lt gh (by simp [fput, fam, Value.ownBlock])
  have hne : ¬ gh = mb := by omega
  refine ⟨⟨h.c.other hne _ _, h.f.set _ _, h2.congr fun k => ?_, fun k b hb => ?_, h.mbK, h.lt, Nat.le_trans h.sz (by simp), fun b hK => ?_⟩, (Below.refl _ _).setCell (p := ⟨gh, i, none⟩) (by simp only; omega) _⟩
  · cases k with
    | r => simp [fput, fam]
    | t => simp [fput, fam]
    | h => simp [fput, fam, map_put hi]
    | hi j =>
      by_cases hj : j = i
      · subst hj; simp [fput, fam, upd, flat]
      · simp [fput, fam, upd, hj]
    | ti j => simp [fput, fam]
  · cases k with
    | hi j =>
      by_cases hj : j = i
      · subst hj
        simp [fam, upd_same, Value.ownBlock] at hb
      · simp only [fam, upd_ne _ _ hj] at hb; exact h.far (.hi j) b hb
    | r => exact h.far .r b hb
    | t => exact h.far .t b hb
    | h => exact h.far .h b hb
    | ti j => exact h.far (.ti j) b hb
  · rw [Below.heap_setCell _ _ _ _ (fun e => h.far .h b (by rw [e]; rfl) hK)]; exact h.kept b hK
/-- What a node has heard of a neighbour is replaced. -/
theorem MeshIs.heardPut (h : MeshIs K w0 w mb nr nt nh M rv tv hv ts hs) {i j g c : Nat} (hv' : hs i = .slice (some ⟨g, 0, none⟩) (M.H i).length c) (hj : j < (M.H i).length) (d : Ofr) :
    MeshIs K w0 (putC g w (j * 4) d.cs) mb nr nt nh { M with H := upd M.H i ((M.H i).set j d) } rv tv hv ts hs ∧ Below mb w (putC g w (j * 4) d.cs) := by
  obtain ⟨h1, h2⟩ := h.rows.puts (k := .hi i) (g := g) (cap := c) d.cs (j * 4) hv'
  have hb : (fam nr nt nh rv tv hv ts hs M (.hi i)).v.ownBlock = some g := by show (hs i).ownBlock = some g; rw [hv']; rfl
  obtain ⟨k1, k2, k3, k4, k5⟩ := h.grown (.hi i) (by rw [hb]; exact h2)
  refine ⟨⟨k1, k2, h1.congr fun k => ?_, fun k b hb => h.far k b (by cases k <;> exact hb), h.mbK, h.lt, k3, k4⟩, k5⟩
  cases k with
  | hi q =>
    by_cases hq : q = i
    · subst hq; simp [fput, fam, upd]; exact flat_put hj d
    · simp [fput, fam, upd, hq]
  | _ => simp [fput, fam]
end
end Go.Proofs.Ytbonchnhngaicaa
