/- Proved: small facts on a mesh in memory beside a row of flags, and on passes over links. Conditions: those that each theorem names. -/
import Derived.Test.YtbonchnhngaicaaM15
import Derived.Test.YtbonchnhngaicaaN3
namespace Go.Proofs.Ytbonchnhngaicaa
open Go.RowKit Go.Sort Go.BigFrame
set_option linter.unusedVariables false
set_option linter.unusedSimpArgs false

/-! ### plain -/
/-- The first nodes have forgotten what they heard. -/
def clearTo (M : Msh) (j : Nat) : Msh := { M with H := fun i => if i < j then [] else M.H i }
theorem clearTo_zero (M : Msh) : clearTo M 0 = M := by
  obtain ⟨R, T, H⟩ := M
  simp [clearTo]
theorem clearTo_succ (M : Msh) (j : Nat) : ({ clearTo M j with H := upd (clearTo M j).H j [] } : Msh) = clearTo M (j + 1) := by
  have h : upd (clearTo M j).H j [] = (clearTo M (j + 1)).H := by
    funext i
    unfold upd clearTo
    by_cases hi : i = j
    · subst hi; simp
    · by_cases h2 : i < j
      · simp [hi, h2, show i < j + 1 from by omega]
      · simp [hi, h2, show ¬ i < j + 1 from by omega]
  rw [h]; rfl
theorem clear_mem {M : Msh} {n i : Nat} {o : Ofr} (h : o ∈ (clearTo M n).H i) : o ∈ M.H i := by
  unfold clearTo at h
  simp only at h
  split at h
  · cases h
  · exact h
theorem Inv.clear {n : Nat} {M : Msh} (h : Inv n M) (k : Nat) : Inv n (clearTo M k) := ⟨h.v, h.s, h.p, h.t, fun i hi o ho => h.h i hi o (clear_mem ho), h.ne⟩
theorem Sq.clear {n : Nat} {M : Msh} (h : Sq n M) (k : Nat) : Sq n (clearTo M k) := ⟨h.r, h.t, fun i hi o ho => h.h i hi o (clear_mem ho)⟩
theorem Short.clear {m : Nat} {M : Msh} (h : Short m M) (k : Nat) : Short m (clearTo M k) := ⟨h.t, fun j => by
  unfold clearTo
  simp only
  split
  · simp
  · exact h.h j⟩
theorem Short.mono {m k : Nat} {M : Msh} (h : Short m M) (hk : m ≤ k) : Short k M := ⟨fun j => Nat.le_trans (h.t j) hk, fun j => Nat.le_trans (h.h j) hk⟩
theorem doM_inv' {n : Nat} {M : Msh} (h : Inv n M) (hn : 0 < n) {x : Mv} (hx : x.ok) : Inv n (doM n M x) := doM_inv h hn hx
theorem doM_sq {n : Nat} {M : Msh} (h : Sq n M) (hI : Inv n M) (hn : 0 < n) {x : Mv} (hx : x.ok) : Sq n (doM n M x) ∧ ((doM n M x).R 0).o.s ≤ (M.R 0).o.s + 1 :=
  h.move hI hn _ _ _ hx.l0 (mod_nat hx.n0 hn).2 (mod_nat hx.f0 hn).2
theorem own_told {n : Nat} {M : Msh} (h : Inv n M) {i : Nat} (hi : i < n) : betterB (M.R i).o (M.R i).l = false := (valid_iff.1 (h.v i hi)).2.2.1
theorem Inv.link {n : Nat} {M : Msh} (h : Inv n M) {a b : Nat} (ha : a < n) (hb : b < n) : Inv n (linkM M a b) := by
  by_cases hab : a = b
  · rw [show linkM M a b = M from by simp [linkM, hab]]; exact h
  · have h1 := h.hear (i := a) (k := b) ha hb (fun e => hab e.symm) (M.R b).o (own_told h hb) (cst a b)
    have h2 := h1.hear (i := b) (k := a) hb ha hab (M.R a).o (own_told h ha) (cst a b)
    have e : linkM M a b = { M with H := upd (upd M.H a (putO (M.H a) ⟨b, (M.R b).o, cst a b⟩)) b (putO (M.H b) ⟨a, (M.R a).o, cst a b⟩) } := by simp [linkM, hab]
    rw [e]
    simp only [upd_ne M.H _ (fun e => hab e.symm : b ≠ a)] at h2
    exact h2
theorem Short.link {m : Nat} {M : Msh} (h : Short m M) (a b : Nat) : Short (m + 2) (linkM M a b) := by
  unfold linkM
  split
  · exact h.mono (by omega)
  · refine ⟨fun j => Nat.le_trans (h.t j) (by omega), fun j => ?_⟩
    have ha := putO_len (M.H a) ⟨b, (M.R b).o, cst a b⟩
    have hb := putO_len (M.H b) ⟨a, (M.R a).o, cst a b⟩
    have h1 := h.h a; have h2 := h.h b; have h3 := h.h j
    unfold upd
    simp only
    split
    · omega
    · split <;> omega
theorem link_two {M : Msh} {a b : Nat} (h : ¬ a = b) : ({ M with H := upd (upd M.H a (putO (M.H a) ⟨b, (M.R b).o, cst a b⟩)) b (putO (upd M.H a (putO (M.H a) ⟨b, (M.R b).o, cst a b⟩) b) ⟨a, (M.R a).o, cst a b⟩) } : Msh) = linkM M a b := by
  rw [upd_ne M.H _ (fun e => h e.symm : b ≠ a)]
  simp [linkM, h]
theorem passM_snoc : ∀ (ls : List (Nat × Nat)) (M : Msh) (x : Nat × Nat), passM M (ls ++ [x]) = linkM (passM M ls) x.1 x.2
  | [], _, _ => rfl
  | l :: ls, M, x => passM_snoc ls _ x
theorem passJ_snoc : ∀ (ls : List (Nat × Nat)) (J : Nat → Bool) (x : Nat × Nat), passJ J (ls ++ [x]) = linkJ (passJ J ls) x.1 x.2
  | [], _, _ => rfl
  | l :: ls, J, x => passJ_snoc ls _ x
theorem take_snoc {ls : List (Nat × Nat)} {p : Nat} {x : Nat × Nat} (h : p < ls.length) (e : ls.getD p (0, 0) = x) : ls.take (p + 1) = ls.take p ++ [x] := by
  rw [List.take_add_one, ← e, List.getD_eq_getElem?_getD, List.getElem?_eq_getElem h]; rfl

/-! ### the row of flags -/
structure Flags (w : World) (g n : Nat) (J : Nat → Bool) : Prop where
  c : ∀ i, i < n → w.cell? ⟨g, i, none⟩ = some (.bool (J i))
  f : ∀ i, w.frozen? ⟨g, i, none⟩ = false
  lt : g < w.heap.size
theorem Flags.same {w w0 : World} {g n : Nat} {J : Nat → Bool} (h : Flags w0 g n J) (e : w.heap[g]? = w0.heap[g]?) : Flags w g n J :=
  ⟨fun i hi => (World.cell?_of_block (w := w0) (a := ⟨g, i, none⟩) e).trans (h.c i hi), fun i => (World.frozen?_of_block (w := w0) (a := ⟨g, i, none⟩) e).trans (h.f i), by
    have : w0.heap[g]?.isSome = true := by rw [Array.getElem?_eq_getElem h.lt]; rfl
    rw [← e] at this
    exact (Array.getElem?_eq_some_iff.1 (Option.eq_some_of_isSome this)).1⟩
/-- The mesh, and beside it the row of flags. -/
def Two (w : World) (mb g n : Nat) (M : Msh) (J : Nat → Bool) : Prop := ∃ W0, MeshAt (fun b => b = g) W0 w mb n M ∧ Flags W0 g n J
section
variable {w w' : World} {mb g n : Nat} {M : Msh} {J : Nat → Bool}
theorem Two.flags (h : Two w mb g n M J) : Flags w g n J := by
  obtain ⟨W0, ⟨gr, cr, gt, ct, gh, ch, ts, hs, hM⟩, hJ⟩ := h
  exact hJ.same (hM.kept g rfl)
theorem Two.keep (h : Two w mb g n M J) (hb : Below w.heap.size w w') : Two w' mb g n M J := by
  obtain ⟨W0, ⟨gr, cr, gt, ct, gh, ch, ts, hs, hM⟩, hJ⟩ := h
  exact ⟨W0, ⟨gr, cr, gt, ct, gh, ch, ts, hs, hM.keep hb⟩, hJ⟩
theorem grown_set (w : World) (g j : Nat) (v : Value) : w.grownBy (w.setCell ⟨g, j, none⟩ v) (some g) :=
  ⟨rfl, rfl, rfl, by simp, fun i hi hne => Below.heap_setCell _ _ _ _ (fun e => hne (congrArg some e))⟩
theorem Two.set (h : Two w mb g n M J) {i : Nat} (hi : i < n) (b : Bool) : Two (w.setCell ⟨g, i, none⟩ (.bool b)) mb g n M (upd J i b) := by
  have hF := h.flags
  obtain ⟨W0, ⟨gr, cr, gt, ct, gh, ch, ts, hs, hM⟩, hJ⟩ := h
  have hg := grown_set w g i (.bool b)
  refine ⟨w.setCell ⟨g, i, none⟩ (.bool b), ⟨gr, cr, gt, ct, gh, ch, ts, hs, ?_⟩, ?_⟩
  · have hne : g ≠ mb := fun e => hM.mbK e.symm
    refine ⟨hM.c.other hne _ _, hM.f.set _ _, ⟨fun k => (hM.rows.1 k).kept hg ?_, hM.rows.2⟩, hM.far, hM.mbK, fun b' hb' => ?_, Nat.le_refl _, fun _ _ => rfl⟩
    · cases hb : (fam n n n _ _ _ ts hs M k).v.ownBlock with
      | none => exact .inl rfl
      | some b => exact .inr fun e => hM.far k b hb (Option.some.inj e)
    · subst hb'; simpa using hF.lt
  · refine ⟨fun j hj => ?_, fun j => by rw [World.frozen?_setCell]; exact hF.f j, by simpa using hF.lt⟩
    by_cases hji : j = i
    · subst hji; rw [upd_same]; exact World.cell?_setCell_same' _ _ _ (by rw [hF.c j hj]; rfl)
    · rw [upd_ne _ _ hji, World.cell?_setCell_other _ _ _ _ (fun he => hji (congrArg Addr.off he).symm)]; exact hF.c j hj
theorem MeshAt.two {w0 : World} (h : MeshAt (fun _ => False) w0 w mb n M) : Two (w.alloc (.cells (Array.replicate n (.bool false)) 4)) mb w.heap.size n M (fun _ => false) := by
  obtain ⟨gr, cr, gt, ct, gh, ch, ts, hs, hM⟩ := h
  have hF := hM.f.2
  have hb : Below w.heap.size w (w.alloc (.cells (Array.replicate n (.bool false)) 4)) := Below.alloc (Below.refl _ _) (Nat.le_refl _) _
  have hK := hM.keep hb
  refine ⟨w.alloc (.cells (Array.replicate n (.bool false)) 4), ⟨gr, cr, gt, ct, gh, ch, ts, hs, ?_⟩, ?_⟩
  · refine ⟨hK.c, hK.f, hK.rows, fun k b hb e => ?_, fun e => by omega, fun b hb => by subst hb; simp, Nat.le_refl _, fun _ _ => rfl⟩
    have := ((hM.rows.1 k).lt b hb).2
    omega
  · refine ⟨fun i hi => new0 rfl (by simp [hi]), fun i => (Fz.new w _ 4).1 i, by simp⟩
theorem Two.apply (h : Two w mb g n M J) (hn : 2 ≤ n) (hn2 : n ≤ 100) (x : Mv) (hx : x.ok) (m : Nat) (hm : m ≤ 1000000) (hS : Short m M) (hI : Inv n M) :
    Calls Try.prog 27 #[.pointer (some ⟨mb, 0, none⟩), x.v] w fun e w' => e = .returned (.tuple #[]) ∧ Two w' mb g n (doM n M x) J ∧ Below mb w w' := by
  obtain ⟨W0, hM, hJ⟩ := h
  exact (apply_any _ W0 w mb n M hM hn hn2 x hx m hm hS hI.ne (own0 hI (by omega))).mono fun e w' ⟨h1, h2, h3⟩ => ⟨h1, ⟨W0, h2, hJ⟩, h3⟩
theorem Two.hear (h : Two w mb g n M J) (hn : n ≤ 100) {i : Nat} (hi : i < n) (o : Ofr) (hlen : (M.H i).length ≤ 1000000) :
    Calls Try.prog 29 #[.pointer (some ⟨mb, 0, none⟩), .int .i64 i, o.v] w fun e w' => e = .returned (.tuple #[]) ∧ Two w' mb g n { M with H := upd M.H i (putO (M.H i) o) } J ∧ Below mb w w' := by
  obtain ⟨W0, ⟨gr, cr, gt, ct, gh, ch, ts, hs, hM⟩, hJ⟩ := h
  exact (hear_at _ W0 w mb n n n M _ _ gh ch ts hs hM i hi hn o (Lib.hid hlen)).mono fun e w' ⟨h1, ⟨ts', hs', h2⟩, h3⟩ => ⟨h1, ⟨W0, ⟨gr, cr, gt, ct, gh, ch, ts', hs', h2⟩, hJ⟩, h3⟩
end

/-! ### single operations -/
theorem inf4 : (Try.prog.info? 4).map (fun i => (i.zero, i.size, i.bytes)) = some (some (.bool false), 1, 1) := by kernel_rfl
theorem made_rep (v : Value) (hv : v.cells = #[v]) (n : Nat) : madeCells v.cells (n * 1) = Array.replicate n v := by
  rw [hv, Nat.mul_one]
  apply Array.ext
  · simp [madeCells]
  · intro i h1 h2
    simp [madeCells]
    try (rw [show i % 1 = 0 from Nat.mod_one i]; rfl)
theorem make_flags (n : Nat) (hn : n ≤ 60) (w : World) : (Instr.makeSlice 58 (.int .i64 n) (.int .i64 n)).run Try.prog w = .ok (.slice (some ⟨w.heap.size, 0, none⟩) n n) (w.alloc (.cells (Array.replicate n (.bool false)) 4)) := by
  obtain ⟨i0, hi, hz0, hz1, hz2⟩ := info_parts inf4
  have := run_make (P := Try.prog) w 58 4 i0 (.bool false) Try.underlying58 hi hz0 .i64 .i64 n n (by omega) (Int.le_refl _) (by rw [hz2]; omega) (by omega)
  rw [hz1, made_rep _ rfl] at this
  simpa using this
set_option maxHeartbeats 1000000 in
theorem exec_index58 {ev : Operand → Value} {w : World} {o : Oper} {x y : Operand} {g n c i : Nat} (ho : o.op = .indexAddr 58 x y) (h1 : ev x = .slice (some ⟨g, 0, none⟩) n c) (h2 : ev y = .int .i64 i) (hi : i < n) :
    (execOp ev o).run Try.prog w = .ok (.value (.pointer (some ⟨g, i, none⟩))) w := by
  have hi1 : (i : Int) < (n : Int) := by omega
  have hi0 : (0 : Int) ≤ (i : Int) := by omega
  unfold execOp
  simp only [ho, h1, h2]
  go_simp
set_option maxHeartbeats 1000000 in
theorem exec_store4 {ev : Operand → Value} {w : World} {o : Oper} {x y : Operand} {g i : Nat} {b : Bool} {u : Value} (ho : o.op = .store 4 x y) (h1 : ev x = .pointer (some ⟨g, i, none⟩)) (h2 : ev y = .bool b) (hc : w.cell? ⟨g, i, none⟩ = some u) (hf : w.frozen? ⟨g, i, none⟩ = false) :
    (execOp ev o).run Try.prog w = .ok .skip (w.setCell ⟨g, i, none⟩ (.bool b)) := by
  unfold execOp
  simp only [ho, h1, h2]
  go_simp
end Go.Proofs.Ytbonchnhngaicaa
