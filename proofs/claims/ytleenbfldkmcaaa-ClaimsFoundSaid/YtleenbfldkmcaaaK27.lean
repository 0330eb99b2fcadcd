/- Proved: what the helper symmetric of the statements returns. Conditions: the rows lie in memory. -/
import Derived.Test.YtleenbfldkmcaaaK21
import Derived.Test.YtleenbfldkmcaaaSteps
namespace Go.Proofs.Ytleenbfldkmcaaa
open Go.RowKit Go.Sort Go.BigFrame
set_option linter.unusedVariables false
set_option linter.unusedSimpArgs false
attribute [local go_sem] cell_alloc_old
theorem inf4 : (Try.prog.info? 4).map (fun i => (i.zero, i.size, i.bytes)) = some (some (.bool false), 1, 1) := by kernel_rfl
theorem inf66 : (Try.prog.info? 66).map (fun i => (i.zero, i.size, i.bytes)) = some (some (.slice none 0 0), 1, 24) := by kernel_rfl
theorem made_rep (v : Value) (hv : v.cells = #[v]) (n : Nat) : madeCells v.cells (n * 1) = Array.replicate n v := by
  rw [hv, Nat.mul_one]
  apply Array.ext
  · simp [madeCells]
  · intro i h1 h2
    simp [madeCells]
    try (rw [show i % 1 = 0 from Nat.mod_one i]; rfl)
theorem make_bools (n : Nat) (hn : n ≤ 60) (w : World) : (Instr.makeSlice 66 (.int .i64 n) (.int .i64 n)).run Try.prog w = .ok (.slice (some ⟨w.heap.size, 0, none⟩) n n) (w.alloc (.cells (Array.replicate n (.bool false)) 4)) := by
  obtain ⟨i0, hi, hz0, hz1, hz2⟩ := info_parts inf4
  have := run_make (P := Try.prog) w 66 4 i0 (.bool false) Try.underlying66 hi hz0 .i64 .i64 n n (by omega) (Int.le_refl _) (by rw [hz2]; omega) (by omega)
  rw [hz1, made_rep _ rfl] at this
  simpa using this
theorem make_rows (n : Nat) (hn : n ≤ 60) (w : World) : (Instr.makeSlice 28 (.int .i64 n) (.int .i64 n)).run Try.prog w = .ok (.slice (some ⟨w.heap.size, 0, none⟩) n n) (w.alloc (.cells (Array.replicate n (.slice none 0 0)) 66)) := by
  obtain ⟨i0, hi, hz0, hz1, hz2⟩ := info_parts inf66
  have := run_make (P := Try.prog) w 28 66 i0 (.slice none 0 0) Try.underlying28 hi hz0 .i64 .i64 n n (by omega) (Int.le_refl _) (by rw [hz2]; omega) (by omega)
  rw [hz1, made_rep _ rfl] at this
  simpa using this
/-- Rows of truth values, each in a block of its own, under a row of their slices; the first k of them are laid. -/
structure Grid (w : World) (g n k : Nat) (R : Nat → Nat) (M : Nat → Nat → Bool) (B : Nat) : Prop where
  row : ∀ i, i < k → w.cell? ⟨g, i, none⟩ = some (.slice (some ⟨R i, 0, none⟩) n n)
  nul : ∀ i, k ≤ i → i < n → w.cell? ⟨g, i, none⟩ = some (.slice none 0 0)
  cell : ∀ i j, i < k → j < n → w.cell? ⟨R i, j, none⟩ = some (.bool (M i j))
  fzr : ∀ i, i < k → Fz w (R i)
  fzg : Fz w g
  inj : ∀ i j, i < k → j < k → R i = R j → i = j
  ne : ∀ i, i < k → R i ≠ g
  lo : ∀ i, i < k → B ≤ R i
  lg : B ≤ g
def updN (f : Nat → Nat) (i a : Nat) : Nat → Nat := fun j => if j = i then a else f j
def upd2 (M : Nat → Nat → Bool) (i k : Nat) (x : Bool) : Nat → Nat → Bool := fun a b => if a = i ∧ b = k then x else M a b
theorem rep_at (n : Nat) (v : Value) {i : Nat} (h : i < n) : (Array.replicate n v).toList[i]? = some v := by simp [h]
theorem Grid.start (w : World) (n : Nat) (R : Nat → Nat) (M : Nat → Nat → Bool) (B : Nat) (hB : B ≤ w.heap.size) : Grid (w.alloc (.cells (Array.replicate n (.slice none 0 0)) 66)) w.heap.size n 0 R M B where
  row := fun i h => absurd h (Nat.not_lt_zero _)
  nul := fun i _ h => new0 rfl (by simp [h])
  cell := fun i j h => absurd h (Nat.not_lt_zero _)
  fzr := fun i h => absurd h (Nat.not_lt_zero _)
  fzg := Fz.new _ _ _
  inj := fun i j h => absurd h (Nat.not_lt_zero _)
  ne := fun i h => absurd h (Nat.not_lt_zero _)
  lo := fun i h => absurd h (Nat.not_lt_zero _)
  lg := hB
theorem Grid.push {w : World} {g n k : Nat} {R : Nat → Nat} {B : Nat} (h : Grid w g n k R (fun _ _ => false) B) (hk : k < n) (hB : B ≤ w.heap.size) :
    Grid ((w.alloc (.cells (Array.replicate n (.bool false)) 4)).setCell ⟨g, k, none⟩ (.slice (some ⟨w.heap.size, 0, none⟩) n n)) g n (k + 1) (updN R k w.heap.size) (fun _ _ => false) B := by
  have hgl := h.fzg.2
  have hne : w.heap.size ≠ g := by omega
  have hR : ∀ i, i < k → R i ≠ w.heap.size := fun i hi => by have := (h.fzr i hi).2; omega
  refine ⟨fun i hi => ?_, fun i h1 h2 => ?_, fun i j hi hj => ?_, fun i hi => ?_, (h.fzg.alloc _).set _ _, fun i j hi hj e => ?_, fun i hi => ?_, fun i hi => ?_, h.lg⟩
  · unfold updN
    by_cases e : i = k
    · subst e
      rw [if_pos rfl]
      exact World.cell?_setCell_same' _ _ _ (by rw [old1 (h.nul i (Nat.le_refl _) hk)]; rfl)
    · rw [if_neg e, World.cell?_setCell_other _ _ _ _ (fun he => e (congrArg Addr.off he).symm)]
      exact old1 (h.row i (by omega)) _
  · rw [World.cell?_setCell_other _ _ _ _ (fun he => by have := congrArg Addr.off he; simp at this; omega)]
    exact old1 (h.nul i (by omega) h2) _
  · unfold updN
    by_cases e : i = k
    · subst e
      rw [if_pos rfl, World.cell?_setCell_other _ _ _ _ (fun he => hne (congrArg Addr.block he).symm)]
      exact new0 rfl (by simp [hj])
    · rw [if_neg e, World.cell?_setCell_other _ _ _ _ (fun he => h.ne i (by omega) (congrArg Addr.block he).symm)]
      exact old1 (h.cell i j (by omega) hj) _
  · unfold updN
    by_cases e : i = k
    · subst e; rw [if_pos rfl]; exact (Fz.new _ _ _).set _ _
    · rw [if_neg e]; exact ((h.fzr i (by omega)).alloc _).set _ _
  · unfold updN at e
    by_cases e1 : i = k
    · by_cases e2 : j = k
      · omega
      · rw [if_pos e1, if_neg e2] at e; exact absurd e.symm (hR j (by omega))
    · by_cases e2 : j = k
      · rw [if_neg e1, if_pos e2] at e; exact absurd e (hR i (by omega))
      · rw [if_neg e1, if_neg e2] at e; exact h.inj i j (by omega) (by omega) e
  · unfold updN
    by_cases e : i = k
    · rw [if_pos e]; exact hne
    · rw [if_neg e]; exact h.ne i (by omega)
  · unfold updN
    by_cases e : i = k
    · rw [if_pos e]; exact hB
    · rw [if_neg e]; exact h.lo i (by omega)
theorem Grid.set {w : World} {g n : Nat} {R : Nat → Nat} {M : Nat → Nat → Bool} {B : Nat} (h : Grid w g n n R M B) {i k : Nat} (hi : i < n) (hk : k < n) (x : Bool) : Grid (w.setCell ⟨R i, k, none⟩ (.bool x)) g n n R (upd2 M i k x) B := by
  refine ⟨fun a ha => ?_, fun a h1 h2 => absurd h1 (by omega), fun a b ha hb => ?_, fun a ha => (h.fzr a ha).set _ _, h.fzg.set _ _, h.inj, h.ne, h.lo, h.lg⟩
  · rw [World.cell?_setCell_other _ _ _ _ (fun he => h.ne i hi (congrArg Addr.block he))]
    exact h.row a ha
  · unfold upd2
    by_cases e : a = i ∧ b = k
    · obtain ⟨rfl, rfl⟩ := e
      rw [if_pos ⟨rfl, rfl⟩]
      exact World.cell?_setCell_same' _ _ _ (by rw [h.cell a b ha hb]; rfl)
    · rw [if_neg e, World.cell?_setCell_other _ _ _ _ (fun he => e ⟨h.inj a i ha hi (congrArg Addr.block he).symm, (congrArg Addr.off he).symm⟩)]
      exact h.cell a b ha hb
theorem Grid.drew {w : World} {g n k : Nat} {R : Nat → Nat} {M : Nat → Nat → Bool} {B : Nat} (h : Grid w g n k R M B) : Grid w.drew g n k R M B := ⟨h.row, h.nul, h.cell, h.fzr, h.fzg, h.inj, h.ne, h.lo, h.lg⟩
/-- The rows as a list of lists. -/
def tabM (M : Nat → Nat → Bool) (n : Nat) : List (List Bool) := (List.range n).map fun i => (List.range n).map (M i)
theorem tabM_row (M : Nat → Nat → Bool) {n i : Nat} (h : i < n) : (tabM M n).getD i [] = (List.range n).map (M i) := by simp [tabM, h]
theorem Grid.tab {w : World} {g n : Nat} {R : Nat → Nat} {M : Nat → Nat → Bool} {B : Nat} (h : Grid w g n n R M B) (hn : n ≤ maxLen) : TabAt w (some ⟨g, 0, none⟩) (tabM M n) := by
  refine .inr ⟨g, 0, rfl, fun i hi => ?_⟩
  have hi' : i < n := by simpa [tabM] using hi
  refine ⟨some ⟨R i, 0, none⟩, n, ?_, .inr ⟨R i, 0, rfl, fun j hj => ?_⟩, ?_, hn⟩
  · rw [tabM_row M hi', Nat.zero_add, h.row i hi']; simp
  · rw [tabM_row M hi'] at hj ⊢
    have hj' : j < n := by simpa using hj
    rw [Nat.zero_add, h.cell i j hi' hj']; simp [hj']
  · rw [tabM_row M hi']; simp
/-- What has been laid of the symmetric rows. -/
def symM (H : List (List Bool)) (i k : Nat) : Nat → Nat → Bool := fun a b => if a = b then false else if max a b < i ∨ (max a b = i ∧ min a b < k) then tabB H (max a b) (min a b) else false
theorem symM_zero (H : List (List Bool)) : symM H 0 0 = fun _ _ => false := by
  funext a b
  unfold symM
  split
  · rfl
  · rw [if_neg (by omega)]
theorem symM_next (H : List (List Bool)) (i : Nat) : symM H i i = symM H (i + 1) 0 := by
  funext a b
  unfold symM
  by_cases h : a = b
  · rw [if_pos h, if_pos h]
  · rw [if_neg h, if_neg h]
    by_cases h1 : max a b < i ∨ (max a b = i ∧ min a b < i)
    · rw [if_pos h1, if_pos (by omega)]
    · rw [if_neg h1, if_neg (by omega)]
theorem symM_set (H : List (List Bool)) {i k : Nat} (hk : k < i) {x : Bool} (hx : tabB H i k = x) : upd2 (upd2 (symM H i k) i k x) k i x = symM H i (k + 1) := by
  funext a b
  unfold upd2 symM
  by_cases h1 : a = k ∧ b = i
  · obtain ⟨rfl, rfl⟩ := h1
    rw [if_pos ⟨rfl, rfl⟩, if_neg (by omega), if_pos (by omega), Nat.max_eq_right (by omega), Nat.min_eq_left (by omega), hx]
  · rw [if_neg h1]
    by_cases h2 : a = i ∧ b = k
    · obtain ⟨rfl, rfl⟩ := h2
      rw [if_pos ⟨rfl, rfl⟩, if_neg (by omega), if_pos (by omega), Nat.max_eq_left (by omega), Nat.min_eq_right (by omega), hx]
    · rw [if_neg h2]
      by_cases h : a = b
      · rw [if_pos h, if_pos h]
      · rw [if_neg h, if_neg h]
        by_cases h3 : max a b < i ∨ (max a b = i ∧ min a b < k)
        · rw [if_pos h3, if_pos (by omega)]
        · rw [if_neg h3, if_neg (by omega)]
theorem upd2_comm (M : Nat → Nat → Bool) {i k : Nat} (h : k < i) (x : Bool) : upd2 (upd2 M k i x) i k x = upd2 (upd2 M i k x) k i x := by
  funext a b
  unfold upd2
  by_cases h1 : a = i ∧ b = k <;> by_cases h2 : a = k ∧ b = i <;> simp [h1, h2]
theorem symM_end (H : List (List Bool)) (n : Nat) : tabM (symM H n 0) n = symV H n := by
  unfold tabM symV
  refine List.map_congr_left fun i hi => List.map_congr_left fun k hk => ?_
  have hi' := List.mem_range.1 hi
  have hk' := List.mem_range.1 hk
  unfold symM
  by_cases h : i = k
  · rw [if_pos h, if_pos h]
  · rw [if_neg h, if_neg h, if_pos (by omega)]
/-- The two cells that a round writes, whichever comes first. -/
def put2 (M : Nat → Nat → Bool) (i k : Nat) (x p q : Bool) : Nat → Nat → Bool := fun a b => if (p = true ∧ a = i ∧ b = k) ∨ (q = true ∧ a = k ∧ b = i) then x else M a b
theorem put2_none (M : Nat → Nat → Bool) (i k : Nat) (x : Bool) : put2 M i k x false false = M := by funext a b; simp [put2]
theorem put2_fst (M : Nat → Nat → Bool) (i k : Nat) (x q : Bool) : upd2 (put2 M i k x false q) i k x = put2 M i k x true q := by
  funext a b
  unfold put2 upd2
  dsimp only
  by_cases h1 : a = i ∧ b = k
  · rw [if_pos h1, if_pos (Or.inl ⟨rfl, h1⟩)]
  · rw [if_neg h1]
    by_cases h2 : q = true ∧ a = k ∧ b = i
    · rw [if_pos (Or.inr h2), if_pos (Or.inr h2)]
    · rw [if_neg (fun h => Or.elim h (fun h => Bool.false_ne_true h.1) h2), if_neg (fun h => Or.elim h (fun h => h1 h.2) h2)]
theorem put2_snd (M : Nat → Nat → Bool) (i k : Nat) (x p : Bool) : upd2 (put2 M i k x p false) k i x = put2 M i k x p true := by
  funext a b
  unfold put2 upd2
  dsimp only
  by_cases h1 : a = k ∧ b = i
  · rw [if_pos h1, if_pos (Or.inr ⟨rfl, h1⟩)]
  · rw [if_neg h1]
    by_cases h2 : p = true ∧ a = i ∧ b = k
    · rw [if_pos (Or.inl h2), if_pos (Or.inl h2)]
    · rw [if_neg (fun h => Or.elim h h2 (fun h => Bool.false_ne_true h.1)), if_neg (fun h => Or.elim h h2 (fun h => h1 h.2))]
theorem put2_both (M : Nat → Nat → Bool) (i k : Nat) (x : Bool) : put2 M i k x true true = upd2 (upd2 M i k x) k i x := by
  have h := put2_snd M i k x true
  have h1 := put2_fst M i k x false
  rw [put2_none] at h1
  rw [← h, ← h1]

structure J14 (w0 : World) (g n i k : Nat) (R : Nat → Nat) (M : Nat → Nat → Bool) (x : Bool) (d : Dn) (vs : Vs)  (w : World) : Prop where
  b : Below w0.heap.size w0 w
  f0 : d 0 = true → vs 0 = .slice (some ⟨g, 0, none⟩) n n
  f1 : d 1 = true → vs 1 = .int .i64 i
  f2 : d 2 = true → vs 2 = .pointer (some ⟨g, i, none⟩)
  f3 : d 3 = true → vs 3 = .slice (some ⟨R i, 0, none⟩) n n
  f4 : d 4 = true → vs 4 = .int .i64 k
  f5 : d 5 = true → vs 5 = .slice (some ⟨g, 0, none⟩) n n
  f6 : d 6 = true → vs 6 = .int .i64 k
  f7 : d 7 = true → vs 7 = .pointer (some ⟨g, k, none⟩)
  f8 : d 8 = true → vs 8 = .slice (some ⟨R k, 0, none⟩) n n
  f9 : d 9 = true → vs 9 = .int .i64 i
  f10 : d 10 = true → vs 10 = .bool x
  f11 : d 11 = true → vs 11 = .bool x
  f12 : d 12 = true → vs 12 = .pointer (some ⟨R i, k, none⟩)
  f14 : d 14 = true → vs 14 = .pointer (some ⟨R k, i, none⟩)
  gr : Grid w g n n R (put2 M i k x (d 13) (d 15)) w0.heap.size
theorem J14.start {w0 : World} {g n i k : Nat} {R : Nat → Nat} {M : Nat → Nat → Bool} {x : Bool} {vs : Vs} {W : World} (hb : Below w0.heap.size w0 W) (hg : Grid W g n n R M w0.heap.size) : J14 w0 g n i k R M x (fun _ => false) vs  W.drew where
  b := hb.drew
  f0 := fun h => absurd h Bool.false_ne_true
  f1 := fun h => absurd h Bool.false_ne_true
  f2 := fun h => absurd h Bool.false_ne_true
  f3 := fun h => absurd h Bool.false_ne_true
  f4 := fun h => absurd h Bool.false_ne_true
  f5 := fun h => absurd h Bool.false_ne_true
  f6 := fun h => absurd h Bool.false_ne_true
  f7 := fun h => absurd h Bool.false_ne_true
  f8 := fun h => absurd h Bool.false_ne_true
  f9 := fun h => absurd h Bool.false_ne_true
  f10 := fun h => absurd h Bool.false_ne_true
  f11 := fun h => absurd h Bool.false_ne_true
  f12 := fun h => absurd h Bool.false_ne_true
  f14 := fun h => absurd h Bool.false_ne_true
  gr := by rw [put2_none]; exact hg.drew
theorem J14.s0 {w0 : World} {g n i k : Nat} {R : Nat → Nat} {M : Nat → Nat → Bool} {x : Bool} {d : Dn} {vs : Vs}  {w : World} (h : J14 w0 g n i k R M x d vs  w) (hd : d 0 = false)  : J14 w0 g n i k R M x (d.set 0) (vs.upd 0 (.slice (some ⟨g, 0, none⟩) n n))  (w) := by
  exact { b := h.b
          f0 := fun h0 => Vs.upd_same _ _ _
          f1 := fun h0 => by rw [Vs.upd_ne _ _ (by decide)]; exact (h.f1 (Dn.set_back (by decide) h0))
          f2 := fun h0 => by rw [Vs.upd_ne _ _ (by decide)]; exact (h.f2 (Dn.set_back (by decide) h0))
          f3 := fun h0 => by rw [Vs.upd_ne _ _ (by decide)]; exact (h.f3 (Dn.set_back (by decide) h0))
          f4 := fun h0 => by rw [Vs.upd_ne _ _ (by decide)]; exact (h.f4 (Dn.set_back (by decide) h0))
          f5 := fun h0 => by rw [Vs.upd_ne _ _ (by decide)]; exact (h.f5 (Dn.set_back (by decide) h0))
          f6 := fun h0 => by rw [Vs.upd_ne _ _ (by decide)]; exact (h.f6 (Dn.set_back (by decide) h0))
          f7 := fun h0 => by rw [Vs.upd_ne _ _ (by decide)]; exact (h.f7 (Dn.set_back (by decide) h0))
          f8 := fun h0 => by rw [Vs.upd_ne _ _ (by decide)]; exact (h.f8 (Dn.set_back (by decide) h0))
          f9 := fun h0 => by rw [Vs.upd_ne _ _ (by decide)]; exact (h.f9 (Dn.set_back (by decide) h0))
          f10 := fun h0 => by rw [Vs.upd_ne _ _ (by decide)]; exact (h.f10 (Dn.set_back (by decide) h0))
          f11 := fun h0 => by rw [Vs.upd_ne _ _ (by decide)]; exact (h.f11 (Dn.set_back (by decide) h0))
          f12 := fun h0 => by rw [Vs.upd_ne _ _ (by decide)]; exact (h.f12 (Dn.set_back (by decide) h0))
          f14 := fun h0 => by rw [Vs.upd_ne _ _ (by decide)]; exact (h.f14 (Dn.set_back (by decide) h0))
          gr := by rw [Dn.set_ne d (by decide), Dn.set_ne d (by decide)]; exact h.gr }
theorem J14.s1 {w0 : World} {g n i k : Nat} {R : Nat → Nat} {M : Nat → Nat → Bool} {x : Bool} {d : Dn} {vs : Vs}  {w : World} (h : J14 w0 g n i k R M x d vs  w) (hd : d 1 = false)  : J14 w0 g n i k R M x (d.set 1) (vs.upd 1 (.int .i64 i))  (w) := by
  exact { b := h.b
          f0 := fun h0 => by rw [Vs.upd_ne _ _ (by decide)]; exact (h.f0 (Dn.set_back (by decide) h0))
          f1 := fun h0 => Vs.upd_same _ _ _
          f2 := fun h0 => by rw [Vs.upd_ne _ _ (by decide)]; exact (h.f2 (Dn.set_back (by decide) h0))
          f3 := fun h0 => by rw [Vs.upd_ne _ _ (by decide)]; exact (h.f3 (Dn.set_back (by decide) h0))
          f4 := fun h0 => by rw [Vs.upd_ne _ _ (by decide)]; exact (h.f4 (Dn.set_back (by decide) h0))
          f5 := fun h0 => by rw [Vs.upd_ne _ _ (by decide)]; exact (h.f5 (Dn.set_back (by decide) h0))
          f6 := fun h0 => by rw [Vs.upd_ne _ _ (by decide)]; exact (h.f6 (Dn.set_back (by decide) h0))
          f7 := fun h0 => by rw [Vs.upd_ne _ _ (by decide)]; exact (h.f7 (Dn.set_back (by decide) h0))
          f8 := fun h0 => by rw [Vs.upd_ne _ _ (by decide)]; exact (h.f8 (Dn.set_back (by decide) h0))
          f9 := fun h0 => by rw [Vs.upd_ne _ _ (by decide)]; exact (h.f9 (Dn.set_back (by decide) h0))
          f10 := fun h0 => by rw [Vs.upd_ne _ _ (by decide)]; exact (h.f10 (Dn.set_back (by decide) h0))
          f11 := fun h0 => by rw [Vs.upd_ne _ _ (by decide)]; exact (h.f11 (Dn.set_back (by decide) h0))
          f12 := fun h0 => by rw [Vs.upd_ne _ _ (by decide)]; exact (h.f12 (Dn.set_back (by decide) h0))
          f14 := fun h0 => by rw [Vs.upd_ne _ _ (by decide)]; exact (h.f14 (Dn.set_back (by decide) h0))
          gr := by rw [Dn.set_ne d (by decide), Dn.set_ne d (by decide)]; exact h.gr }
theorem J14.s2 {w0 : World} {g n i k : Nat} {R : Nat → Nat} {M : Nat → Nat → Bool} {x : Bool} {d : Dn} {vs : Vs}  {w : World} (h : J14 w0 g n i k R M x d vs  w) (hd : d 2 = false)  : J14 w0 g n i k R M x (d.set 2) (vs.upd 2 (.pointer (some ⟨g, i, none⟩)))  (w) := by
  exact { b := h.b
          f0 := fun h0 => by rw [Vs.upd_ne _ _ (by decide)]; exact (h.f0 (Dn.set_back (by decide) h0))
          f1 := fun h0 => by rw [Vs.upd_ne _ _ (by decide)]; exact (h.f1 (Dn.set_back (by decide) h0))
          f2 := fun h0 => Vs.upd_same _ _ _
          f3 := fun h0 => by rw [Vs.upd_ne _ _ (by decide)]; exact (h.f3 (Dn.set_back (by decide) h0))
          f4 := fun h0 => by rw [Vs.upd_ne _ _ (by decide)]; exact (h.f4 (Dn.set_back (by decide) h0))
          f5 := fun h0 => by rw [Vs.upd_ne _ _ (by decide)]; exact (h.f5 (Dn.set_back (by decide) h0))
          f6 := fun h0 => by rw [Vs.upd_ne _ _ (by decide)]; exact (h.f6 (Dn.set_back (by decide) h0))
          f7 := fun h0 => by rw [Vs.upd_ne _ _ (by decide)]; exact (h.f7 (Dn.set_back (by decide) h0))
          f8 := fun h0 => by rw [Vs.upd_ne _ _ (by decide)]; exact (h.f8 (Dn.set_back (by decide) h0))
          f9 := fun h0 => by rw [Vs.upd_ne _ _ (by decide)]; exact (h.f9 (Dn.set_back (by decide) h0))
          f10 := fun h0 => by rw [Vs.upd_ne _ _ (by decide)]; exact (h.f10 (Dn.set_back (by decide) h0))
          f11 := fun h0 => by rw [Vs.upd_ne _ _ (by decide)]; exact (h.f11 (Dn.set_back (by decide) h0))
          f12 := fun h0 => by rw [Vs.upd_ne _ _ (by decide)]; exact (h.f12 (Dn.set_back (by decide) h0))
          f14 := fun h0 => by rw [Vs.upd_ne _ _ (by decide)]; exact (h.f14 (Dn.set_back (by decide) h0))
          gr := by rw [Dn.set_ne d (by decide), Dn.set_ne d (by decide)]; exact h.gr }
theorem J14.s3 {w0 : World} {g n i k : Nat} {R : Nat → Nat} {M : Nat → Nat → Bool} {x : Bool} {d : Dn} {vs : Vs}  {w : World} (h : J14 w0 g n i k R M x d vs  w) (hd : d 3 = false)  : J14 w0 g n i k R M x (d.set 3) (vs.upd 3 (.slice (some ⟨R i, 0, none⟩) n n))  (w) := by
  exact { b := h.b
          f0 := fun h0 => by rw [Vs.upd_ne _ _ (by decide)]; exact (h.f0 (Dn.set_back (by decide) h0))
          f1 := fun h0 => by rw [Vs.upd_ne _ _ (by decide)]; exact (h.f1 (Dn.set_back (by decide) h0))
          f2 := fun h0 => by rw [Vs.upd_ne _ _ (by decide)]; exact (h.f2 (Dn.set_back (by decide) h0))
          f3 := fun h0 => Vs.upd_same _ _ _
          f4 := fun h0 => by rw [Vs.upd_ne _ _ (by decide)]; exact (h.f4 (Dn.set_back (by decide) h0))
          f5 := fun h0 => by rw [Vs.upd_ne _ _ (by decide)]; exact (h.f5 (Dn.set_back (by decide) h0))
          f6 := fun h0 => by rw [Vs.upd_ne _ _ (by decide)]; exact (h.f6 (Dn.set_back (by decide) h0))
          f7 := fun h0 => by rw [Vs.upd_ne _ _ (by decide)]; exact (h.f7 (Dn.set_back (by decide) h0))
          f8 := fun h0 => by rw [Vs.upd_ne _ _ (by decide)]; exact (h.f8 (Dn.set_back (by decide) h0))
          f9 := fun h0 => by rw [Vs.upd_ne _ _ (by decide)]; exact (h.f9 (Dn.set_back (by decide) h0))
          f10 := fun h0 => by rw [Vs.upd_ne _ _ (by decide)]; exact (h.f10 (Dn.set_back (by decide) h0))
          f11 := fun h0 => by rw [Vs.upd_ne _ _ (by decide)]; exact (h.f11 (Dn.set_back (by decide) h0))
          f12 := fun h0 => by rw [Vs.upd_ne _ _ (by decide)]; exact (h.f12 (Dn.set_back (by decide) h0))
          f14 := fun h0 => by rw [Vs.upd_ne _ _ (by decide)]; exact (h.f14 (Dn.set_back (by decide) h0))
          gr := by rw [Dn.set_ne d (by decide), Dn.set_ne d (by decide)]; exact h.gr }
theorem J14.s4 {w0 : World} {g n i k : Nat} {R : Nat → Nat} {M : Nat → Nat → Bool} {x : Bool} {d : Dn} {vs : Vs}  {w : World} (h : J14 w0 g n i k R M x d vs  w) (hd : d 4 = false)  : J14 w0 g n i k R M x (d.set 4) (vs.upd 4 (.int .i64 k))  (w) := by
  exact { b := h.b
          f0 := fun h0 => by rw [Vs.upd_ne _ _ (by decide)]; exact (h.f0 (Dn.set_back (by decide) h0))
          f1 := fun h0 => by rw [Vs.upd_ne _ _ (by decide)]; exact (h.f1 (Dn.set_back (by decide) h0))
          f2 := fun h0 => by rw [Vs.upd_ne _ _ (by decide)]; exact (h.f2 (Dn.set_back (by decide) h0))
          f3 := fun h0 => by rw [Vs.upd_ne _ _ (by decide)]; exact (h.f3 (Dn.set_back (by decide) h0))
          f4 := fun h0 => Vs.upd_same _ _ _
          f5 := fun h0 => by rw [Vs.upd_ne _ _ (by decide)]; exact (h.f5 (Dn.set_back (by decide) h0))
          f6 := fun h0 => by rw [Vs.upd_ne _ _ (by decide)]; exact (h.f6 (Dn.set_back (by decide) h0))
          f7 := fun h0 => by rw [Vs.upd_ne _ _ (by decide)]; exact (h.f7 (Dn.set_back (by decide) h0))
          f8 := fun h0 => by rw [Vs.upd_ne _ _ (by decide)]; exact (h.f8 (Dn.set_back (by decide) h0))
          f9 := fun h0 => by rw [Vs.upd_ne _ _ (by decide)]; exact (h.f9 (Dn.set_back (by decide) h0))
          f10 := fun h0 => by rw [Vs.upd_ne _ _ (by decide)]; exact (h.f10 (Dn.set_back (by decide) h0))
          f11 := fun h0 => by rw [Vs.upd_ne _ _ (by decide)]; exact (h.f11 (Dn.set_back (by decide) h0))
          f12 := fun h0 => by rw [Vs.upd_ne _ _ (by decide)]; exact (h.f12 (Dn.set_back (by decide) h0))
          f14 := fun h0 => by rw [Vs.upd_ne _ _ (by decide)]; exact (h.f14 (Dn.set_back (by decide) h0))
          gr := by rw [Dn.set_ne d (by decide), Dn.set_ne d (by decide)]; exact h.gr }
theorem J14.s5 {w0 : World} {g n i k : Nat} {R : Nat → Nat} {M : Nat → Nat → Bool} {x : Bool} {d : Dn} {vs : Vs}  {w : World} (h : J14 w0 g n i k R M x d vs  w) (hd : d 5 = false)  : J14 w0 g n i k R M x (d.set 5) (vs.upd 5 (.slice (some ⟨g, 0, none⟩) n n))  (w) := by
  exact { b := h.b
          f0 := fun h0 => by rw [Vs.upd_ne _ _ (by decide)]; exact (h.f0 (Dn.set_back (by decide) h0))
          f1 := fun h0 => by rw [Vs.upd_ne _ _ (by decide)]; exact (h.f1 (Dn.set_back (by decide) h0))
          f2 := fun h0 => by rw [Vs.upd_ne _ _ (by decide)]; exact (h.f2 (Dn.set_back (by decide) h0))
          f3 := fun h0 => by rw [Vs.upd_ne _ _ (by decide)]; exact (h.f3 (Dn.set_back (by decide) h0))
          f4 := fun h0 => by rw [Vs.upd_ne _ _ (by decide)]; exact (h.f4 (Dn.set_back (by decide) h0))
          f5 := fun h0 => Vs.upd_same _ _ _
          f6 := fun h0 => by rw [Vs.upd_ne _ _ (by decide)]; exact (h.f6 (Dn.set_back (by decide) h0))
          f7 := fun h0 => by rw [Vs.upd_ne _ _ (by decide)]; exact (h.f7 (Dn.set_back (by decide) h0))
          f8 := fun h0 => by rw [Vs.upd_ne _ _ (by decide)]; exact (h.f8 (Dn.set_back (by decide) h0))
          f9 := fun h0 => by rw [Vs.upd_ne _ _ (by decide)]; exact (h.f9 (Dn.set_back (by decide) h0))
          f10 := fun h0 => by rw [Vs.upd_ne _ _ (by decide)]; exact (h.f10 (Dn.set_back (by decide) h0))
          f11 := fun h0 => by rw [Vs.upd_ne _ _ (by decide)]; exact (h.f11 (Dn.set_back (by decide) h0))
          f12 := fun h0 => by rw [Vs.upd_ne _ _ (by decide)]; exact (h.f12 (Dn.set_back (by decide) h0))
          f14 := fun h0 => by rw [Vs.upd_ne _ _ (by decide)]; exact (h.f14 (Dn.set_back (by decide) h0))
          gr := by rw [Dn.set_ne d (by decide), Dn.set_ne d (by decide)]; exact h.gr }
theorem J14.s6 {w0 : World} {g n i k : Nat} {R : Nat → Nat} {M : Nat → Nat → Bool} {x : Bool} {d : Dn} {vs : Vs}  {w : World} (h : J14 w0 g n i k R M x d vs  w) (hd : d 6 = false)  : J14 w0 g n i k R M x (d.set 6) (vs.upd 6 (.int .i64 k))  (w) := by
  exact { b := h.b
          f0 := fun h0 => by rw [Vs.upd_ne _ _ (by decide)]; exact (h.f0 (Dn.set_back (by decide) h0))
          f1 := fun h0 => by rw [Vs.upd_ne _ _ (by decide)]; exact (h.f1 (Dn.set_back (by decide) h0))
          f2 := fun h0 => by rw [Vs.upd_ne _ _ (by decide)]; exact (h.f2 (Dn.set_back (by decide) h0))
          f3 := fun h0 => by rw [Vs.upd_ne _ _ (by decide)]; exact (h.f3 (Dn.set_back (by decide) h0))
          f4 := fun h0 => by rw [Vs.upd_ne _ _ (by decide)]; exact (h.f4 (Dn.set_back (by decide) h0))
          f5 := fun h0 => by rw [Vs.upd_ne _ _ (by decide)]; exact (h.f5 (Dn.set_back (by decide) h0))
          f6 := fun h0 => Vs.upd_same _ _ _
          f7 := fun h0 => by rw [Vs.upd_ne _ _ (by decide)]; exact (h.f7 (Dn.set_back (by decide) h0))
          f8 := fun h0 => by rw [Vs.upd_ne _ _ (by decide)]; exact (h.f8 (Dn.set_back (by decide) h0))
          f9 := fun h0 => by rw [Vs.upd_ne _ _ (by decide)]; exact (h.f9 (Dn.set_back (by decide) h0))
          f10 := fun h0 => by rw [Vs.upd_ne _ _ (by decide)]; exact (h.f10 (Dn.set_back (by decide) h0))
          f11 := fun h0 => by rw [Vs.upd_ne _ _ (by decide)]; exact (h.f11 (Dn.set_back (by decide) h0))
          f12 := fun h0 => by rw [Vs.upd_ne _ _ (by decide)]; exact (h.f12 (Dn.set_back (by decide) h0))
          f14 := fun h0 => by rw [Vs.upd_ne _ _ (by decide)]; exact (h.f14 (Dn.set_back (by decide) h0))
          gr := by rw [Dn.set_ne d (by decide), Dn.set_ne d (by decide)]; exact h.gr }
theorem J14.s7 {w0 : World} {g n i k : Nat} {R : Nat → Nat} {M : Nat → Nat → Bool} {x : Bool} {d : Dn} {vs : Vs}  {w : World} (h : J14 w0 g n i k R M x d vs  w) (hd : d 7 = false)  : J14 w0 g n i k R M x (d.set 7) (vs.upd 7 (.pointer (some ⟨g, k, none⟩)))  (w) := by
  exact { b := h.b
          f0 := fun h0 => by rw [Vs.upd_ne _ _ (by decide)]; exact (h.f0 (Dn.set_back (by decide) h0))
          f1 := fun h0 => by rw [Vs.upd_ne _ _ (by decide)]; exact (h.f1 (Dn.set_back (by decide) h0))
          f2 := fun h0 => by rw [Vs.upd_ne _ _ (by decide)]; exact (h.f2 (Dn.set_back (by decide) h0))
          f3 := fun h0 => by rw [Vs.upd_ne _ _ (by decide)]; exact (h.f3 (Dn.set_back (by decide) h0))
          f4 := fun h0 => by rw [Vs.upd_ne _ _ (by decide)]; exact (h.f4 (Dn.set_back (by decide) h0))
          f5 := fun h0 => by rw [Vs.upd_ne _ _ (by decide)]; exact (h.f5 (Dn.set_back (by decide) h0))
          f6 := fun h0 => by rw [Vs.upd_ne _ _ (by decide)]; exact (h.f6 (Dn.set_back (by decide) h0))
          f7 := fun h0 => Vs.upd_same _ _ _
          f8 := fun h0 => by rw [Vs.upd_ne _ _ (by decide)]; exact (h.f8 (Dn.set_back (by decide) h0))
          f9 := fun h0 => by rw [Vs.upd_ne _ _ (by decide)]; exact (h.f9 (Dn.set_back (by decide) h0))
          f10 := fun h0 => by rw [Vs.upd_ne _ _ (by decide)]; exact (h.f10 (Dn.set_back (by decide) h0))
          f11 := fun h0 => by rw [Vs.upd_ne _ _ (by decide)]; exact (h.f11 (Dn.set_back (by decide) h0))
          f12 := fun h0 => by rw [Vs.upd_ne _ _ (by decide)]; exact (h.f12 (Dn.set_back (by decide) h0))
          f14 := fun h0 => by rw [Vs.upd_ne _ _ (by decide)]; exact (h.f14 (Dn.set_back (by decide) h0))
          gr := by rw [Dn.set_ne d (by decide), Dn.set_ne d (by decide)]; exact h.gr }
theorem J14.s8 {w0 : World} {g n i k : Nat} {R : Nat → Nat} {M : Nat → Nat → Bool} {x : Bool} {d : Dn} {vs : Vs}  {w : World} (h : J14 w0 g n i k R M x d vs  w) (hd : d 8 = false)  : J14 w0 g n i k R M x (d.set 8) (vs.upd 8 (.slice (some ⟨R k, 0, none⟩) n n))  (w) := by
  exact { b := h.b
          f0 := fun h0 => by rw [Vs.upd_ne _ _ (by decide)]; exact (h.f0 (Dn.set_back (by decide) h0))
          f1 := fun h0 => by rw [Vs.upd_ne _ _ (by decide)]; exact (h.f1 (Dn.set_back (by decide) h0))
          f2 := fun h0 => by rw [Vs.upd_ne _ _ (by decide)]; exact (h.f2 (Dn.set_back (by decide) h0))
          f3 := fun h0 => by rw [Vs.upd_ne _ _ (by decide)]; exact (h.f3 (Dn.set_back (by decide) h0))
          f4 := fun h0 => by rw [Vs.upd_ne _ _ (by decide)]; exact (h.f4 (Dn.set_back (by decide) h0))
          f5 := fun h0 => by rw [Vs.upd_ne _ _ (by decide)]; exact (h.f5 (Dn.set_back (by decide) h0))
          f6 := fun h0 => by rw [Vs.upd_ne _ _ (by decide)]; exact (h.f6 (Dn.set_back (by decide) h0))
          f7 := fun h0 => by rw [Vs.upd_ne _ _ (by decide)]; exact (h.f7 (Dn.set_back (by decide) h0))
          f8 := fun h0 => Vs.upd_same _ _ _
          f9 := fun h0 => by rw [Vs.upd_ne _ _ (by decide)]; exact (h.f9 (Dn.set_back (by decide) h0))
          f10 := fun h0 => by rw [Vs.upd_ne _ _ (by decide)]; exact (h.f10 (Dn.set_back (by decide) h0))
          f11 := fun h0 => by rw [Vs.upd_ne _ _ (by decide)]; exact (h.f11 (Dn.set_back (by decide) h0))
          f12 := fun h0 => by rw [Vs.upd_ne _ _ (by decide)]; exact (h.f12 (Dn.set_back (by decide) h0))
          f14 := fun h0 => by rw [Vs.upd_ne _ _ (by decide)]; exact (h.f14 (Dn.set_back (by decide) h0))
          gr := by rw [Dn.set_ne d (by decide), Dn.set_ne d (by decide)]; exact h.gr }
theorem J14.s9 {w0 : World} {g n i k : Nat} {R : Nat → Nat} {M : Nat → Nat → Bool} {x : Bool} {d : Dn} {vs : Vs}  {w : World} (h : J14 w0 g n i k R M x d vs  w) (hd : d 9 = false)  : J14 w0 g n i k R M x (d.set 9) (vs.upd 9 (.int .i64 i))  (w) := by
  exact { b := h.b
          f0 := fun h0 => by rw [Vs.upd_ne _ _ (by decide)]; exact (h.f0 (Dn.set_back (by decide) h0))
          f1 := fun h0 => by rw [Vs.upd_ne _ _ (by decide)]; exact (h.f1 (Dn.set_back (by decide) h0))
          f2 := fun h0 => by rw [Vs.upd_ne _ _ (by decide)]; exact (h.f2 (Dn.set_back (by decide) h0))
          f3 := fun h0 => by rw [Vs.upd_ne _ _ (by decide)]; exact (h.f3 (Dn.set_back (by decide) h0))
          f4 := fun h0 => by rw [Vs.upd_ne _ _ (by decide)]; exact (h.f4 (Dn.set_back (by decide) h0))
          f5 := fun h0 => by rw [Vs.upd_ne _ _ (by decide)]; exact (h.f5 (Dn.set_back (by decide) h0))
          f6 := fun h0 => by rw [Vs.upd_ne _ _ (by decide)]; exact (h.f6 (Dn.set_back (by decide) h0))
          f7 := fun h0 => by rw [Vs.upd_ne _ _ (by decide)]; exact (h.f7 (Dn.set_back (by decide) h0))
          f8 := fun h0 => by rw [Vs.upd_ne _ _ (by decide)]; exact (h.f8 (Dn.set_back (by decide) h0))
          f9 := fun h0 => Vs.upd_same _ _ _
          f10 := fun h0 => by rw [Vs.upd_ne _ _ (by decide)]; exact (h.f10 (Dn.set_back (by decide) h0))
          f11 := fun h0 => by rw [Vs.upd_ne _ _ (by decide)]; exact (h.f11 (Dn.set_back (by decide) h0))
          f12 := fun h0 => by rw [Vs.upd_ne _ _ (by decide)]; exact (h.f12 (Dn.set_back (by decide) h0))
          f14 := fun h0 => by rw [Vs.upd_ne _ _ (by decide)]; exact (h.f14 (Dn.set_back (by decide) h0))
          gr := by rw [Dn.set_ne d (by decide), Dn.set_ne d (by decide)]; exact h.gr }
theorem J14.s10 {w0 : World} {g n i k : Nat} {R : Nat → Nat} {M : Nat → Nat → Bool} {x : Bool} {d : Dn} {vs : Vs}  {w : World} (h : J14 w0 g n i k R M x d vs  w) (hd : d 10 = false)  : J14 w0 g n i k R M x (d.set 10) (vs.upd 10 (.bool x))  (w) := by
  exact { b := h.b
          f0 := fun h0 => by rw [Vs.upd_ne _ _ (by decide)]; exact (h.f0 (Dn.set_back (by decide) h0))
          f1 := fun h0 => by rw [Vs.upd_ne _ _ (by decide)]; exact (h.f1 (Dn.set_back (by decide) h0))
          f2 := fun h0 => by rw [Vs.upd_ne _ _ (by decide)]; exact (h.f2 (Dn.set_back (by decide) h0))
          f3 := fun h0 => by rw [Vs.upd_ne _ _ (by decide)]; exact (h.f3 (Dn.set_back (by decide) h0))
          f4 := fun h0 => by rw [Vs.upd_ne _ _ (by decide)]; exact (h.f4 (Dn.set_back (by decide) h0))
          f5 := fun h0 => by rw [Vs.upd_ne _ _ (by decide)]; exact (h.f5 (Dn.set_back (by decide) h0))
          f6 := fun h0 => by rw [Vs.upd_ne _ _ (by decide)]; exact (h.f6 (Dn.set_back (by decide) h0))
          f7 := fun h0 => by rw [Vs.upd_ne _ _ (by decide)]; exact (h.f7 (Dn.set_back (by decide) h0))
          f8 := fun h0 => by rw [Vs.upd_ne _ _ (by decide)]; exact (h.f8 (Dn.set_back (by decide) h0))
          f9 := fun h0 => by rw [Vs.upd_ne _ _ (by decide)]; exact (h.f9 (Dn.set_back (by decide) h0))
          f10 := fun h0 => Vs.upd_same _ _ _
          f11 := fun h0 => by rw [Vs.upd_ne _ _ (by decide)]; exact (h.f11 (Dn.set_back (by decide) h0))
          f12 := fun h0 => by rw [Vs.upd_ne _ _ (by decide)]; exact (h.f12 (Dn.set_back (by decide) h0))
          f14 := fun h0 => by rw [Vs.upd_ne _ _ (by decide)]; exact (h.f14 (Dn.set_back (by decide) h0))
          gr := by rw [Dn.set_ne d (by decide), Dn.set_ne d (by decide)]; exact h.gr }
theorem J14.s11 {w0 : World} {g n i k : Nat} {R : Nat → Nat} {M : Nat → Nat → Bool} {x : Bool} {d : Dn} {vs : Vs}  {w : World} (h : J14 w0 g n i k R M x d vs  w) (hd : d 11 = false)  : J14 w0 g n i k R M x (d.set 11) (vs.upd 11 (.bool x))  (w) := by
  exact { b := h.b
          f0 := fun h0 => by rw [Vs.upd_ne _ _ (by decide)]; exact (h.f0 (Dn.set_back (by decide) h0))
          f1 := fun h0 => by rw [Vs.upd_ne _ _ (by decide)]; exact (h.f1 (Dn.set_back (by decide) h0))
          f2 := fun h0 => by rw [Vs.upd_ne _ _ (by decide)]; exact (h.f2 (Dn.set_back (by decide) h0))
          f3 := fun h0 => by rw [Vs.upd_ne _ _ (by decide)]; exact (h.f3 (Dn.set_back (by decide) h0))
          f4 := fun h0 => by rw [Vs.upd_ne _ _ (by decide)]; exact (h.f4 (Dn.set_back (by decide) h0))
          f5 := fun h0 => by rw [Vs.upd_ne _ _ (by decide)]; exact (h.f5 (Dn.set_back (by decide) h0))
          f6 := fun h0 => by rw [Vs.upd_ne _ _ (by decide)]; exact (h.f6 (Dn.set_back (by decide) h0))
          f7 := fun h0 => by rw [Vs.upd_ne _ _ (by decide)]; exact (h.f7 (Dn.set_back (by decide) h0))
          f8 := fun h0 => by rw [Vs.upd_ne _ _ (by decide)]; exact (h.f8 (Dn.set_back (by decide) h0))
          f9 := fun h0 => by rw [Vs.upd_ne _ _ (by decide)]; exact (h.f9 (Dn.set_back (by decide) h0))
          f10 := fun h0 => by rw [Vs.upd_ne _ _ (by decide)]; exact (h.f10 (Dn.set_back (by decide) h0))
          f11 := fun h0 => Vs.upd_same _ _ _
          f12 := fun h0 => by rw [Vs.upd_ne _ _ (by decide)]; exact (h.f12 (Dn.set_back (by decide) h0))
          f14 := fun h0 => by rw [Vs.upd_ne _ _ (by decide)]; exact (h.f14 (Dn.set_back (by decide) h0))
          gr := by rw [Dn.set_ne d (by decide), Dn.set_ne d (by decide)]; exact h.gr }
theorem J14.s12 {w0 : World} {g n i k : Nat} {R : Nat → Nat} {M : Nat → Nat → Bool} {x : Bool} {d : Dn} {vs : Vs}  {w : World} (h : J14 w0 g n i k R M x d vs  w) (hd : d 12 = false)  : J14 w0 g n i k R M x (d.set 12) (vs.upd 12 (.pointer (some ⟨R i, k, none⟩)))  (w) := by
  exact { b := h.b
          f0 := fun h0 => by rw [Vs.upd_ne _ _ (by decide)]; exact (h.f0 (Dn.set_back (by decide) h0))
          f1 := fun h0 => by rw [Vs.upd_ne _ _ (by decide)]; exact (h.f1 (Dn.set_back (by decide) h0))
          f2 := fun h0 => by rw [Vs.upd_ne _ _ (by decide)]; exact (h.f2 (Dn.set_back (by decide) h0))
          f3 := fun h0 => by rw [Vs.upd_ne _ _ (by decide)]; exact (h.f3 (Dn.set_back (by decide) h0))
          f4 := fun h0 => by rw [Vs.upd_ne _ _ (by decide)]; exact (h.f4 (Dn.set_back (by decide) h0))
          f5 := fun h0 => by rw [Vs.upd_ne _ _ (by decide)]; exact (h.f5 (Dn.set_back (by decide) h0))
          f6 := fun h0 => by rw [Vs.upd_ne _ _ (by decide)]; exact (h.f6 (Dn.set_back (by decide) h0))
          f7 := fun h0 => by rw [Vs.upd_ne _ _ (by decide)]; exact (h.f7 (Dn.set_back (by decide) h0))
          f8 := fun h0 => by rw [Vs.upd_ne _ _ (by decide)]; exact (h.f8 (Dn.set_back (by decide) h0))
          f9 := fun h0 => by rw [Vs.upd_ne _ _ (by decide)]; exact (h.f9 (Dn.set_back (by decide) h0))
          f10 := fun h0 => by rw [Vs.upd_ne _ _ (by decide)]; exact (h.f10 (Dn.set_back (by decide) h0))
          f11 := fun h0 => by rw [Vs.upd_ne _ _ (by decide)]; exact (h.f11 (Dn.set_back (by decide) h0))
          f12 := fun h0 => Vs.upd_same _ _ _
          f14 := fun h0 => by rw [Vs.upd_ne _ _ (by decide)]; exact (h.f14 (Dn.set_back (by decide) h0))
          gr := by rw [Dn.set_ne d (by decide), Dn.set_ne d (by decide)]; exact h.gr }
theorem J14.s14 {w0 : World} {g n i k : Nat} {R : Nat → Nat} {M : Nat → Nat → Bool} {x : Bool} {d : Dn} {vs : Vs}  {w : World} (h : J14 w0 g n i k R M x d vs  w) (hd : d 14 = false)  : J14 w0 g n i k R M x (d.set 14) (vs.upd 14 (.pointer (some ⟨R k, i, none⟩)))  (w) := by
  exact { b := h.b
          f0 := fun h0 => by rw [Vs.upd_ne _ _ (by decide)]; exact (h.f0 (Dn.set_back (by decide) h0))
          f1 := fun h0 => by rw [Vs.upd_ne _ _ (by decide)]; exact (h.f1 (Dn.set_back (by decide) h0))
          f2 := fun h0 => by rw [Vs.upd_ne _ _ (by decide)]; exact (h.f2 (Dn.set_back (by decide) h0))
          f3 := fun h0 => by rw [Vs.upd_ne _ _ (by decide)]; exact (h.f3 (Dn.set_back (by decide) h0))
          f4 := fun h0 => by rw [Vs.upd_ne _ _ (by decide)]; exact (h.f4 (Dn.set_back (by decide) h0))
          f5 := fun h0 => by rw [Vs.upd_ne _ _ (by decide)]; exact (h.f5 (Dn.set_back (by decide) h0))
          f6 := fun h0 => by rw [Vs.upd_ne _ _ (by decide)]; exact (h.f6 (Dn.set_back (by decide) h0))
          f7 := fun h0 => by rw [Vs.upd_ne _ _ (by decide)]; exact (h.f7 (Dn.set_back (by decide) h0))
          f8 := fun h0 => by rw [Vs.upd_ne _ _ (by decide)]; exact (h.f8 (Dn.set_back (by decide) h0))
          f9 := fun h0 => by rw [Vs.upd_ne _ _ (by decide)]; exact (h.f9 (Dn.set_back (by decide) h0))
          f10 := fun h0 => by rw [Vs.upd_ne _ _ (by decide)]; exact (h.f10 (Dn.set_back (by decide) h0))
          f11 := fun h0 => by rw [Vs.upd_ne _ _ (by decide)]; exact (h.f11 (Dn.set_back (by decide) h0))
          f12 := fun h0 => by rw [Vs.upd_ne _ _ (by decide)]; exact (h.f12 (Dn.set_back (by decide) h0))
          f14 := fun h0 => Vs.upd_same _ _ _
          gr := by rw [Dn.set_ne d (by decide), Dn.set_ne d (by decide)]; exact h.gr }
theorem J14.s13 {w0 : World} {g n i k : Nat} {R : Nat → Nat} {M : Nat → Nat → Bool} {x : Bool} {d : Dn} {vs : Vs}  {w : World} (h : J14 w0 g n i k R M x d vs  w) (hd : d 13 = false) (hi : i < n) (hk : k < n) : J14 w0 g n i k R M x (d.set 13) (vs.upd 13 (undef))  (w.setCell ⟨R i, k, none⟩ (.bool x)) := by
  exact { b := h.b.setCell (p := ⟨R i, k, none⟩) (h.gr.lo i hi) _
          f0 := fun h0 => by rw [Vs.upd_ne _ _ (by decide)]; exact (h.f0 (Dn.set_back (by decide) h0))
          f1 := fun h0 => by rw [Vs.upd_ne _ _ (by decide)]; exact (h.f1 (Dn.set_back (by decide) h0))
          f2 := fun h0 => by rw [Vs.upd_ne _ _ (by decide)]; exact (h.f2 (Dn.set_back (by decide) h0))
          f3 := fun h0 => by rw [Vs.upd_ne _ _ (by decide)]; exact (h.f3 (Dn.set_back (by decide) h0))
          f4 := fun h0 => by rw [Vs.upd_ne _ _ (by decide)]; exact (h.f4 (Dn.set_back (by decide) h0))
          f5 := fun h0 => by rw [Vs.upd_ne _ _ (by decide)]; exact (h.f5 (Dn.set_back (by decide) h0))
          f6 := fun h0 => by rw [Vs.upd_ne _ _ (by decide)]; exact (h.f6 (Dn.set_back (by decide) h0))
          f7 := fun h0 => by rw [Vs.upd_ne _ _ (by decide)]; exact (h.f7 (Dn.set_back (by decide) h0))
          f8 := fun h0 => by rw [Vs.upd_ne _ _ (by decide)]; exact (h.f8 (Dn.set_back (by decide) h0))
          f9 := fun h0 => by rw [Vs.upd_ne _ _ (by decide)]; exact (h.f9 (Dn.set_back (by decide) h0))
          f10 := fun h0 => by rw [Vs.upd_ne _ _ (by decide)]; exact (h.f10 (Dn.set_back (by decide) h0))
          f11 := fun h0 => by rw [Vs.upd_ne _ _ (by decide)]; exact (h.f11 (Dn.set_back (by decide) h0))
          f12 := fun h0 => by rw [Vs.upd_ne _ _ (by decide)]; exact (h.f12 (Dn.set_back (by decide) h0))
          f14 := fun h0 => by rw [Vs.upd_ne _ _ (by decide)]; exact (h.f14 (Dn.set_back (by decide) h0))
          gr := by rw [Dn.set_same, Dn.set_ne d (show 15 ≠ 13 by decide), ← put2_fst, ← hd]; exact h.gr.set hi hk x }
theorem J14.s15 {w0 : World} {g n i k : Nat} {R : Nat → Nat} {M : Nat → Nat → Bool} {x : Bool} {d : Dn} {vs : Vs}  {w : World} (h : J14 w0 g n i k R M x d vs  w) (hd : d 15 = false) (hi : i < n) (hk : k < n) : J14 w0 g n i k R M x (d.set 15) (vs.upd 15 (undef))  (w.setCell ⟨R k, i, none⟩ (.bool x)) := by
  exact { b := h.b.setCell (p := ⟨R k, i, none⟩) (h.gr.lo k hk) _
          f0 := fun h0 => by rw [Vs.upd_ne _ _ (by decide)]; exact (h.f0 (Dn.set_back (by decide) h0))
          f1 := fun h0 => by rw [Vs.upd_ne _ _ (by decide)]; exact (h.f1 (Dn.set_back (by decide) h0))
          f2 := fun h0 => by rw [Vs.upd_ne _ _ (by decide)]; exact (h.f2 (Dn.set_back (by decide) h0))
          f3 := fun h0 => by rw [Vs.upd_ne _ _ (by decide)]; exact (h.f3 (Dn.set_back (by decide) h0))
          f4 := fun h0 => by rw [Vs.upd_ne _ _ (by decide)]; exact (h.f4 (Dn.set_back (by decide) h0))
          f5 := fun h0 => by rw [Vs.upd_ne _ _ (by decide)]; exact (h.f5 (Dn.set_back (by decide) h0))
          f6 := fun h0 => by rw [Vs.upd_ne _ _ (by decide)]; exact (h.f6 (Dn.set_back (by decide) h0))
          f7 := fun h0 => by rw [Vs.upd_ne _ _ (by decide)]; exact (h.f7 (Dn.set_back (by decide) h0))
          f8 := fun h0 => by rw [Vs.upd_ne _ _ (by decide)]; exact (h.f8 (Dn.set_back (by decide) h0))
          f9 := fun h0 => by rw [Vs.upd_ne _ _ (by decide)]; exact (h.f9 (Dn.set_back (by decide) h0))
          f10 := fun h0 => by rw [Vs.upd_ne _ _ (by decide)]; exact (h.f10 (Dn.set_back (by decide) h0))
          f11 := fun h0 => by rw [Vs.upd_ne _ _ (by decide)]; exact (h.f11 (Dn.set_back (by decide) h0))
          f12 := fun h0 => by rw [Vs.upd_ne _ _ (by decide)]; exact (h.f12 (Dn.set_back (by decide) h0))
          f14 := fun h0 => by rw [Vs.upd_ne _ _ (by decide)]; exact (h.f14 (Dn.set_back (by decide) h0))
          gr := by rw [Dn.set_same, Dn.set_ne d (show 13 ≠ 15 by decide), ← put2_snd, ← hd]; exact h.gr.set hk hi x }
def SymPost (H : List (List Bool)) (n : Nat) (w : World) (e : Ending) (w' : World) : Prop := ∃ a, e = .returned (.slice a n n) ∧ TabAt w' a (symV H n) ∧ Below w.heap.size w w'
set_option maxRecDepth 100000 in
set_option maxHeartbeats 4000000 in
theorem sym_at2 (H : List (List Bool)) (m n : Nat) (a : Option Addr) (ca : Nat) (w : World) (hm : Hid (m = H.length)) (hl : TabAt w a H) (hm2 : m ≤ maxLen) (hn : n ≤ 12) : Calls Try.prog 20 #[.slice a m ca, .int .i64 n] w (SymPost H n w) := by
  unfold maxLen at hm2
  have hmk := make_rows n (by omega) w
  go_enter Try.func20, Try.ntmps20
  go_wp2_with fail
  clear hmk
  have G0 := Grid.start w n (fun _ => 0) (fun _ _ => false) w.heap.size (Nat.le_refl _)
  have BB : Below w.heap.size w (w.alloc (.cells (Array.replicate n (.slice none 0 0)) 66)) := ball (Below.refl _ _) _
  obtain ⟨V, hV⟩ : ∃ V, w.alloc (.cells (Array.replicate n (.slice none 0 0)) 66) = V := ⟨_, rfl⟩
  rw [hV] at G0 BB ⊢
  clear hV
  obtain ⟨g, hg⟩ : ∃ g, w.heap.size = g := ⟨_, rfl⟩
  have HG := Lib.hid hg
  have hsz := BB.size
  rw [show Grid V w.heap.size n 0 (fun _ => 0) (fun _ _ => false) w.heap.size = Grid V g n 0 (fun _ => 0) (fun _ _ => false) w.heap.size from by rw [hg]] at G0
  rw [hg] at ⊢
  clear hg
  go_loopw [14] (fun i wr => ∃ (j : Nat) (R : Nat → Nat), j ≤ n ∧ i = .int .i64 j ∧ Hid (Grid wr g n j R (fun _ _ => false) w.heap.size) ∧ Below w.heap.size w wr) (fun i _ => n - (intOf i).toNat)
  case atStart => exact ⟨0, fun _ => 0, Nat.zero_le _, rfl, Lib.hid G0, BB⟩
  case round =>
    clear BB G0 hsz
    obtain ⟨j, R, hj, rfl, G, BB⟩ := hrel
    by_cases hlt : j < n
    · have hlt' : (j : Int) < (n : Int) := by omega
      have hj0 : (0 : Int) ≤ (j : Int) := by omega
      have hmk := make_bools n (by omega) wr
      have c0 := G.out.nul j (Nat.le_refl _) hlt
      have f0 := G.out.fzg.1 j
      have hgl := G.out.fzg.2
      go_wp2_with fail
      have G1 := G.out.push hlt BB.size
      have B1 : Below w.heap.size w ((wr.alloc (.cells (Array.replicate n (.bool false)) 4)).setCell ⟨g, j, none⟩ (.slice (some ⟨wr.heap.size, 0, none⟩) n n)) := (ball BB _).setCell (p := ⟨g, j, none⟩) G.out.lg _
      rw [World.setCell_alloc_past _ _ _ _ hgl] at G1 B1
      have G2 := Lib.hid G1
      clear hmk c0 f0 hgl G G1
      go_roundw
      case rel => exact ⟨j + 1, _, by omega, by go_num, G2, B1⟩
      case measure => simp [intOf]; omega
    · obtain rfl : n = j := by omega
      have hlt' : ¬ (n : Int) < (n : Int) := by omega
      replace G : Hid (Grid wr g n n R (symM H 0 0) w.heap.size) := Lib.hid (by rw [symM_zero]; exact G.out)
      go_wp2_with fail
      go_loopw [24] (fun i wr => ∃ (j : Nat), j ≤ n ∧ i = .int .i64 j ∧ Hid (Grid wr g n n R (symM H j 0) w.heap.size) ∧ Below w.heap.size w wr) (fun i _ => n - (intOf i).toNat)
      case atStart => exact ⟨0, Nat.zero_le _, rfl, G, BB⟩
      case round =>
        clear BB G
        obtain ⟨i, hi, rfl, G, BB⟩ := hrel
        by_cases hit : i < n
        · have hit' : (i : Int) < (n : Int) := by omega
          have hi0 : (0 : Int) ≤ (i : Int) := by omega
          go_wp2_with fail
          go_loopw [28] (fun q wr => ∃ (k : Nat), k ≤ i ∧ q = .int .i64 k ∧ Hid (Grid wr g n n R (symM H i k) w.heap.size) ∧ Below w.heap.size w wr) (fun q _ => i - (intOf q).toNat)
          case atStart => exact ⟨0, Nat.zero_le _, rfl, G, BB⟩
          case round =>
            clear BB G
            obtain ⟨k, hk, rfl, G, BB⟩ := hrel
            by_cases hkt : k < i
            · have hkt' : (k : Int) < (i : Int) := by omega
              have hk0 : (0 : Int) ≤ (k : Int) := by omega
              have hkn : (k : Int) < (n : Int) := by omega
              obtain ⟨x, hx⟩ : ∃ x, tabB H i k = x := ⟨_, rfl⟩
              have HX := Lib.hid hx
              have HS : Hid (upd2 (upd2 (symM H i k) i k x) k i x = symM H i (k + 1)) := Lib.hid (symM_set H hkt hx)
              clear hx
              go_upto_region 13 with (fail)
              go_cut [9] (fun s9 wx => s9 = .bool x ∧ wx = wr)
              case first =>
                by_cases him : i < m
                · have him' : (i : Int) < (m : Int) := by omega
                  obtain ⟨b, off, ra, rc, rfl, r0, hr, -, -⟩ := hl.at BB (i := i) (by rw [← hm.out]; exact him)
                  obtain ⟨q, hq⟩ : ∃ q, (H.getD i []).length = q := ⟨_, rfl⟩
                  rw [hq] at r0
                  by_cases hkq : k < q
                  · have hkq' : (k : Int) < (q : Int) := by omega
                    obtain ⟨b2, o2, rfl, d0⟩ := hr.at (Below.refl _ _) (i := k) (by rw [hq]; exact hkq)
                    have hxx : (H.getD i []).getD k false = x := HX.out
                    rw [hxx] at d0
                    clear hxx hq hr
                    cases x
                    all_goals
                      go_wp2_with fail
                      go_meet
                      exact ⟨rfl, rfl⟩
                  · have hkq' : ¬ (k : Int) < (q : Int) := by omega
                    have hkq2 : decide (k < q) = false := by simp; omega
                    have hxx : (H.getD i []).getD k false = x := HX.out
                    have hxf : x = false := by rw [← hxx, List.getD_eq_getElem?_getD, List.getElem?_eq_none (by omega)]; rfl
                    subst hxf
                    clear hxx hq hr
                    go_wp2_with fail
                    go_meet
                    exact ⟨rfl, rfl⟩
                · have him' : ¬ (i : Int) < (m : Int) := by omega
                  have him2 : decide (i < m) = false := by simp; omega
                  have hxx : (H.getD i []).getD k false = x := HX.out
                  have hxf : x = false := by rw [← hxx, List.getD_eq_getElem?_getD (l := H), List.getElem?_eq_none (by rw [← hm.out]; omega)]; rfl
                  subst hxf
                  clear hxx
                  go_wp2_with fail
                  go_meet
                  exact ⟨rfl, rfl⟩
              case rest =>
                obtain ⟨rfl, rfl⟩ := hcut
                have hin : i < n := hit
                have hkn2 : k < n := by omega
                go_upto_region 14 with (fail)
                refine wp_region_steps (by kernel_rfl) (by kernel_rfl) (fun d vs w' => J14 w g n i k R (symM H i k) x d vs w') (J14.start BB G.out) ?hs ?hend
                case hs =>
                  refine ⟨stepJ_of rfl ?_, stepJ_of rfl ?_, stepJ_of rfl ?_, stepJ_of rfl ?_, stepJ_of rfl ?_, stepJ_of rfl ?_, stepJ_of rfl ?_, stepJ_of rfl ?_, stepJ_of rfl ?_, stepJ_of rfl ?_, stepJ_of rfl ?_, stepJ_of rfl ?_, stepJ_of rfl ?_, stepJ_of rfl ?_, stepJ_of rfl ?_, stepJ_of rfl ?_, trivial⟩
                  all_goals rintro d vs w' hJ hd hp b' hb K hK
                  ·
                    have e5 : b'.tmps.getD 5 undef = .slice (some ⟨g, 0, none⟩) n n := hb.old 5 (by kernel_rfl)
                    go_simp
                    exact hK _ _ _ rfl (hJ.s0 hd)
                  ·
                    have e5 : b'.tmps.getD 7 undef = .int .i64 i := hb.old 7 (by kernel_rfl)
                    go_simp
                    exact hK _ _ _ rfl (hJ.s1 hd)
                  ·
                    have p0 : d 0 = true := hp ⟨0, .data⟩ (by simp) rfl
                    have p1 : d 1 = true := hp ⟨1, .data⟩ (by simp) rfl
                    have g53 : b'.tmps.getD 53 undef = .slice (some ⟨g, 0, none⟩) n n := hb.at 0 53 rfl (by show (53:Nat) < 70; decide) p0 (hJ.f0 p0)
                    have g54 : b'.tmps.getD 54 undef = .int .i64 i := hb.at 1 54 rfl (by show (54:Nat) < 70; decide) p1 (hJ.f1 p1)
                    go_simp
                    exact hK _ _ _ rfl (hJ.s2 hd)
                  ·
                    have p2 : d 2 = true := hp ⟨2, .data⟩ (by simp) rfl
                    have g55 : b'.tmps.getD 55 undef = .pointer (some ⟨g, i, none⟩) := hb.at 2 55 rfl (by show (55:Nat) < 70; decide) p2 (hJ.f2 p2)
                    have c0 := hJ.gr.row i hin
                    go_simp
                    exact hK _ _ _ rfl (hJ.s3 hd)
                  ·
                    have e5 : b'.tmps.getD 8 undef = .int .i64 k := hb.old 8 (by kernel_rfl)
                    go_simp
                    exact hK _ _ _ rfl (hJ.s4 hd)
                  ·
                    have e5 : b'.tmps.getD 5 undef = .slice (some ⟨g, 0, none⟩) n n := hb.old 5 (by kernel_rfl)
                    go_simp
                    exact hK _ _ _ rfl (hJ.s5 hd)
                  ·
                    have e5 : b'.tmps.getD 8 undef = .int .i64 k := hb.old 8 (by kernel_rfl)
                    go_simp
                    exact hK _ _ _ rfl (hJ.s6 hd)
                  ·
                    have p5 : d 5 = true := hp ⟨5, .data⟩ (by simp) rfl
                    have p6 : d 6 = true := hp ⟨6, .data⟩ (by simp) rfl
                    have g58 : b'.tmps.getD 58 undef = .slice (some ⟨g, 0, none⟩) n n := hb.at 5 58 rfl (by show (58:Nat) < 70; decide) p5 (hJ.f5 p5)
                    have g59 : b'.tmps.getD 59 undef = .int .i64 k := hb.at 6 59 rfl (by show (59:Nat) < 70; decide) p6 (hJ.f6 p6)
                    go_simp
                    exact hK _ _ _ rfl (hJ.s7 hd)
                  ·
                    have p7 : d 7 = true := hp ⟨7, .data⟩ (by simp) rfl
                    have g60 : b'.tmps.getD 60 undef = .pointer (some ⟨g, k, none⟩) := hb.at 7 60 rfl (by show (60:Nat) < 70; decide) p7 (hJ.f7 p7)
                    have c0 := hJ.gr.row k hkn2
                    go_simp
                    exact hK _ _ _ rfl (hJ.s8 hd)
                  ·
                    have e5 : b'.tmps.getD 7 undef = .int .i64 i := hb.old 7 (by kernel_rfl)
                    go_simp
                    exact hK _ _ _ rfl (hJ.s9 hd)
                  ·
                    have e5 : b'.tmps.getD 9 undef = .bool x := hb.old 9 (by kernel_rfl)
                    go_simp
                    exact hK _ _ _ rfl (hJ.s10 hd)
                  ·
                    have e5 : b'.tmps.getD 9 undef = .bool x := hb.old 9 (by kernel_rfl)
                    go_simp
                    exact hK _ _ _ rfl (hJ.s11 hd)
                  ·
                    have p3 : d 3 = true := hp ⟨3, .data⟩ (by simp) rfl
                    have p4 : d 4 = true := hp ⟨4, .data⟩ (by simp) rfl
                    have g56 : b'.tmps.getD 56 undef = .slice (some ⟨R i, 0, none⟩) n n := hb.at 3 56 rfl (by show (56:Nat) < 70; decide) p3 (hJ.f3 p3)
                    have g57 : b'.tmps.getD 57 undef = .int .i64 k := hb.at 4 57 rfl (by show (57:Nat) < 70; decide) p4 (hJ.f4 p4)
                    go_simp
                    exact hK _ _ _ rfl (hJ.s12 hd)
                  ·
                    have p12 : d 12 = true := hp ⟨12, .data⟩ (by simp) rfl
                    have p10 : d 10 = true := hp ⟨10, .data⟩ (by simp) rfl
                    have g65 : b'.tmps.getD 65 undef = .pointer (some ⟨R i, k, none⟩) := hb.at 12 65 rfl (by show (65:Nat) < 70; decide) p12 (hJ.f12 p12)
                    have g63 : b'.tmps.getD 63 undef = .bool x := hb.at 10 63 rfl (by show (63:Nat) < 70; decide) p10 (hJ.f10 p10)
                    have c0 := hJ.gr.cell i k hin hkn2
                    have f0 := (hJ.gr.fzr i hin).1 k
                    go_simp
                    exact hK _ _ _ rfl (hJ.s13 hd hin hkn2)
                  ·
                    have p8 : d 8 = true := hp ⟨8, .data⟩ (by simp) rfl
                    have p9 : d 9 = true := hp ⟨9, .data⟩ (by simp) rfl
                    have g61 : b'.tmps.getD 61 undef = .slice (some ⟨R k, 0, none⟩) n n := hb.at 8 61 rfl (by show (61:Nat) < 70; decide) p8 (hJ.f8 p8)
                    have g62 : b'.tmps.getD 62 undef = .int .i64 i := hb.at 9 62 rfl (by show (62:Nat) < 70; decide) p9 (hJ.f9 p9)
                    go_simp
                    exact hK _ _ _ rfl (hJ.s14 hd)
                  ·
                    have p14 : d 14 = true := hp ⟨14, .data⟩ (by simp) rfl
                    have p11 : d 11 = true := hp ⟨11, .data⟩ (by simp) rfl
                    have g66 : b'.tmps.getD 66 undef = .pointer (some ⟨R k, i, none⟩) := hb.at 14 66 rfl (by show (66:Nat) < 70; decide) p14 (hJ.f14 p14)
                    have g64 : b'.tmps.getD 64 undef = .bool x := hb.at 11 64 rfl (by show (64:Nat) < 70; decide) p11 (hJ.f11 p11)
                    have c0 := hJ.gr.cell k i hkn2 hin
                    have f0 := (hJ.gr.fzr k hkn2).1 i
                    go_simp
                    exact hK _ _ _ rfl (hJ.s15 hd hin hkn2)
                case hend =>
                  rintro d vs w' hall hJ
                  simp only [allA, Act.put, List.setIfInBounds_toArray, List.set_cons_zero, List.set_cons_succ]
                  have G1 : Hid (Grid w' g n n R (symM H i (k + 1)) w.heap.size) := Lib.hid (by
                    have := hJ.gr
                    rw [hall 13 (by decide), hall 15 (by decide), put2_both, HS.out] at this
                    exact this)
                  have B1 := hJ.b
                  clear hJ hall
                  go_wp2_with fail
                  go_roundw
                  case rel => exact ⟨k + 1, by omega, by go_num, G1, B1⟩
                  case measure => simp [intOf]; omega
            · obtain rfl : i = k := by omega
              have hkt' : ¬ (i : Int) < (i : Int) := by omega
              have G1 : Hid (Grid wr g n n R (symM H (i + 1) 0) w.heap.size) := Lib.hid (by rw [← symM_next]; exact G.out)
              go_wp2_with fail
              go_roundw
              case rel => exact ⟨i + 1, by omega, by go_num, G1, BB⟩
              case measure => simp [intOf]; omega
        · obtain rfl : n = i := by omega
          have hit' : ¬ (n : Int) < (n : Int) := by omega
          go_wp2_with fail
          go_ret
          exact ⟨_, rfl, by rw [← symM_end]; exact G.out.tab (by unfold maxLen; omega), BB⟩
end Go.Proofs.Ytleenbfldkmcaaa
