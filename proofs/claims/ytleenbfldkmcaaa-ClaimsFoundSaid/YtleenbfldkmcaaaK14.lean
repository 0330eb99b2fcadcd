/- Proved: small facts on a map from cells to maps from nodes to truth values that a call has made. Conditions: those that each theorem names. -/
import Derived.Test.YtleenbfldkmcaaaK7
import Derived.Maps.OwnOps
import Derived.Maps.Views
import Derived.DeepKeys4
namespace Go.Proofs.Ytleenbfldkmcaaa
open Go.RowKit Go.Sort Go.Maps Go.BigFrame
set_option linter.unusedVariables false
set_option linter.unusedSimpArgs false

theorem laidOut' : laidOutB Try.prog = true := by kernel_rfl
theorem law41 : Keyed Try.prog 41 := Keyed.of_law (deep_law_laid laidOut' (m := 10) (by omega) (of_decide_eq_true (by kernel_rfl)) (by kernel_rfl) (by kernel_rfl))
theorem law75 : Keyed Try.prog 75 := Keyed.of_law (deep_law_laid laidOut' (m := 10) (by omega) (of_decide_eq_true (by kernel_rfl)) (by kernel_rfl) (by kernel_rfl))
theorem law3 : Keyed Try.prog 3 := int_keyed Try.underlying3
def ck (s o : Int) : Lit := .string (keyBytes [.int .i64 s, .int .i64 o])
def zk (x : Cz) : Lit := .string (keyBytes [.int .i64 x.s, .int .i64 x.o, .int .i64 x.l, .int .i64 x.f, .int .i64 x.c])
theorem keyI {d : Nat} {n : Int} (h : I64 n) : Try.prog.keyLits (d + 1) 3 [.int .i64 n] = some [.int .i64 n] := by
  unfold Program.keyLits
  simp [Try.underlying3, h]
theorem lits41 {d : Nat} {s o : Int} (hs : I64 s) (ho : I64 o) : Try.prog.keyLits (d + 2) 41 [.int .i64 s, .int .i64 o] = some [.int .i64 s, .int .i64 o] := by
  unfold Program.keyLits
  have h2 : Try.prog.cellsOf 41 = 2 := by kernel_rfl
  have h1 : Try.prog.cellsOf 3 = 1 := by kernel_rfl
  simp [Try.underlying41, h2, h1, keyI hs, keyI ho]
theorem key41 {s o : Int} (hs : I64 s) (ho : I64 o) : keyOf Try.prog 41 (.agg #[.int .i64 s, .int .i64 o]) = some (ck s o) := by
  unfold keyOf
  have hk : Try.prog.keyType 41 = true := by kernel_rfl
  have h2 : Try.prog.cellsOf 41 = 2 := by kernel_rfl
  have hf : Value.formed Try.prog 41 (.agg #[.int .i64 s, .int .i64 o]) = true := by simp [Value.formed, Try.underlying41, h2]
  simp only [Try.underlying41, hk, hf, Bool.and_self, if_true]
  have : (Value.agg #[.int .i64 s, .int .i64 o]).cells.toList = [.int .i64 s, .int .i64 o] := rfl
  rw [this]
  rw [show Try.prog.types.size + 1 = 117 + 2 from by kernel_rfl, lits41 hs ho]; rfl
theorem lits75 {d : Nat} {s o l f c : Int} (hs : I64 s) (ho : I64 o) (hl : I64 l) (hf : I64 f) (hc : I64 c) : Try.prog.keyLits (d + 3) 75 [.int .i64 s, .int .i64 o, .int .i64 l, .int .i64 f, .int .i64 c] = some [.int .i64 s, .int .i64 o, .int .i64 l, .int .i64 f, .int .i64 c] := by
  unfold Program.keyLits
  have h5 : Try.prog.cellsOf 75 = 5 := by kernel_rfl
  have h2 : Try.prog.cellsOf 41 = 2 := by kernel_rfl
  have h1 : Try.prog.cellsOf 3 = 1 := by kernel_rfl
  simp [Try.underlying75, h5, h2, h1, lits41 hs ho, keyI hl, keyI hf, keyI hc]
theorem key75 {s o l f c : Int} (hs : I64 s) (ho : I64 o) (hl : I64 l) (hf : I64 f) (hc : I64 c) : keyOf Try.prog 75 (.agg #[.int .i64 s, .int .i64 o, .int .i64 l, .int .i64 f, .int .i64 c]) = some (zk ⟨s, o, l, f, c⟩) := by
  unfold keyOf
  have hk : Try.prog.keyType 75 = true := by kernel_rfl
  have h2 : Try.prog.cellsOf 75 = 5 := by kernel_rfl
  have hf' : Value.formed Try.prog 75 (.agg #[.int .i64 s, .int .i64 o, .int .i64 l, .int .i64 f, .int .i64 c]) = true := by simp [Value.formed, Try.underlying75, h2]
  simp only [Try.underlying75, hk, hf', Bool.and_self, if_true]
  have : (Value.agg #[.int .i64 s, .int .i64 o, .int .i64 l, .int .i64 f, .int .i64 c]).cells.toList = [.int .i64 s, .int .i64 o, .int .i64 l, .int .i64 f, .int .i64 c] := rfl
  rw [this]
  rw [show Try.prog.types.size + 1 = 116 + 3 from by kernel_rfl, lits75 hs ho hl hf hc]; rfl
theorem ck_inj {s o s' o' : Int} (hs : I64 s) (ho : I64 o) (hs' : I64 s') (ho' : I64 o') (h : ck s o = ck s' o') : s = s' ∧ o = o' := by
  have := law41.inj (key41 hs ho) (by rw [h]; exact key41 hs' ho')
  simpa using this
theorem ck_key {s o : Int} (hs : I64 s) (ho : I64 o) : WideAt.IsKeyLit (ck s o) := law41.key (key41 hs ho)

/-! ### sets of nodes -/
theorem ownsMap_same {P : Program} {k : TypeId} {w w' : World} {b n : Nat} {D : DataW Unit} {R : Value → Option (DataW Unit × List MemPlace)} (h : w.ownsMap P k R b n D) (hb : w'.heap[b]? = w.heap[b]?) : w'.ownsMap P k R b n D := by
  obtain ⟨es, clock, h1, h2, h3, h4⟩ := h
  exact ⟨es, clock, by rw [hb]; exact h1, h2, h3, h4⟩
theorem plainElem_bool_inv {P : Program} {e : TypeId} {v : Value} {z : DataW Unit × List MemPlace} (he : P.underlying e = some .bool) (h : plainElem P e v = some z) : ∃ x, v = .bool x ∧ z = (.lit (.bool x), []) := by
  unfold plainElem at h
  rw [he] at h
  cases v <;> simp at h
  rename_i x
  exact ⟨x, rfl, h.symm⟩
/-- Block b is a map of at most n entries from nodes to truth values that says f. -/
def SetAt (w : World) (b n : Nat) (f : Int → Bool) : Prop :=
  ∃ D : DataW Unit, w.ownsMap Try.prog 3 (plainElem Try.prog 4) b n D ∧ IsMap D ∧ ∀ x : Int, D.atKey (.int .i64 x) (.lit (.bool false)) = .lit (.bool (f x))
section
variable {w w' : World} {b n : Nat} {f : Int → Bool}
theorem SetAt.lt (h : SetAt w b n f) : b < w.heap.size := by obtain ⟨D, h1, _⟩ := h; exact h1.lt
theorem SetAt.same (h : SetAt w b n f) (hb : w'.heap[b]? = w.heap[b]?) : SetAt w' b n f := by
  obtain ⟨D, h1, h2⟩ := h; exact ⟨D, ownsMap_same h1 hb, h2⟩
theorem SetAt.mono (h : SetAt w b n f) {m : Nat} (hm : n ≤ m) : SetAt w b m f := by
  obtain ⟨D, h1, h2⟩ := h; exact ⟨D, h1.mono hm, h2⟩
theorem SetAt.made (w : World) : SetAt (w.alloc (.map #[] 0)) w.heap.size 0 (fun _ => false) :=
  ⟨.map [], World.ownsMap_made _ _ _ _, (World.ownsMap_made (H := Unit) w Try.prog 3 (plainElem Try.prog 4)).isMap, fun x => rfl⟩
theorem SetAt.look (h : SetAt w b n f) {x : Int} (hx : I64 x) : (Instr.lookup 89 (.map (some b)) (.int .i64 x) false).run Try.prog w = .ok (.bool (f x)) w := by
  obtain ⟨D, h1, _, h2⟩ := h
  obtain ⟨v, ps, hrun, hv⟩ := h1.lookup law3 Try.underlying89 (Try.zeroValue4 w) (plainElem_bool Try.underlying4 false) (keyOf_int_mk Try.underlying3 hx)
  obtain ⟨y, rfl, hy⟩ := plainElem_bool_inv Try.underlying4 hv
  rw [h2 x] at hy
  simp only [Prod.mk.injEq, DataW.lit.injEq, Lit.bool.injEq] at hy
  rw [hrun, hy.1]
theorem SetAt.put (h : SetAt w b n f) (hn : n < maxLen) {x : Int} (hx : I64 x) : ∃ w', (Instr.mapUpdate 89 (.map (some b)) (.int .i64 x) (.bool true)).run Try.prog w = .ok () w' ∧ SetAt w' b (n + 1) (fun y => if y = x then true else f y) ∧ w.grownBy w' (some b) := by
  obtain ⟨D, h1, hD, h2⟩ := h
  have hk := keyOf_int_mk (P := Try.prog) Try.underlying3 hx
  obtain ⟨w', hrun, h3, h4⟩ := h1.update law3 Try.underlying89 hn hk (plainElem_bool Try.underlying4 true)
  refine ⟨w', hrun, ⟨_, h3, h3.isMap, fun y => ?_⟩, h4⟩
  by_cases hy : y = x
  · subst hy; simp only [if_true]; rw [atKey_put_same hD (law3.key hk)]
  · simp only [if_neg hy]; rw [atKey_put_other (fun e => hy (by simpa using e)), h2]
end
/-! ### maps of cells -/
/-- How an element that is a map reads: by its block. -/
def Rm (v : Value) : Option (DataW Unit × List MemPlace) := match v with
  | .map none => some (.nil, [])
  | .map (some b) => some (.lit (.int .i64 b), [])
  | _ => none
theorem Rm_none {v : Value} {ps : List MemPlace} (h : Rm v = some (.nil, ps)) : v = .map none := by
  unfold Rm at h; split at h <;> simp at h; rfl
theorem Rm_some {v : Value} {b : Nat} {ps : List MemPlace} (h : Rm v = some (.lit (.int .i64 b), ps)) : v = .map (some b) := by
  unfold Rm at h; split at h <;> simp at h
  rename_i b'
  obtain rfl : b' = b := by omega
  rfl
/-- Block mb is a map from cells to sets: what f says; all blocks from base on; at most n entries each. -/
structure Mps (w : World) (base mb n : Nat) (f : Int → Int → Int → Bool) (B : Int → Int → Option Nat) (D : DataW Unit) : Prop where
  m : w.ownsMap Try.prog 41 Rm mb n D
  lo : base ≤ mb
  im : IsMap D
  at' : ∀ s o, I64 s → I64 o → D.atKey (ck s o) .nil = match B s o with | none => .nil | some b => .lit (.int .i64 b)
  set : ∀ s o b, I64 s → I64 o → B s o = some b → base ≤ b ∧ b ≠ mb ∧ SetAt w b n (f s o)
  none : ∀ s o, I64 s → I64 o → B s o = none → ∀ c, f s o c = false
  inj : ∀ s o s' o' b, I64 s → I64 o → I64 s' → I64 o' → B s o = some b → B s' o' = some b → s = s' ∧ o = o'
section
variable {w w' : World} {base mb n : Nat} {f : Int → Int → Int → Bool} {B : Int → Int → Option Nat} {D : DataW Unit}
theorem Mps.keep (h : Mps w base mb n f B D) (hb : Below w.heap.size w w') : Mps w' base mb n f B D :=
  ⟨ownsMap_same h.m (hb.block mb h.m.lt), h.lo, h.im, h.at', fun s o b hs ho e => by
    obtain ⟨h1, h2, h3⟩ := h.set s o b hs ho e
    exact ⟨h1, h2, h3.same (hb.block b h3.lt)⟩, h.none, h.inj⟩
theorem Mps.made (w : World) : Mps (w.alloc (.map #[] 0)) w.heap.size w.heap.size 0 (fun _ _ _ => false) (fun _ _ => .none) (.map []) :=
  ⟨World.ownsMap_made _ _ _ _, Nat.le_refl _, (World.ownsMap_made (H := Unit) w Try.prog 41 Rm).isMap, fun s o _ _ => rfl, fun s o b _ _ h => (by cases h), fun _ _ _ _ _ _ => rfl, fun _ _ _ _ _ _ _ _ _ h => (by cases h)⟩
theorem Mps.look (h : Mps w base mb n f B D) {s o : Int} (hs : I64 s) (ho : I64 o) :
    (B s o = .none ∧ (Instr.lookup 88 (.map (some mb)) (.agg #[.int .i64 s, .int .i64 o]) false).run Try.prog w = .ok (.map .none) w) ∨
    ∃ b, B s o = some b ∧ (Instr.lookup 88 (.map (some mb)) (.agg #[.int .i64 s, .int .i64 o]) false).run Try.prog w = .ok (.map (some b)) w := by
  obtain ⟨v, ps, hrun, hv⟩ := h.m.lookup law41 Try.underlying88 (Try.zeroValue89 w) (zd := .nil) (zp := []) rfl (key41 hs ho)
  rw [h.at' s o hs ho] at hv
  cases hB : B s o with
  | none => rw [hB] at hv; left; exact ⟨rfl, by rw [hrun, Rm_none hv]⟩
  | some b => rw [hB] at hv; right; exact ⟨b, rfl, by rw [hrun, Rm_some hv]⟩
/-- A cell that has no set gets an empty one. -/
theorem Mps.new (h : Mps w base mb n f B D) {s o : Int} (hs : I64 s) (ho : I64 o) (hB : B s o = .none) (hn : n < maxLen) :
    ∃ w' D', (Instr.mapUpdate 88 (.map (some mb)) (.agg #[.int .i64 s, .int .i64 o]) (.map (some w.heap.size))).run Try.prog (w.alloc (.map #[] 0)) = .ok () w' ∧
      Mps w' base mb (n + 1) f (fun s' o' => if s' = s ∧ o' = o then some w.heap.size else B s' o') D' ∧ (w.alloc (.map #[] 0)).grownBy w' (some mb) := by
  have hA : Below w.heap.size w (w.alloc (.map #[] 0)) := ball (Below.refl _ _) _
  have h1 := h.keep hA
  have hlt := h.m.lt
  obtain ⟨w', hrun, h3, h4⟩ := h1.m.update law41 Try.underlying88 hn (key41 hs ho) (val := .map (some w.heap.size)) (d := .lit (.int .i64 w.heap.size)) (ps := []) rfl
  have hbw := Nat.le_trans h.lo (Nat.le_of_lt hlt)
  refine ⟨w', _, hrun, ⟨h3, h.lo, h3.isMap, fun s' o' hs' ho' => ?_, fun s' o' b hs' ho' e => ?_, fun s' o' hs' ho' e c => ?_, fun s1 o1 s2 o2 b hs1 ho1 hs2 ho2 e1 e2 => ?_⟩, h4⟩
  · by_cases he : s' = s ∧ o' = o
    · obtain ⟨rfl, rfl⟩ := he
      simp only [and_self, if_true]
      rw [atKey_put_same h.im (ck_key hs ho)]
    · simp only [if_neg he]
      rw [atKey_put_other (fun e => he (ck_inj hs' ho' hs ho e)), h.at' s' o' hs' ho']
  · by_cases he : s' = s ∧ o' = o
    · rw [if_pos he] at e
      obtain ⟨rfl, rfl⟩ := he
      obtain rfl : w.heap.size = b := by simpa using e
      refine ⟨hbw, by omega, ?_⟩
      have hf : f s' o' = fun _ => false := funext fun c => h.none s' o' hs ho hB c
      rw [hf]
      exact ((SetAt.made w).mono (Nat.zero_le _)).same (h4.block _ (by simp) (fun e' => by have := Option.some.inj e'; omega))
    · rw [if_neg he] at e
      obtain ⟨g1, g2, g3⟩ := h1.set s' o' b hs' ho' e
      exact ⟨g1, g2, (g3.mono (Nat.le_succ _)).same (h4.block b g3.lt (fun e' => g2 (Option.some.inj e')))⟩
  · by_cases he : s' = s ∧ o' = o
    · rw [if_pos he] at e; cases e
    · rw [if_neg he] at e; exact h.none s' o' hs' ho' e c
  · have blt : ∀ s o, I64 s → I64 o → B s o = some b → b < w.heap.size := fun s o hs ho e => (h.set s o b hs ho e).2.2.lt
    by_cases he1 : s1 = s ∧ o1 = o
    · rw [if_pos he1] at e1
      have hb : w.heap.size = b := by simpa using e1
      by_cases he2 : s2 = s ∧ o2 = o
      · exact ⟨he1.1.trans he2.1.symm, he1.2.trans he2.2.symm⟩
      · rw [if_neg he2] at e2; have := blt s2 o2 hs2 ho2 e2; omega
    · rw [if_neg he1] at e1
      have := blt s1 o1 hs1 ho1 e1
      by_cases he2 : s2 = s ∧ o2 = o
      · rw [if_pos he2] at e2
        have hb : w.heap.size = b := by simpa using e2
        omega
      · rw [if_neg he2] at e2; exact h.inj _ _ _ _ b hs1 ho1 hs2 ho2 e1 e2
/-- A node is noted at a cell. -/
theorem Mps.put (h : Mps w base mb n f B D) {s o x : Int} (hs : I64 s) (ho : I64 o) (hx : I64 x) {b : Nat} (hB : B s o = some b) (hn : n < maxLen) :
    ∃ w', (Instr.mapUpdate 89 (.map (some b)) (.int .i64 x) (.bool true)).run Try.prog w = .ok () w' ∧
      Mps w' base mb (n + 1) (fun s' o' y => if s' = s ∧ o' = o ∧ y = x then true else f s' o' y) B D ∧ w.grownBy w' (some b) := by
  obtain ⟨g1, g2, g3⟩ := h.set s o b hs ho hB
  obtain ⟨w', hrun, h3, h4⟩ := g3.put hn hx
  refine ⟨w', hrun, ⟨(ownsMap_same h.m (h4.block mb h.m.lt (fun e => g2 (Option.some.inj e).symm))).mono (Nat.le_succ _), h.lo, h.im, h.at', fun s' o' b' hs' ho' e => ?_, fun s' o' hs' ho' e c => ?_, h.inj⟩, h4⟩
  · obtain ⟨k1, k2, k3⟩ := h.set s' o' b' hs' ho' e
    by_cases hb : b' = b
    · subst hb
      obtain ⟨rfl, rfl⟩ := h.inj _ _ _ _ _ hs' ho' hs ho e hB
      refine ⟨k1, k2, ?_⟩
      have : (fun y => if s' = s' ∧ o' = o' ∧ y = x then true else f s' o' y) = fun y => if y = x then true else f s' o' y := by funext y; simp
      rw [this]; exact h3
    · refine ⟨k1, k2, ?_⟩
      have hne : ¬ (s' = s ∧ o' = o) := fun he => by
        obtain ⟨rfl, rfl⟩ := he
        rw [hB] at e; exact hb (Option.some.inj e).symm
      have : (fun y => if s' = s ∧ o' = o ∧ y = x then true else f s' o' y) = f s' o' := by
        funext y; rw [if_neg (fun he => hne ⟨he.1, he.2.1⟩)]
      rw [this]
      exact (k3.mono (Nat.le_succ _)).same (h4.block b' k3.lt (fun e' => hb (Option.some.inj e')))
  · rw [if_neg (fun he => by obtain ⟨rfl, rfl, _⟩ := he; rw [hB] at e; cases e)]
    exact h.none s' o' hs' ho' e c
end
theorem wpList_update {P : Program} {w w' : World} {ops : Array Oper} {rest : List Oper} {o : Oper} {a : Act} {Q : Exit → Act → World → Prop} (hg : o.guard = none) (m x v : Operand) (t : TypeId) (hop : o.op = Op.mapUpdate t m x v)
    (mv key val : Value) (hm : a.eval m = mv) (hx : a.eval x = key) (hv : a.eval v = val) (hrun : (Instr.mapUpdate t mv key val).run P w = .ok () w') (hK : wpList P ops Q rest (a.put o.dst undef) w') : wpList P ops Q (o :: rest) a w := by
  refine wpList_plain hg fun K' hK' => ?_
  unfold Oper.wp
  simp [execOp, hop, hm, hx, hv, hrun, Result.andThen]
  exact hK' _ _ hK
end Go.Proofs.Ytleenbfldkmcaaa
