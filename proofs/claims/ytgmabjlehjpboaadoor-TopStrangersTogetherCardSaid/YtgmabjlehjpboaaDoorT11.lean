/- Proved: how lists of half-open joins and of words lie in memory; small facts on rows of structs that a call owns and appends to, beside boxes of its own. Conditions: those that each theorem names. -/
import Derived.Test.YtgmabjlehjpboaaDoorT10
import Derived.Test.YtgmabjlehjpboaaDoorSteps
namespace Go.Proofs.YtgmabjlehjpboaaDoor
open Go.RowKit Go.Sort Go.BigFrame Go.Proofs.YtgmabjlehjpboaaDoor.K
set_option linter.unusedVariables false
set_option linter.unusedSimpArgs false
attribute [local go_sem] cell_alloc_old
abbrev I64 (n : Int) : Prop := (Lit.int .i64 n).wf = true
/-- Elements of a size lie one behind the other at the address. -/
def At {α : Type} [Inhabited α] (s : Nat) (cs : α → List Value) (w : World) (a : Option Addr) (l : List α) : Prop :=
  l = [] ∨ ∃ b off, a = some ⟨b, off, none⟩ ∧ ∀ i, i < l.length → ∀ j u, (cs (l.getD i default))[j]? = some u → w.cell? ⟨b, off + i * s + j, none⟩ = some u
section
variable {α : Type} [Inhabited α] {s : Nat} {cs : α → List Value}
theorem At.keep {w w' : World} {a : Option Addr} {l : List α} (h : At s cs w a l) (hb : Below w.heap.size w w') : At s cs w' a l := by
  rcases h with h | ⟨b, off, ha, h⟩
  · exact .inl h
  · exact .inr ⟨b, off, ha, fun i hi j u hj => keep1 hb (h i hi j u hj)⟩
theorem At.drop {w : World} {b off : Nat} {l : List α} (h : At s cs w (some ⟨b, off, none⟩) l) (k : Nat) : At s cs w (some ⟨b, off + k * s, none⟩) (l.drop k) := by
  rcases h with rfl | ⟨b', off', e, h⟩
  · exact .inl (by simp)
  · simp at e
    obtain ⟨rfl, rfl⟩ := e
    refine .inr ⟨_, _, rfl, fun i hi j u hj => ?_⟩
    simp at hi
    have e : (l.drop k).getD i default = l.getD (k + i) default := by simp [List.getD_eq_getElem?_getD]
    rw [e] at hj
    have := h (k + i) (by omega) j u hj
    rw [show off + k * s + i * s + j = off + (k + i) * s + j from by rw [Nat.add_mul]; omega]; exact this
theorem At.take {w : World} {a : Option Addr} {l : List α} (h : At s cs w a l) (k : Nat) : At s cs w a (l.take k) := by
  rcases h with rfl | ⟨b, off, e, h⟩
  · exact .inl (by simp)
  · refine .inr ⟨b, off, e, fun i hi j u hj => ?_⟩
    simp at hi
    have hi1 : i < k := by omega
    have e : (l.take k).getD i default = l.getD i default := by simp [List.getD_eq_getElem?_getD, List.getElem?_take, hi1]
    rw [e] at hj
    exact h i (by omega) j u hj
/-- Where a list is not empty, its address and its cells. -/
theorem At.at {w : World} {a : Option Addr} {l : List α} (h : At s cs w a l) {i : Nat} (hi : i < l.length) :
    ∃ b off, a = some ⟨b, off, none⟩ ∧ ∀ i, i < l.length → ∀ j u, (cs (l.getD i default))[j]? = some u → w.cell? ⟨b, off + i * s + j, none⟩ = some u := by
  rcases h with rfl | h
  · simp at hi
  · exact h
end
theorem getD_mem {α : Type} [Inhabited α] {l : List α} {i : Nat} (h : i < l.length) : l.getD i default ∈ l := by
  rw [List.getD_eq_getElem?_getD, List.getElem?_eq_getElem h]; exact List.getElem_mem h
/-- The cells of a list. -/
def flatL {α : Type} (cs : α → List Value) (l : List α) : List Value := l.flatMap cs
section
variable {α : Type} {cs : α → List Value} {s : Nat}
theorem flatL_append (l m : List α) : flatL cs (l ++ m) = flatL cs l ++ flatL cs m := by simp [flatL]
theorem flatL_one (x : α) : flatL cs [x] = cs x := by simp [flatL]
theorem flatL_len (hs : ∀ x, (cs x).length = s) : ∀ l : List α, (flatL cs l).length = l.length * s
  | [] => by simp [flatL]
  | x :: l => by
    have := flatL_len hs l
    have h1 := hs x
    simp only [flatL, List.flatMap_cons, List.length_append, List.length_cons] at this ⊢
    rw [this, h1, Nat.succ_mul]; omega
theorem flatL_at [Inhabited α] (hs : ∀ x, (cs x).length = s) : ∀ (l : List α) (i j : Nat), i < l.length → j < s → (flatL cs l)[i * s + j]? = (cs (l.getD i default))[j]?
  | [], i, j, hi, _ => by simp at hi
  | x :: l, 0, j, _, hj => by
    simp only [flatL, List.flatMap_cons, Nat.zero_mul, Nat.zero_add]
    rw [List.getElem?_append_left (by rw [hs]; exact hj)]; rfl
  | x :: l, i + 1, j, hi, hj => by
    have ih := flatL_at hs l i j (by simpa using hi) hj
    have e : flatL cs (x :: l) = cs x ++ flatL cs l := by simp [flatL]
    rw [e, List.getElem?_append_right (by rw [hs, Nat.succ_mul]; omega), hs, show (i + 1) * s + j - s = i * s + j from by rw [Nat.succ_mul]; omega, ih]
    rfl
theorem At.of_cells [Inhabited α] {w : World} {b off : Nat} {l : List α} (hs : ∀ x, (cs x).length = s) (h : ∀ j u, (flatL cs l)[j]? = some u → w.cell? ⟨b, off + j, none⟩ = some u) : At s cs w (some ⟨b, off, none⟩) l := by
  refine .inr ⟨b, off, rfl, fun i hi j u hj => ?_⟩
  have hjs : j < s := by rw [← hs (l.getD i default)]; exact (List.getElem?_eq_some_iff.1 hj).1
  have := h (i * s + j) u (by rw [flatL_at hs l i j hi hjs]; exact hj)
  rw [Nat.add_assoc]; exact this
/-- What an own row is. -/
theorem own_at [Inhabited α] {w : World} {base : Nat} {e : TypeId} {v : Value} {n : Nat} {l : List α} (hs : ∀ x, (cs x).length = s) (h : w.ownsRow base e s v n (flatL cs l)) (hn : n = l.length) : ∃ a cap, v = .slice a n cap ∧ At s cs w a l ∧ n ≤ cap ∧ cap ≤ maxLen := by
  have h0 := h
  rcases h.2 with ⟨rfl, hn0⟩ | ⟨g, cap, cur, rfl, hb, hg, hnc, hcm, hcs, htake⟩
  · exact ⟨none, 0, by rw [hn0], .inl (List.length_eq_zero_iff.1 (by omega)), by omega, by simp [maxLen]⟩
  · refine ⟨some ⟨g, 0, none⟩, cap, rfl, At.of_cells hs fun j u hj => ?_, by omega, hcm⟩
    have hlt : j < (flatL cs l).length := (List.getElem?_eq_some_iff.1 hj).1
    rw [flatL_len hs] at hlt
    have := World.ownsRow.cellAt h0 j (by rw [hn]; exact hlt)
    rw [Nat.zero_add, this]; exact hj
end
theorem row_shape {w : World} {base : Nat} {e : TypeId} {size : Nat} {v : Value} {n : Nat} {xs : List Value} (h : w.ownsRow base e size v n xs) : ∃ a c, v = .slice a n c := by
  rcases h.2 with ⟨hv, h0⟩ | ⟨g, cap, cur, hv, _⟩
  · exact ⟨none, 0, by rw [hv, h0]⟩
  · exact ⟨_, cap, hv⟩
theorem ownsRow_below {B : Nat} {e : TypeId} {k : Nat} {v : Value} {n : Nat} {xs : List Value} {w w' : World} (h : w.ownsRow B e k v n xs) (hb : Below w.heap.size w w') : w'.ownsRow B e k v n xs :=
  h.kept (row := none) ⟨hb.os, hb.tape, hb.output, hb.size, fun i hi _ => hb.block i hi⟩ (by cases v.ownBlock <;> simp)
theorem grown_set (w : World) (g j : Nat) (v : Value) : w.grownBy (w.setCell ⟨g, j, none⟩ v) (some g) :=
  ⟨rfl, rfl, rfl, by simp, fun i hi hne => Below.heap_setCell _ _ _ _ (fun e => hne (congrArg some e))⟩
section
variable {w0 z w1 : World} {base ob : Nat} {e : TypeId} {s n m : Nat} {v v' : Value} {xs ys : List Value}
/-- Behind an append to an own row and the store of its slice into a box: the row, another row, a box, what lay before. -/
theorem app_row (R' : w1.ownsRow base e s v' m ys) (hob : ob < base) (j : Nat) (u : Value) : (w1.setCell ⟨ob, j, none⟩ u).ownsRow base e s v' m ys :=
  R'.kept (grown_set w1 ob j u) (by
    cases hb : v'.ownBlock with
    | none => exact .inl rfl
    | some b => exact .inr fun e' => by have := (R'.lt b hb).1; rw [Option.some.inj e'] at this; omega)
theorem app_other {b1 : Nat} {e1 : TypeId} {s1 n1 : Nat} {v1 : Value} {xs1 : List Value} (R1 : z.ownsRow b1 e1 s1 v1 n1 xs1) (hlt : ∀ b, v1.ownBlock = some b → b < base) (R : z.ownsRow base e s v n xs) (hg : z.grownBy w1 v.ownBlock) (hob : ob < b1) (j : Nat) (u : Value) :
    (w1.setCell ⟨ob, j, none⟩ u).ownsRow b1 e1 s1 v1 n1 xs1 := by
  have h1 : w1.ownsRow b1 e1 s1 v1 n1 xs1 := R1.kept hg (by
    cases hb : v1.ownBlock with
    | none => exact .inl rfl
    | some b => exact .inr fun e' => by have := (R.lt b e'.symm).1; have := hlt b hb; omega)
  exact app_row h1 hob j u
theorem app_box {k : Nat} {cs : List Value} (h : CAt z k cs) (hk : k < base) (R : z.ownsRow base e s v n xs) (hg : z.grownBy w1 v.ownBlock) : CAt w1 k cs := h.grown hg (fun e' => by have := (R.lt k e'.symm).1; omega)
theorem app_fz {k : Nat} (h : Fz z k) (hk : k < base) (R : z.ownsRow base e s v n xs) (hg : z.grownBy w1 v.ownBlock) : Fz w1 k := h.grown hg (fun e' => by have := (R.lt k e'.symm).1; omega)
theorem app_below (hB : Below w0.heap.size w0 z) (hbase : w0.heap.size ≤ base) (R : z.ownsRow base e s v n xs) (hg : z.grownBy w1 v.ownBlock) : Below w0.heap.size w0 w1 := hB.grown hg hB.size (fun k hk => by have := (R.lt k hk).1; omega)
end
/-- One more element of an own row, at the operation. -/
theorem wp_append_at {P : Program} {w : World} {o : Oper} {a : Act} {K : Act → World → Prop} {Q : Exit → Act → World → Prop} (s x : Operand) (t : TypeId)
    (ho : o.op = .call { callee := .builtin .append, args := #[s, x], argTypes := #[t, t] })
    (base : Nat) (e : TypeId) (i : TypeInfo) (z : Value) (size bytes : Nat) (ht : P.underlying t = some (.slice e)) (hi : P.info? e = some i) (hz : i.zero = some z)
    (hsize : i.size = size) (hby : i.bytes = bytes) (hzs : z.cells.size = size) (hsz : 0 < size)
    (v : Value) (n : Nat) (xs : List Value) (hs : a.eval s = v) (hown : w.ownsRow base e size v n xs)
    (ad : Addr) (m c : Nat) (news : List Value) (hx : a.eval x = .slice (some ad) m c) (hl : news.length = m * size) (hnews : ∀ j u, news[j]? = some u → w.cell? (ad.add j) = some u) (h1 : ∀ u ∈ news, u.oneCell' = true)
    (h63 : n + m ≤ maxLen) (hbytes : (n + m) * bytes ≤ 140737488355328) (hbase : base ≤ w.heap.size)
    (h : ∀ v' w', w'.ownsRow base e size v' (n + m) (xs ++ news) → w.grownBy w' v.ownBlock → (v'.ownBlock = v.ownBlock ∨ v'.ownBlock = some w.heap.size) → K (a.put o.dst v') w') : o.wp P a w K Q := by
  obtain ⟨v', w', hr, h2, h3, _, h5⟩ := run_append_own_at (P := P) w base t o.type e i z size bytes ht hi hz hsize hby hzs hsz v n xs hown ad m c news hl hnews h1 h63 hbytes hbase
  unfold Oper.wp execOp
  simp only [ho, resolve, invoke, builtin, Sem.run_bind, Sem.run_pure, Result.andThen_ok, List.map_toArray, List.map_cons, List.map_nil, hs, hx, hr]
  exact h v' w' h2 h3 h5
theorem addr0 (b j : Nat) : (⟨b, 0, none⟩ : Addr).add j = ⟨b, j, none⟩ := by unfold Addr.add; by_cases h0 : j = 0 <;> simp [h0]
theorem info70 : (Tryd.prog.info? 70).map (fun i => (i.zero, i.size, i.bytes)) = some (some (.agg #[.int .i64 0, .int .i64 0, .int .i64 0, .int .i64 0, .bool false, .int .i64 0]), 6, 48) := by kernel_rfl
theorem info43 : (Tryd.prog.info? 43).map (fun i => (i.zero, i.size, i.bytes)) = some (some (.agg #[.int .i64 0, .int .i64 0, .int .i64 0, .int .i64 0, .int .i64 0, .int .i64 0, .int .i64 0, .int .i64 0]), 8, 64) := by kernel_rfl
/-- A half-open join. -/
structure Hf where
  (s n c u : Int)
  pr : Bool
  k : Int
deriving DecidableEq, Inhabited
abbrev Hf.cs (h : Hf) : List Value := [.int .i64 h.s, .int .i64 h.n, .int .i64 h.c, .int .i64 h.u, .bool h.pr, .int .i64 h.k]
abbrev Hf.v (h : Hf) : Value := .agg #[.int .i64 h.s, .int .i64 h.n, .int .i64 h.c, .int .i64 h.u, .bool h.pr, .int .i64 h.k]
theorem hf_size (h : Hf) : h.cs.length = 6 := rfl
theorem wd_size (x : Wd) : x.cs.length = 8 := rfl
/-- An address lies in a block of this number or a later one. -/
def Fresh (n : Nat) (a : Option Addr) : Prop := ∀ b off s, a = some ⟨b, off, s⟩ → n ≤ b
theorem Fresh.none (n : Nat) : Fresh n none := fun _ _ _ h => by cases h
theorem Fresh.at (n b off : Nat) (h : n ≤ b) : Fresh n (some ⟨b, off, .none⟩) := fun _ _ _ e => by cases e; exact h
theorem Fresh.le {n m : Nat} {a : Option Addr} (h : Fresh n a) (hm : m ≤ n) : Fresh m a := fun b off s e => Nat.le_trans hm (h b off s e)
/-- A list of half-open joins lies at an address, or there is none. -/
structure HsAt (w : World) (a : Option Addr) (l : List Hf) : Prop where
  cells : At 6 Hf.cs w a l
  ad : a = none ∨ ∃ b off, a = some ⟨b, off, none⟩ ∧ b < w.heap.size
theorem HsAt.keep {w w' : World} {a : Option Addr} {l : List Hf} (h : HsAt w a l) (hb : Below w.heap.size w w') : HsAt w' a l :=
  ⟨h.cells.keep hb, h.ad.imp id fun ⟨b, off, e, hlt⟩ => ⟨b, off, e, Nat.lt_of_lt_of_le hlt hb.size⟩⟩
theorem HsAt.nil (w : World) : HsAt w none [] := ⟨.inl rfl, .inl rfl⟩
abbrev WsAt (w : World) (a : Option Addr) (l : List Wd) : Prop := At 8 Wd.cs w a l
theorem HsAt.hf {w wr : World} {a : Option Addr} {l : List Hf} (h : HsAt w a l) (hb : Below w.heap.size w wr) {i : Nat} (hi : i < l.length) : ∃ b off, a = some ⟨b, off, none⟩ ∧
    wr.cell? ⟨b, off + i * 6, none⟩ = some (.int .i64 (l.getD i default).s) ∧ wr.cell? ⟨b, off + i * 6 + 1, none⟩ = some (.int .i64 (l.getD i default).n) ∧ wr.cell? ⟨b, off + i * 6 + 2, none⟩ = some (.int .i64 (l.getD i default).c) ∧
    wr.cell? ⟨b, off + i * 6 + 3, none⟩ = some (.int .i64 (l.getD i default).u) ∧ wr.cell? ⟨b, off + i * 6 + 4, none⟩ = some (.bool (l.getD i default).pr) ∧ wr.cell? ⟨b, off + i * 6 + 5, none⟩ = some (.int .i64 (l.getD i default).k) := by
  obtain ⟨b, off, ha, h⟩ := h.cells.at hi
  exact ⟨b, off, ha, keep1 hb (h i hi 0 _ rfl), keep1 hb (h i hi 1 _ rfl), keep1 hb (h i hi 2 _ rfl), keep1 hb (h i hi 3 _ rfl), keep1 hb (h i hi 4 _ rfl), keep1 hb (h i hi 5 _ rfl)⟩
theorem At.wd {w wr : World} {a : Option Addr} {l : List Wd} (h : WsAt w a l) (hb : Below w.heap.size w wr) {i : Nat} (hi : i < l.length) : ∃ b off, a = some ⟨b, off, none⟩ ∧
    wr.cell? ⟨b, off + i * 8, none⟩ = some (.int .i64 (l.getD i default).k) ∧ wr.cell? ⟨b, off + i * 8 + 1, none⟩ = some (.int .i64 (l.getD i default).s) ∧ wr.cell? ⟨b, off + i * 8 + 2, none⟩ = some (.int .i64 (l.getD i default).p) ∧
    wr.cell? ⟨b, off + i * 8 + 3, none⟩ = some (.int .i64 (l.getD i default).n) ∧ wr.cell? ⟨b, off + i * 8 + 4, none⟩ = some (.int .i64 (l.getD i default).c) ∧ wr.cell? ⟨b, off + i * 8 + 5, none⟩ = some (.int .i64 (l.getD i default).key) ∧
    wr.cell? ⟨b, off + i * 8 + 6, none⟩ = some (.int .i64 (l.getD i default).f) ∧ wr.cell? ⟨b, off + i * 8 + 7, none⟩ = some (.int .i64 (l.getD i default).x) := by
  obtain ⟨b, off, ha, h⟩ := h.at hi
  exact ⟨b, off, ha, keep1 hb (h i hi 0 _ rfl), keep1 hb (h i hi 1 _ rfl), keep1 hb (h i hi 2 _ rfl), keep1 hb (h i hi 3 _ rfl), keep1 hb (h i hi 4 _ rfl), keep1 hb (h i hi 5 _ rfl), keep1 hb (h i hi 6 _ rfl), keep1 hb (h i hi 7 _ rfl)⟩
theorem filter_snoc {α : Type} [Inhabited α] (f : α → Bool) {l : List α} {k : Nat} (hk : k < l.length) : (l.take (k + 1)).filter f = (l.take k).filter f ++ (if f (l.getD k default) = true then [l.getD k default] else []) := by
  rw [List.take_add_one, List.getElem?_eq_getElem hk, List.filter_append, List.getD_eq_getElem?_getD, List.getElem?_eq_getElem hk]
  simp only [Option.toList_some, Option.getD_some]
  congr 1
  by_cases h : f l[k] = true <;> simp [h]
theorem filter_len_le {α : Type} (f : α → Bool) (l : List α) (k : Nat) : ((l.take k).filter f).length ≤ k := Nat.le_trans (List.length_filter_le _ _) (by simp; omega)
end Go.Proofs.YtgmabjlehjpboaaDoor
