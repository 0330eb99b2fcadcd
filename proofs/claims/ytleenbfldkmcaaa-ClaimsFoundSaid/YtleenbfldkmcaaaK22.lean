/- Proved: small facts on rows of structs in memory, and append as a step of a region that draws its order, also of nothing. Conditions: those that each theorem names. -/
import Derived.Test.YtleenbfldkmcaaaK21


import Derived.Deep.RegionLaw
import Derived.Deep.AppendSrc
import Derived.Maps.AppendAt
import Derived.Deep.Upon
namespace Go.Proofs.Ytleenbfldkmcaaa
open Go.RowKit Go.Sort Go.BigFrame
set_option linter.unusedVariables false
set_option linter.unusedSimpArgs false
/-- The cells of the list lie one behind the other at the address. -/
def CellsAt (w : World) (b off : Nat) (cs : List Value) : Prop := ∀ (j : Nat) (u : Value), cs[j]? = some u → w.cell? ⟨b, off + j, none⟩ = some u
theorem CellsAt.keep {w w' : World} {b off : Nat} {cs : List Value} (h : CellsAt w b off cs) (hb : Below w.heap.size w w') : CellsAt w' b off cs := fun j u hj => keep1 hb (h j u hj)
theorem CellsAt.add {w : World} {b off : Nat} {cs : List Value} (h : CellsAt w b off cs) : ∀ j u, cs[j]? = some u → w.cell? ((⟨b, off, none⟩ : Addr).add j) = some u := fun j u hj => by
  rw [show (⟨b, off, none⟩ : Addr).add j = ⟨b, off + j, none⟩ from by unfold Addr.add; by_cases h0 : j = 0 <;> simp [h0]]
  exact h j u hj
theorem cells_at {α : Type} [Inhabited α] {s : Nat} {cs : α → List Value} (hs : ∀ x, (cs x).length = s) (hp : 0 < s) {w : World} {b off : Nat} {l : List α} (h : At s cs w (some ⟨b, off, none⟩) l) : CellsAt w b off (flatL cs l) := fun j u hj => by
  have hl : j < (flatL cs l).length := (List.getElem?_eq_some_iff.1 hj).1
  rw [flatL_len hs] at hl
  have hi : j / s < l.length := Nat.div_lt_of_lt_mul (by rw [Nat.mul_comm]; exact hl)
  have hr : j % s < s := Nat.mod_lt _ hp
  have hd : j / s * s + j % s = j := by rw [Nat.mul_comm]; exact Nat.div_add_mod j s
  rw [← hd, flatL_at hs l _ _ hi hr] at hj
  obtain ⟨b', off', e, hc⟩ := h.at hi
  simp at e
  obtain ⟨rfl, rfl⟩ := e
  have := hc _ hi _ _ hj
  rw [Nat.add_assoc, hd] at this
  exact this
theorem flat_one {α : Type} {cs : α → List Value} (h : ∀ x, ∀ u ∈ cs x, u.oneCell' = true) (l : List α) : ∀ u ∈ flatL cs l, u.oneCell' = true := fun u hu => by
  simp only [flatL, List.mem_flatMap] at hu
  obtain ⟨x, _, hx⟩ := hu
  exact h x u hx
section
variable {P : Program}
/-- APPEND TO AN OWN ROW OF A SLICE THAT MAY BE EMPTY. -/
theorem run_append_rest (w : World) (base : Nat) (t ty e : TypeId) (i : TypeInfo) (z : Value) (size bytes : Nat) (ht : P.underlying t = some (.slice e)) (hi : P.info? e = some i) (hz : i.zero = some z) (hsize : i.size = size) (hby : i.bytes = bytes) (hzs : z.cells.size = size) (hsz : 0 < size)
    (v : Value) (n : Nat) (xs : List Value) (hown : w.ownsRow base e size v n xs) (ao : Option Addr) (m c : Nat) (news : List Value) (hl : news.length = m * size) (hnews : m = 0 ∨ ∃ b off, ao = some ⟨b, off, none⟩ ∧ CellsAt w b off news) (h1 : ∀ u ∈ news, u.oneCell' = true)
    (h63 : n + m ≤ maxLen) (hbytes : (n + m) * bytes ≤ 140737488355328) (hbase : base ≤ w.heap.size) :
    ∃ v' w', (Builtin.append_ #[t, t] ty #[v, .slice ao m c]).run P w = .ok v' w' ∧ w'.ownsRow base e size v' (n + m) (xs ++ news) ∧ Below base w w' := by
  rcases hnews with rfl | ⟨b, off, rfl, hc⟩
  · obtain rfl : news = [] := List.eq_nil_of_length_eq_zero (by simpa using hl)
    have hsrc : Src P i.size t (.slice ao 0 c) 0 [] w := by
      cases ao with
      | none => exact Src.ofNil w ht c
      | some a => exact Src.ofSlice w ht a 0 c [] (by simp) (fun j u hj => by simp at hj) (fun u hu => by cases hu)
    refine ⟨v, w, ?_, by simpa using hown, Below.refl _ _⟩
    rcases hown.2 with ⟨rfl, rfl⟩ | ⟨g, cap, cur, rfl, _, _, hnc, _⟩
    · exact run_append_nothing w t t ty e i ht hi none 0 0 (Nat.le_refl _) _ hsrc
    · exact run_append_nothing w t t ty e i ht hi _ n cap hnc _ hsrc
  · obtain ⟨v', w', hr, ho, hg, _, _⟩ := run_append_own_at (P := P) w base t ty e i z size bytes ht hi hz hsize hby hzs hsz v n xs hown ⟨b, off, none⟩ m c news hl hc.add h1 h63 hbytes hbase
    exact ⟨v', w', hr, ho, (Below.refl _ _).grown hg hbase (fun j hj => (hown.lt j hj).1)⟩
/-- append AT A STEP OF A REGION THAT DRAWS ITS ORDER, also of nothing. -/
theorem step_append_rest {w : World} {ops : Array Oper} {o : Oper} {a : Act} {K : Act → World → Prop} {Q : Exit → Act → World → Prop} {E : Prop} (hgd : o.guard = none) (s x : Operand) (t : TypeId)
    (ho : o.op = .call { callee := .builtin .append, args := #[s, x], argTypes := #[t, t] })
    (base : Nat) (e : TypeId) (i : TypeInfo) (z : Value) (size bytes : Nat) (ht : P.underlying t = some (.slice e)) (hi : P.info? e = some i) (hz : i.zero = some z)
    (hsize : i.size = size) (hby : i.bytes = bytes) (hzs : z.cells.size = size) (hsz : 0 < size)
    (v : Value) (n : Nat) (xs : List Value) (hs : a.eval s = v) (hown : w.ownsRow base e size v n xs)
    (ao : Option Addr) (m c : Nat) (news : List Value) (hx : a.eval x = .slice ao m c) (hl : news.length = m * size) (hnews : m = 0 ∨ ∃ b off, ao = some ⟨b, off, none⟩ ∧ CellsAt w b off news) (h1 : ∀ u ∈ news, u.oneCell' = true)
    (h63 : n + m ≤ maxLen) (hbytes : (n + m) * bytes ≤ 140737488355328) (hbase : base ≤ w.heap.size)
    (h : ∀ v' w', w'.ownsRow base e size v' (n + m) (xs ++ news) → Below base w w' → K (a.put o.dst v') w') :
    if Region.wanted o (yielded ops a.tmps) = true then Oper.wp P o a w K Q else E := by
  have hw : Region.wanted o (yielded ops a.tmps) = true := by simp [Region.wanted, hgd]
  rw [if_pos hw]
  obtain ⟨v', w', hr, h2, h3⟩ := run_append_rest (P := P) w base t o.type e i z size bytes ht hi hz hsize hby hzs hsz v n xs hown ao m c news hl hnews h1 h63 hbytes hbase
  unfold Oper.wp execOp
  simp only [ho, resolve, invoke, builtin, Sem.run_bind, Sem.run_pure, Result.andThen_ok, List.map_toArray, List.map_cons, List.map_nil, hs, hx, hr]
  exact h v' w' h2 h3
end
end Go.Proofs.Ytleenbfldkmcaaa
