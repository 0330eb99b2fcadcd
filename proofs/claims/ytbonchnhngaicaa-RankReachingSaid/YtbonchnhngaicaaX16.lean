/- Proved: small facts on lists of offers in memory, and append as a step of a region that draws its order, also of nothing. Conditions: those that each theorem names. -/
import Derived.Test.YtbonchnhngaicaaX15
import Derived.Deep.RegionLaw
import Derived.Deep.AppendSrc
import Derived.Maps.AppendAt
import Derived.Deep.Upon
namespace Go.Proofs.Ytbonchnhngaicaa
open Go.RowKit Go.Sort Go.BigFrame
set_option linter.unusedVariables false
set_option linter.unusedSimpArgs false

def flat (ls : List Ofr) : List Value := ls.flatMap Ofr.cs
theorem flat_cons (x : Ofr) (ls : List Ofr) : flat (x :: ls) = .int .i64 x.p :: .int .i64 x.t.s :: .int .i64 x.t.r :: .int .i64 x.c :: flat ls := rfl
theorem flat_len : ∀ ls : List Ofr, (flat ls).length = ls.length * 4
  | [] => rfl
  | x :: ls => by rw [flat_cons]; simp [flat_len ls]; omega
theorem flat_append (a b : List Ofr) : flat (a ++ b) = flat a ++ flat b := by simp [flat]
theorem flat_at : ∀ (ls : List Ofr) (i : Nat), i < ls.length → (flat ls)[i * 4]? = some (.int .i64 (ls.getD i default).p) ∧ (flat ls)[i * 4 + 1]? = some (.int .i64 (ls.getD i default).t.s) ∧ (flat ls)[i * 4 + 2]? = some (.int .i64 (ls.getD i default).t.r) ∧ (flat ls)[i * 4 + 3]? = some (.int .i64 (ls.getD i default).c)
  | [], i, h => by simp at h
  | x :: ls, 0, _ => ⟨rfl, rfl, rfl, rfl⟩
  | x :: ls, i + 1, h => by
    have := flat_at ls i (by simpa using h)
    rw [flat_cons, show (i + 1) * 4 = i * 4 + 1 + 1 + 1 + 1 from by omega]
    exact this
theorem flat_one (ls : List Ofr) : ∀ u ∈ flat ls, u.oneCell' = true := fun u hu => by
  simp only [flat, List.mem_flatMap] at hu
  obtain ⟨x, _, hx⟩ := hu
  simp at hx
  rcases hx with rfl | rfl | rfl | rfl <;> rfl
/-- The cells of the list lie one behind the other at the address. -/
def CellsAt (w : World) (b off : Nat) (cs : List Value) : Prop := ∀ (j : Nat) (u : Value), cs[j]? = some u → w.cell? ⟨b, off + j, none⟩ = some u
theorem cells_of {w : World} {b off : Nat} {ls : List Ofr} (h : ∀ i, i < ls.length → w.cell? ⟨b, off + i * 4, none⟩ = some (.int .i64 (ls.getD i default).p) ∧
    w.cell? ⟨b, off + i * 4 + 1, none⟩ = some (.int .i64 (ls.getD i default).t.s) ∧ w.cell? ⟨b, off + i * 4 + 2, none⟩ = some (.int .i64 (ls.getD i default).t.r) ∧ w.cell? ⟨b, off + i * 4 + 3, none⟩ = some (.int .i64 (ls.getD i default).c)) : CellsAt w b off (flat ls) := fun j u hj => by
  have hl : j < (flat ls).length := (List.getElem?_eq_some_iff.1 hj).1
  rw [flat_len] at hl
  have hi : j / 4 < ls.length := by omega
  have h1 := h (j / 4) hi
  have h2 := flat_at ls (j / 4) hi
  have hr : j % 4 = 0 ∨ j % 4 = 1 ∨ j % 4 = 2 ∨ j % 4 = 3 := by omega
  rcases hr with hr | hr | hr | hr
  · rw [show j = j / 4 * 4 from by omega] at hj ⊢
    rw [h2.1] at hj; rw [← hj]; exact h1.1
  · rw [show j = j / 4 * 4 + 1 from by omega] at hj ⊢
    rw [h2.2.1] at hj; rw [← hj, ← Nat.add_assoc]; exact h1.2.1
  · rw [show j = j / 4 * 4 + 2 from by omega] at hj ⊢
    rw [h2.2.2.1] at hj; rw [← hj, ← Nat.add_assoc]; exact h1.2.2.1
  · rw [show j = j / 4 * 4 + 3 from by omega] at hj ⊢
    rw [h2.2.2.2] at hj; rw [← hj, ← Nat.add_assoc]; exact h1.2.2.2
theorem offers_of {w : World} {b off : Nat} {ls : List Ofr} (h : CellsAt w b off (flat ls)) : OfAt w (some ⟨b, off, none⟩) ls :=
  .inr ⟨b, off, rfl, fun i hi => by
    have h2 := flat_at ls i hi
    exact ⟨h _ _ h2.1, by rw [Nat.add_assoc]; exact h _ _ h2.2.1, by rw [Nat.add_assoc]; exact h _ _ h2.2.2.1, by rw [Nat.add_assoc]; exact h _ _ h2.2.2.2⟩⟩
theorem CellsAt.keep {w w' : World} {b off : Nat} {cs : List Value} (h : CellsAt w b off cs) (hb : Below w.heap.size w w') : CellsAt w' b off cs := fun j u hj => keep1 hb (h j u hj)
theorem CellsAt.add {w : World} {b off : Nat} {cs : List Value} (h : CellsAt w b off cs) : ∀ j u, cs[j]? = some u → w.cell? ((⟨b, off, none⟩ : Addr).add j) = some u := fun j u hj => by
  rw [show (⟨b, off, none⟩ : Addr).add j = ⟨b, off + j, none⟩ from by unfold Addr.add; by_cases h0 : j = 0 <;> simp [h0]]
  exact h j u hj
theorem CellsAt.left {w : World} {b off : Nat} {xs ys : List Value} (h : CellsAt w b off (xs ++ ys)) : CellsAt w b off xs := fun j u hj =>
  h j u (by rw [List.getElem?_append_left (List.getElem?_eq_some_iff.1 hj).1]; exact hj)
theorem CellsAt.right {w : World} {b off : Nat} {xs ys : List Value} (h : CellsAt w b off (xs ++ ys)) : CellsAt w b (off + xs.length) ys := fun j u hj => by
  have := h (xs.length + j) u (by rw [List.getElem?_append_right (by omega), Nat.add_sub_cancel_left]; exact hj)
  rw [← Nat.add_assoc] at this; exact this
theorem CellsAt.take {w : World} {b off k : Nat} {l : List Ofr} (h : CellsAt w b off (flat l)) : CellsAt w b off (flat (l.take k)) := by
  have e : flat l = flat (l.take k) ++ flat (l.drop k) := by rw [← flat_append, List.take_append_drop]
  rw [e] at h; exact h.left
theorem CellsAt.drop {w : World} {b off k : Nat} {l : List Ofr} (h : CellsAt w b off (flat l)) (hk : k ≤ l.length) : CellsAt w b (off + k * 4) (flat (l.drop k)) := by
  have e : flat l = flat (l.take k) ++ flat (l.drop k) := by rw [← flat_append, List.take_append_drop]
  rw [e] at h
  have := h.right
  rwa [flat_len, List.length_take, Nat.min_eq_left hk] at this
theorem CellsAt.same {w w' : World} {b off : Nat} {cs : List Value} (h : CellsAt w b off cs) {base : Nat} (hw : Below base w w') (hb : b < base) : CellsAt w' b off cs := fun j u hj => (hw.cell (p := ⟨b, off + j, none⟩) hb).trans (h j u hj)

section
variable {P : Program}
/-- APPEND TO AN OWN ROW OF A SLICE THAT MAY BE EMPTY. -/
theorem run_append_rest (w : World) (base : Nat) (t ty e : TypeId) (i : TypeInfo) (z : Value) (size bytes : Nat) (ht : P.underlying t = some (.slice e)) (hi : P.info? e = some i) (hz : i.zero = some z) (hsize : i.size = size) (hby : i.bytes = bytes) (hzs : z.cells.size = size) (hsz : 0 < size)
    (v : Value) (n : Nat) (xs : List Value) (hown : w.ownsRow base e size v n xs) (ao : Option Addr) (m c : Nat) (news : List Value) (hl : news.length = m * size) (hnews : m = 0 ∨ ∃ b off, ao = some ⟨b, off, none⟩ ∧ CellsAt w b off news) (h1 : ∀ u ∈ news, u.oneCell' = true)
    (h63 : n + m ≤ maxLen) (hbytes : (n + m) * bytes ≤ 140737488355328) (hbase : base ≤ w.heap.size) :
    ∃ v' w', (Builtin.append_ #[t, t] ty #[v, .slice ao m c]).run P w = .ok v' w' ∧ w'.ownsRow base e size v' (n + m) (xs ++ news) ∧ Below base w w' := by
  rcases hnews with rfl | ⟨b, off, rfl, hc⟩
  · obtain rfl : news = [] := List.eq_nil_of_length_eq_zero (by simpa using hl)
    have hsrc : Src P i.size t (.slice ao 0 c) 0 [] w := by
      cases ao with
      | none => exact Src.ofNil w ht c
      | some a => exact Src.ofSlice w ht a 0 c [] (by simp) (fun j u hj => by simp at hj) (fun u hu => by cases hu)
    refine ⟨v, w, ?_, by simpa using hown, Below.refl _ _⟩
    rcases hown.2 with ⟨rfl, rfl⟩ | ⟨g, cap, cur, rfl, _, _, hnc, _⟩
    · exact run_append_nothing w t t ty e i ht hi none 0 0 (Nat.le_refl _) _ hsrc
    · exact run_append_nothing w t t ty e i ht hi _ n cap hnc _ hsrc
  · obtain ⟨v', w', hr, ho, hg, _, _⟩ := run_append_own_at (P := P) w base t ty e i z size bytes ht hi hz hsize hby hzs hsz v n xs hown ⟨b, off, none⟩ m c news hl hc.add h1 h63 hbytes hbase
    exact ⟨v', w', hr, ho, (Below.refl _ _).grown hg hbase (fun j hj => (hown.lt j hj).1)⟩
/-- append AT A STEP OF A REGION THAT DRAWS ITS ORDER, also of nothing. -/
theorem step_append_rest {w : World} {ops : Array Oper} {o : Oper} {a : Act} {K : Act → World → Prop} {Q : Exit → Act → World → Prop} {E : Prop} (hgd : o.guard = none) (s x : Operand) (t : TypeId)
    (ho : o.op = .call { callee := .builtin .append, args := #[s, x], argTypes := #[t, t] })
    (base : Nat) (e : TypeId) (i : TypeInfo) (z : Value) (size bytes : Nat) (ht : P.underlying t = some (.slice e)) (hi : P.info? e = some i) (hz : i.zero = some z)
    (hsize : i.size = size) (hby : i.bytes = bytes) (hzs : z.cells.size = size) (hsz : 0 < size)
    (v : Value) (n : Nat) (xs : List Value) (hs : a.eval s = v) (hown : w.ownsRow base e size v n xs)
    (ao : Option Addr) (m c : Nat) (news : List Value) (hx : a.eval x = .slice ao m c) (hl : news.length = m * size) (hnews : m = 0 ∨ ∃ b off, ao = some ⟨b, off, none⟩ ∧ CellsAt w b off news) (h1 : ∀ u ∈ news, u.oneCell' = true)
    (h63 : n + m ≤ maxLen) (hbytes : (n + m) * bytes ≤ 140737488355328) (hbase : base ≤ w.heap.size)
    (h : ∀ v' w', w'.ownsRow base e size v' (n + m) (xs ++ news) → Below base w w' → K (a.put o.dst v') w') :
    if Region.wanted o (yielded ops a.tmps) = true then Oper.wp P o a w K Q else E := by
  have hw : Region.wanted o (yielded ops a.tmps) = true := by simp [Region.wanted, hgd]
  rw [if_pos hw]
  obtain ⟨v', w', hr, h2, h3⟩ := run_append_rest (P := P) w base t o.type e i z size bytes ht hi hz hsize hby hzs hsz v n xs hown ao m c news hl hnews h1 h63 hbytes hbase
  unfold Oper.wp execOp
  simp only [ho, resolve, invoke, builtin, Sem.run_bind, Sem.run_pure, Result.andThen_ok, List.map_toArray, List.map_cons, List.map_nil, hs, hx, hr]
  exact h v' w' h2 h3
end
/-- What an own row of offers is. -/
theorem owns_offers {w : World} {base : Nat} {v : Value} {n : Nat} {ls : List Ofr} (h : w.ownsRow base 40 4 v n (flat ls)) (hn : n = ls.length) : ∃ a cap, v = .slice a n cap ∧ OfAt w a ls ∧ n ≤ cap ∧ cap ≤ maxLen := by
  have h0 := h
  rcases h.2 with ⟨rfl, hn0⟩ | ⟨g, cap, cur, rfl, hb, hg, hnc, hcm, hcs, htake⟩
  · exact ⟨none, 0, by rw [hn0], .inl (List.length_eq_zero_iff.1 (by omega)), by omega, by simp [maxLen]⟩
  · refine ⟨some ⟨g, 0, none⟩, cap, rfl, offers_of fun j u hj => ?_, by omega, hcm⟩
    have hlt : j < (flat ls).length := (List.getElem?_eq_some_iff.1 hj).1
    rw [flat_len] at hlt
    have := World.ownsRow.cellAt h0 j (by rw [hn]; exact hlt)
    rw [Nat.zero_add, this]; exact hj
end Go.Proofs.Ytbonchnhngaicaa
