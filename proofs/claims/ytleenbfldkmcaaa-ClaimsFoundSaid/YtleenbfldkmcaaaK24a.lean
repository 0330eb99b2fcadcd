/- Proved: append of elements as a step of a region that draws its order, with the block that it writes; a row made beside another block. Conditions: those that each theorem names. -/
import Derived.Test.YtleenbfldkmcaaaK22b
namespace Go.Proofs.Ytleenbfldkmcaaa
open Go.RowKit Go.Sort Go.BigFrame
set_option linter.unusedVariables false
set_option linter.unusedSimpArgs false
theorem CellsAt.ad {w : World} {b off : Nat} {cs : List Value} (h : CellsAt w b off cs) : ∀ j u, cs[j]? = some u → w.cell? ((⟨b, off, none⟩ : Addr).add j) = some u := h.add
theorem step_append_grown {P : Program} {w : World} {ops : Array Oper} {o : Oper} {a : Act} {K : Act → World → Prop} {Q : Exit → Act → World → Prop} {E : Prop} (hgd : o.guard = none) (s x : Operand) (t : TypeId)
    (ho : o.op = .call { callee := .builtin .append, args := #[s, x], argTypes := #[t, t] })
    (base : Nat) (e : TypeId) (i : TypeInfo) (z : Value) (size bytes : Nat) (ht : P.underlying t = some (.slice e)) (hi : P.info? e = some i) (hz : i.zero = some z)
    (hsize : i.size = size) (hby : i.bytes = bytes) (hzs : z.cells.size = size) (hsz : 0 < size)
    (v : Value) (n : Nat) (xs : List Value) (hs : a.eval s = v) (hown : w.ownsRow base e size v n xs)
    (b off m c : Nat) (news : List Value) (hx : a.eval x = .slice (some ⟨b, off, none⟩) m c) (hl : news.length = m * size) (hnews : CellsAt w b off news) (h1 : ∀ u ∈ news, u.oneCell' = true)
    (h63 : n + m ≤ maxLen) (hbytes : (n + m) * bytes ≤ 140737488355328) (hbase : base ≤ w.heap.size)
    (h : ∀ v' w', w'.ownsRow base e size v' (n + m) (xs ++ news) → w.grownBy w' v.ownBlock → (v'.ownBlock = v.ownBlock ∨ v'.ownBlock = some w.heap.size) → Below base w w' → K (a.put o.dst v') w') :
    if Region.wanted o (yielded ops a.tmps) = true then Oper.wp P o a w K Q else E := by
  have hw : Region.wanted o (yielded ops a.tmps) = true := by simp [Region.wanted, hgd]
  rw [if_pos hw]
  obtain ⟨v', w', hr, h2, h3, -, h4⟩ := run_append_own_at (P := P) w base t o.type e i z size bytes ht hi hz hsize hby hzs hsz v n xs hown ⟨b, off, none⟩ m c news hl hnews.ad h1 h63 hbytes hbase
  unfold Oper.wp execOp
  simp only [ho, resolve, invoke, builtin, Sem.run_bind, Sem.run_pure, Result.andThen_ok, List.map_toArray, List.map_cons, List.map_nil, hs, hx, hr]
  exact h v' w' h2 h3 h4 ((Below.refl _ _).grown h3 hbase (fun j hj => (hown.lt j hj).1))
theorem made_snd (w : World) (s : Obj) : ((w.alloc s).alloc (.cells #[] 61)).ownsRow w.heap.size 61 31 (.slice (some ⟨w.heap.size + 1, 0, none⟩) 0 0) 0 [] := by
  have := World.ownsRow_made (base := w.heap.size) (size := 31) (e := 61) (w.alloc s) #[] 0 (by simp) (by decide) rfl
  simpa using this
theorem CellsAt.new (w : World) (cs : List Value) (ty : TypeId) : CellsAt (w.alloc (.cells cs.toArray ty)) w.heap.size 0 cs := fun j u hj => by rw [Nat.zero_add]; exact CAt.new w cs ty j u hj
theorem CellsAt.newS (w : World) (o : Obj) (cs : List Value) (ty : TypeId) : CellsAt ((w.alloc o).alloc (.cells cs.toArray ty)) (w.heap.size + 1) 0 cs := fun j u hj => by
  have := CellsAt.new (w.alloc o) cs ty j u hj
  simpa using this
theorem CellsAt.al {w : World} {b off : Nat} {cs : List Value} (h : CellsAt w b off cs) (o : Obj) : CellsAt (w.alloc o) b off cs := h.keep (ball (Below.refl _ _) _)
theorem CellsAt.grown {w w' : World} {b off : Nat} {cs : List Value} {row : Option Nat} (h : CellsAt w b off cs) (hg : w.grownBy w' row) (hne : ∀ k, row = some k → k ≠ b) : CellsAt w' b off cs := fun j u hj =>
  hg.cell (h j u hj) (fun e => hne b e.symm rfl)
theorem yield_len {t r : Tv} {me fr : Int} {N : List Nb} {w w' : World} (ht : t.ok w) (hr : r.ok w') (e : r.T = yieldV t.T me fr N) (h : t.nu ≤ 1000 ∧ t.ng ≤ 1000) : r.nu ≤ 1000 ∧ r.ng ≤ 1000 := by
  have h1 := List.length_filter_le (fun u => !lostB u me fr N) t.T.U
  have h2 := List.length_filter_le (fun g => !voidB g fr N) t.T.G
  rw [hr.un, hr.gn, e]
  rw [ht.un, ht.gn] at h
  unfold yieldV
  simp only
  omega
theorem flatL_three {α : Type} (cs : α → List Value) (a b : List α) (x : α) : flatL cs ((a ++ b) ++ [x]) = (flatL cs a ++ flatL cs b) ++ cs x := by simp [flatL]
end Go.Proofs.Ytleenbfldkmcaaa
