/- Proved: small facts on a map of clashes that a call has made, as a set given by a list; looking up, laying in, ranging. Conditions: those that each theorem names. -/
import Derived.Test.YtleenbfldkmcaaaK15
import Derived.Maps.RangeWalk
import Derived.Maps.Ext
namespace Go.Proofs.Ytleenbfldkmcaaa
open Go.RowKit Go.Sort Go.Maps Go.BigFrame
set_option linter.unusedVariables false
set_option linter.unusedSimpArgs false

structure Cz.wf (x : Cz) : Prop where
  s : I64 x.s
  o : I64 x.o
  l : I64 x.l
  f : I64 x.f
  c : I64 x.c
theorem key_cz {x : Cz} (h : x.wf) : keyOf Try.prog 75 x.v = some (zk x) := key75 h.s h.o h.l h.f h.c
theorem zk_inj {x y : Cz} (hx : x.wf) (hy : y.wf) (h : zk x = zk y) : x = y := by
  have := law75.inj (key_cz hx) (by rw [h]; exact key_cz hy)
  cases x; cases y
  simpa using this
theorem zk_key {x : Cz} (h : x.wf) : WideAt.IsKeyLit (zk x) := law75.key (key_cz h)
abbrev tru : DataW Unit := .lit (.bool true)
abbrev czD (acc : List Cz) : DataW Unit := setOf tru (acc.map zk)
theorem czD_snoc (acc : List Cz) (x : Cz) : czD (acc ++ [x]) = (czD acc).put (zk x) tru := by
  unfold czD; rw [List.map_append, List.map_cons, List.map_nil, setOf_snoc]
theorem keys_wf {acc : List Cz} (h : ∀ x ∈ acc, x.wf) : ∀ k ∈ acc.map zk, WideAt.IsKeyLit k := fun k hk => by
  obtain ⟨x, hx, rfl⟩ := List.mem_map.1 hk
  exact zk_key (h x hx)
theorem has_czD {acc : List Cz} (h : ∀ x ∈ acc, x.wf) (k : Lit) : Maps.has (czD acc) k = (acc.map zk).any (fun y => y.sameKey k) := has_setOf tru k _ (keys_wf h)
theorem has_czD_iff {acc : List Cz} (h : ∀ x ∈ acc, x.wf) (k : Lit) : Maps.has (czD acc) k = true ↔ ∃ x ∈ acc, zk x = k := by
  rw [has_czD h, List.any_eq_true]
  constructor
  · rintro ⟨y, hy, hs⟩
    obtain ⟨x, hx, rfl⟩ := List.mem_map.1 hy
    exact ⟨x, hx, WideAt.sameKey_eq hs⟩
  · rintro ⟨x, hx, rfl⟩
    exact ⟨zk x, List.mem_map.2 ⟨x, hx, rfl⟩, WideAt.sameKey_self (zk_key (h x hx))⟩
theorem at_fold (k : Lit) (z : DataW Unit) : ∀ (l : List Lit) (m : DataW Unit), IsMap m → (∀ x ∈ l, WideAt.IsKeyLit x) → (k ∈ l → (l.foldl (fun m x => m.put x tru) m).atKey k z = tru) ∧ (k ∉ l → (l.foldl (fun m x => m.put x tru) m).atKey k z = m.atKey k z)
  | [], m, _, _ => ⟨fun h => (by cases h), fun _ => rfl⟩
  | x :: l, m, hm, hk => by
    obtain ⟨h1, h2⟩ := at_fold k z l _ (hm.put x tru) fun y hy => hk y (List.mem_cons_of_mem _ hy)
    rw [List.foldl_cons]
    refine ⟨fun h => ?_, fun h => ?_⟩
    · by_cases hl : k ∈ l
      · exact h1 hl
      · obtain rfl : k = x := (List.mem_cons.1 h).elim id fun h' => absurd h' hl
        rw [h2 hl, atKey_put_same hm (hk _ List.mem_cons_self)]
    · rw [h2 fun h' => h (List.mem_cons_of_mem _ h'), atKey_put_other fun e => h (by rw [e]; exact List.mem_cons_self)]
theorem at_czD {acc : List Cz} (h : ∀ x ∈ acc, x.wf) {k : Lit} (z : DataW Unit) (hk : k ∈ acc.map zk) : (czD acc).atKey k z = tru := (at_fold k z _ _ isMap_empty (keys_wf h)).1 hk
theorem at_czD' {acc : List Cz} (h : ∀ x ∈ acc, x.wf) {k : Lit} (z : DataW Unit) (hk : k ∉ acc.map zk) : (czD acc).atKey k z = z := ((at_fold k z _ _ isMap_empty (keys_wf h)).2 hk).trans rfl
theorem mem_zk {acc : List Cz} (h : ∀ x ∈ acc, x.wf) {x : Cz} (hx : x.wf) : zk x ∈ acc.map zk ↔ x ∈ acc := by
  rw [List.mem_map]
  exact ⟨fun ⟨y, hy, e⟩ => by rw [← zk_inj (h y hy) hx e]; exact hy, fun hm => ⟨x, hm, rfl⟩⟩
/-- Block b is a map of at most n entries that says which clashes are listed. -/
def CSet (w : World) (b n : Nat) (acc : List Cz) : Prop := w.ownsMap Try.prog 75 (plainElem Try.prog 4) b n (czD acc) ∧ ∀ x ∈ acc, x.wf
section
variable {w w' : World} {b n : Nat} {acc : List Cz}
theorem CSet.lt (h : CSet w b n acc) : b < w.heap.size := h.1.lt
theorem CSet.same (h : CSet w b n acc) (hb : w'.heap[b]? = w.heap[b]?) : CSet w' b n acc := ⟨ownsMap_same h.1 hb, h.2⟩
theorem CSet.keep (h : CSet w b n acc) (hb : Below w.heap.size w w') : CSet w' b n acc := h.same (hb.block b h.lt)
theorem CSet.grown {row : Option Nat} (h : CSet w b n acc) (hg : w.grownBy w' row) (hne : some b ≠ row) : CSet w' b n acc := h.same (hg.block b h.lt hne)
theorem CSet.made (w : World) : CSet (w.alloc (.map #[] 0)) w.heap.size 0 [] := ⟨World.ownsMap_made _ _ _ _, fun x hx => by cases hx⟩
theorem CSet.look (h : CSet w b n acc) {x : Cz} (hx : x.wf) : (Instr.lookup 73 (.map (some b)) x.v false).run Try.prog w = .ok (.bool (decide (x ∈ acc))) w := by
  obtain ⟨v, ps, hrun, hv⟩ := h.1.lookup law75 Try.underlying73 (Try.zeroValue4 w) (plainElem_bool Try.underlying4 false) (key_cz hx)
  obtain ⟨y, rfl, hy⟩ := plainElem_bool_inv Try.underlying4 hv
  rw [hrun]
  by_cases hm : x ∈ acc
  · rw [at_czD h.2 _ ((mem_zk h.2 hx).2 hm)] at hy
    simp only [Prod.mk.injEq, DataW.lit.injEq, Lit.bool.injEq] at hy
    rw [← hy.1]; simp [hm]
  · rw [at_czD' h.2 _ (fun e => hm ((mem_zk h.2 hx).1 e))] at hy
    simp only [Prod.mk.injEq, DataW.lit.injEq, Lit.bool.injEq] at hy
    rw [← hy.1]; simp [hm]
theorem CSet.put (h : CSet w b n acc) (hn : n < maxLen) {x : Cz} (hx : x.wf) : ∃ w', (Instr.mapUpdate 73 (.map (some b)) x.v (.bool true)).run Try.prog w = .ok () w' ∧ CSet w' b (n + 1) (acc ++ [x]) ∧ w.grownBy w' (some b) := by
  obtain ⟨w', hrun, h3, h4⟩ := h.1.update law75 Try.underlying73 hn (key_cz hx) (plainElem_bool Try.underlying4 true)
  refine ⟨w', hrun, ⟨?_, fun y hy => ?_⟩, h4⟩
  · rw [czD_snoc]; exact h3
  · rw [List.mem_append, List.mem_singleton] at hy
    rcases hy with hy | rfl
    · exact h.2 y hy
    · exact hx
/-- Two maps that say the same have as many entries. -/
theorem CSet.alike {b' n' : Nat} {acc' : List Cz} {w2 : World} (h : CSet w b n acc) (h' : CSet w2 b' n' acc') (he : ∀ x, x ∈ acc ↔ x ∈ acc') : czD acc = czD acc' := by
  have hk : ∀ k, Maps.has (czD acc) k = Maps.has (czD acc') k := fun k => by
    rw [Bool.eq_iff_iff, has_czD_iff h.2, has_czD_iff h'.2]
    exact ⟨fun ⟨x, hx, e⟩ => ⟨x, (he x).1 hx, e⟩, fun ⟨x, hx, e⟩ => ⟨x, (he x).2 hx, e⟩⟩
  refine Maps.ext (h.1.canon law75) (h'.1.canon law75) hk fun k z hh => ?_
  obtain ⟨x, hx, rfl⟩ := (has_czD_iff h.2 k).1 hh
  rw [at_czD h.2 _ (List.mem_map.2 ⟨x, hx, rfl⟩), at_czD h'.2 _ (List.mem_map.2 ⟨x, (he x).1 hx, rfl⟩)]
theorem CSet.len (h : CSet w b n acc) (ty : TypeId) : (Builtin.len_ #[73] ty #[.map (some b)]).run Try.prog w = .ok (.int .i64 (Maps.size (czD acc))) w := h.1.len Try.underlying73 ty
end
/-- A range over such a map: what is still to come is of the list. -/
def CRng (w : World) (b r n : Nat) (acc : List Cz) : Prop := ∃ left cnt, w.ranges Try.prog 75 (plainElem Try.prog 4) b r n (czD acc) left cnt ∧ (∀ kl, left kl = true → ∃ x ∈ acc, zk x = kl) ∧ ∀ x ∈ acc, x.wf
theorem CRng.set {w : World} {b r n : Nat} {acc : List Cz} (h : CRng w b r n acc) : CSet w b n acc := by
  obtain ⟨left, cnt, h1, -, h3⟩ := h
  exact ⟨h1.owns, h3⟩
theorem CRng.kept {w w' : World} {row : Option Nat} {b r n : Nat} {acc : List Cz} (h : CRng w b r n acc) (hg : w.grownBy w' row) (hb : some b ≠ row) (hr : some r ≠ row) : CRng w' b r n acc := by
  obtain ⟨left, cnt, h1, h2, h3⟩ := h
  exact ⟨left, cnt, h1.kept hg hb hr, h2, h3⟩
theorem CRng.lt {w : World} {b r n : Nat} {acc : List Cz} (h : CRng w b r n acc) : r < w.heap.size := by
  obtain ⟨left, cnt, h1, -⟩ := h
  exact h1.lt
section
variable (w : World) {ops : Array Oper} {rest : List Oper} {o : Oper} {a : Act} {Q : Exit → Act → World → Prop}
theorem wpList_range_cs (hg : o.guard = none) (m : Operand) (hop : o.op = Op.range 73 m) (b n : Nat) (acc : List Cz) (hm : a.eval m = .map (some b)) (h : CSet w b n acc)
    (hK : ∀ w', CRng w' b w.heap.size n acc → w.grownBy w' none → w'.heap.size = w.heap.size + 1 → wpList Try.prog ops Q rest (a.put o.dst (.pointer (some ⟨w.heap.size, 0, none⟩))) w') : wpList Try.prog ops Q (o :: rest) a w :=
  wpList_range_own w hg m 73 hop 75 4 law75 Try.underlying73 (plainElem Try.prog 4) b n (czD acc) hm h.1 fun w' h1 h2 h3 =>
    hK w' ⟨_, _, h1, fun kl hkl => (has_czD_iff h.2 kl).1 hkl, h.2⟩ h2 h3
theorem wpList_next_cs (hg : o.guard = none) (it : Operand) (hop : o.op = Op.next it false) (b r n : Nat) (acc : List Cz) (hit : a.eval it = .pointer (some ⟨r, 0, none⟩)) (h : CRng w b r n acc)
    (hDone : w.rangeLeft b r = 0 → wpList Try.prog ops Q rest (a.put o.dst (.tuple #[.bool false])) w)
    (hMore : ∀ (y : Cz) (v : Value) (w' : World), y ∈ acc → y.wf → CRng w' b r n acc → w'.rangeLeft b r < w.rangeLeft b r → w.grownBy w' (some r) → w'.heap.size = w.heap.size →
      (Instr.entry (.pointer (some ⟨r, 0, none⟩))).run Try.prog w' = .ok (.tuple #[.agg #[.int .i64 y.s, .int .i64 y.o, .int .i64 y.l, .int .i64 y.f, .int .i64 y.c], v]) w' → wpList Try.prog ops Q rest (a.put o.dst (.tuple #[.bool true, .agg #[.int .i64 y.s, .int .i64 y.o, .int .i64 y.l, .int .i64 y.f, .int .i64 y.c], v])) w') : wpList Try.prog ops Q (o :: rest) a w := by
  obtain ⟨left, cnt, h1, h2, h3⟩ := h
  refine wpList_next_ranges w hg it hop 75 law75 (plainElem Try.prog 4) (fun v : Value => v) (fun v : Value => v) (fun key kl _ => ⟨key, rfl⟩) (fun v y _ => ⟨v, rfl⟩) b r n (czD acc) left cnt hit h1 (fun h0 _ => hDone (by rw [h1.left_eq]; exact h0)) ?_
  intro x c kl y w' cnt' hkey hl hc hat hr hlt hgr hs hen
  obtain ⟨z, hz, rfl⟩ := h2 kl hl
  obtain rfl : x = z.v := law75.inj hkey (key_cz (h3 z hz))
  refine hMore z c w' hz (h3 z hz) ⟨_, _, hr, fun kl' hkl' => h2 kl' (by simp only [Bool.and_eq_true] at hkl'; exact hkl'.1), h3⟩ ?_ hgr hs hen
  rw [hr.left_eq, h1.left_eq]; exact hlt
end
end Go.Proofs.Ytleenbfldkmcaaa
