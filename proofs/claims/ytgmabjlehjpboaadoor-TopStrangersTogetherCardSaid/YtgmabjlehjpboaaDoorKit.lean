/- Proved: small facts on worlds, on cells and on how plain data are read out of memory, for whatever program. Conditions: those that each theorem names. -/
import Derived.Test.YtgmabjlehjpboaaDoorRows
import Derived.WalkKit
import Derived.WalkLawsBesides
import Derived.WalkSpells
import Derived.Lib.Hide
import Derived.Lib.MinMax
import Derived.Lib.QuietBelow
import Derived.BigQuiet
import Derived.OpenShut
import Derived.Deep.RegionHeld3
import Derived.Deep.DeepCutAuto
namespace Go.Proofs.YtgmabjlehjpboaaDoor.K
open Go.RowKit Go.Sort
set_option linter.unusedVariables false

/-! ### worlds -/
theorem bstep {w0 w w' : World} (h : Below w0.heap.size w0 w) (h' : Below w.heap.size w w') : Below w0.heap.size w0 w' :=
  h.trans (h'.mono h.size)
theorem ball {w0 w : World} (h : Below w0.heap.size w0 w) (o : Obj) : Below w0.heap.size w0 (w.alloc o) := h.alloc h.size o
theorem keep1 {w w' : World} {a : Addr} {v : Value} (hb : Below w.heap.size w w') (h : w.cell? a = some v) : w'.cell? a = some v :=
  (hb.cell (World.block_lt_of_cell? w a h)).trans h
theorem keepF {w w' : World} {a : Addr} {v : Value} (hb : Below w.heap.size w w') (h : w.cell? a = some v) (hf : w.frozen? a = false) : w'.frozen? a = false :=
  (hb.frozen (World.block_lt_of_cell? w a h)).trans hf
/-- An old cell behind a new block. -/
theorem cell_alloc_old {w : World} {o : Obj} {a : Addr} (h : (w.cell? a).isSome = true) : (w.alloc o).cell? a = w.cell? a := by
  obtain ⟨v, hv⟩ := Option.isSome_iff_exists.1 h
  have := World.block_lt_of_cell? w a hv
  exact World.cell?_of_block (w := w) (Below.heap_alloc w o a.block this)
theorem old1 {w : World} {a : Addr} {v : Value} (h : w.cell? a = some v) (o : Obj) : (w.alloc o).cell? a = some v := by
  rw [cell_alloc_old (by rw [h]; rfl)]; exact h
theorem new0 {w : World} {vs : Array Value} {t : TypeId} {i b : Nat} {v : Value} (hb : b = w.heap.size) (h : vs[i]? = some v) : (w.alloc (.cells vs t)).cell? ⟨b, i, none⟩ = some v := by
  subst hb; simp [h]
theorem frz_new {w : World} {a : Addr} (h : w.heap.size ≤ a.block) : w.frozen? a = false := by
  simp [World.frozen?, Array.getElem?_eq_none h]
theorem old2 {w : World} {a : Addr} {v : Value} (h : w.cell? a = some v) (o p : Obj) : ((w.alloc o).alloc p).cell? a = some v := old1 (old1 h o) p
theorem old3 {w : World} {a : Addr} {v : Value} (h : w.cell? a = some v) (o p q : Obj) : (((w.alloc o).alloc p).alloc q).cell? a = some v := old1 (old2 h o p) q
theorem bcell {W w1 : World} (hb : Below W.heap.size W w1) : (∀ b o, b < W.heap.size → w1.cell? ⟨b, o, none⟩ = W.cell? ⟨b, o, none⟩) ∧ (∀ b o, b < W.heap.size → w1.frozen? ⟨b, o, none⟩ = W.frozen? ⟨b, o, none⟩) :=
  ⟨fun b o h => hb.cell (p := ⟨b, o, none⟩) h, fun b o h => hb.frozen (p := ⟨b, o, none⟩) h⟩
/-- A callee's contract met in a world of the class 'this world, some blocks and draws later'. -/
theorem rg_of {P : Program} {f : FuncId} {args : Array Value} {w : World} {d : Nat} {os : Array Obj} {v : Value}
    (h : ∀ w', Below w.heap.size w w' → Calls P f args w' fun e w'' => e = .returned v ∧ Below w'.heap.size w' w'') :
    Calls P f args (grow (redrawn w d) os) fun e w'' => e = .returned v ∧ ∃ p : Regrown, w'' = grow (redrawn w p.d) p.os :=
  Calls.regrown_of (h _ (below_regrown w d os))
theorem rg_same {P : Program} {f : FuncId} {args : Array Value} {w : World} {d : Nat} {os : Array Obj} {v : Value}
    (h : ∀ w', Below w.heap.size w w' → Calls P f args w' fun e w'' => e = .returned v ∧ w' = w'') :
    Calls P f args (grow (redrawn w d) os) fun e w'' => e = .returned v ∧ ∃ p : Regrown, w'' = grow (redrawn w p.d) p.os :=
  (h _ (below_regrown w d os)).mono fun _ _ ⟨a, b⟩ => ⟨a, ⟨d, os⟩, b.symm⟩
/-- A contract that says 'the very world', said as one that keeps what was there. -/
theorem callsB {P : Program} {f : FuncId} {args : Array Value} {w : World} {v : Value} (h : Calls P f args w fun e w' => e = .returned v ∧ w = w') :
    Calls P f args w fun e w' => e = .returned v ∧ Below w.heap.size w w' := h.mono fun _ _ ⟨a, b⟩ => ⟨a, b ▸ Below.refl _ _⟩

/-! ### plain data -/
/-- A cell's kind: a kind of integers, or (none) a truth value. -/
abbrev CK := Option IntKind
def ckOk : CK → Value → Prop
  | some k, v => ∃ n, v = .int k n ∧ (Lit.int k n).wf = true
  | none, v => ∃ b, v = .bool b

def flatFields (P : Program) (g : TypeId → Option (List CK)) : List Field → Nat → Option (List CK)
  | [], _ => some []
  | f :: r, off => do
    let ks ← g f.type
    let rs ← flatFields P g r (off + ks.length)
    if f.offset = off ∧ P.cellsOf f.type = ks.length then some (ks ++ rs) else none

/-- The kinds of the cells of a type that is built of numbers and truth values alone. -/
def flatK (P : Program) : Nat → TypeId → Option (List CK)
  | 0, _ => none
  | n + 1, t =>
    match P.underlying t with
    | some (.int k) => some [some k]
    | some .bool => some [none]
    | some (.struct fs) => do
      let ks ← flatFields P (flatK P n) fs.toList 0
      if P.cellsOf t = ks.length then some ks else none
    | some (.array len e) => do
      let ks ← flatK P n e
      if P.cellsOf e = ks.length ∧ P.cellsOf t = len * ks.length then some (List.replicate len ks).flatten else none
    | _ => none

def Flat (ks : List CK) (cs : List Value) : Prop := cs.length = ks.length ∧ ∀ (i : Nat) (k : CK), ks[i]? = some k → ∃ v, cs[i]? = some v ∧ ckOk k v

section
variable {H : Type} {enc : TypeId × Value → H} {P : Program} {w : World} {base : Nat} {spare : Nat → Bool} {held : Bool}

theorem flat_fields {n : Nat} (ih : ∀ (t : TypeId) (ks : List CK) (fuel : Nat) (cs : List Value) (x : DataW H × List MemPlace), flatK P n t = some ks → DataW.trod enc P w base spare held fuel t cs = some x → Flat ks cs)
    (fuel : Nat) (cs : List Value) : ∀ (fs : List Field) (off : Nat) (ks : List CK), flatFields P (flatK P n) fs off = some ks →
      (∀ f ∈ fs, ∃ x, DataW.trod enc P w base spare held fuel f.type ((cs.drop f.offset).take (P.cellsOf f.type)) = some x) → off ≤ cs.length →
      ∀ (i : Nat) (k : CK), ks[i]? = some k → ∃ v, cs[off + i]? = some v ∧ ckOk k v
  | [], off, ks, h, _, _, i, k, hk => by simp [flatFields] at h; subst h; simp at hk
  | f :: r, off, ks, h, hf, ho, i, k, hk => by
    simp only [flatFields, Option.bind_eq_bind, Option.bind_eq_some_iff] at h
    obtain ⟨k1, h1, k2, h2, h3⟩ := h
    split at h3
    · rename_i hc
      simp only [Option.some.injEq] at h3
      subst h3
      obtain ⟨x, hx⟩ := hf f List.mem_cons_self
      have hF := ih f.type k1 fuel _ x h1 hx
      have hlen : k1.length ≤ cs.length - off := by
        have := hF.1
        rw [List.length_take, List.length_drop, hc.1, hc.2] at this
        omega
      rw [List.getElem?_append] at hk
      split at hk
      · rename_i hi
        obtain ⟨v, hv, hok⟩ := hF.2 i k hk
        refine ⟨v, ?_, hok⟩
        rw [List.getElem?_take, if_pos (by rw [hc.2]; exact hi), List.getElem?_drop, hc.1] at hv
        exact hv
      · rename_i hi
        have := flat_fields ih fuel cs r (off + k1.length) k2 h2 (fun f' hf' => hf f' (List.mem_cons_of_mem _ hf')) (by omega) (i - k1.length) k hk
        rw [show off + k1.length + (i - k1.length) = off + i from by omega] at this
        exact this
    · cases h3

theorem flat_array {n : Nat} (ih : ∀ (t : TypeId) (ks : List CK) (fuel : Nat) (cs : List Value) (x : DataW H × List MemPlace), flatK P n t = some ks → DataW.trod enc P w base spare held fuel t cs = some x → Flat ks cs)
    (fuel : Nat) (cs : List Value) (e : TypeId) (ks : List CK) (hk : flatK P n e = some ks) (hc : P.cellsOf e = ks.length) : ∀ (len : Nat),
      (∀ i, i < len → ∃ x, DataW.trod enc P w base spare held fuel e ((cs.drop (i * P.cellsOf e)).take (P.cellsOf e)) = some x) →
      ∀ (i : Nat) (k : CK), (List.replicate len ks).flatten[i]? = some k → ∃ v, cs[i]? = some v ∧ ckOk k v := by
  intro len hall i k hik
  have hi : i < (List.replicate len ks).flatten.length := (List.getElem?_eq_some_iff.1 hik).1
  rw [List.length_flatten, List.map_replicate, List.sum_replicate_nat] at hi
  have hpos : 0 < ks.length := by
    rcases Nat.eq_zero_or_pos ks.length with h | h
    · rw [h] at hi; omega
    · exact h
  have hq : i / ks.length < len := Nat.div_lt_of_lt_mul (by rw [Nat.mul_comm]; exact hi)
  obtain ⟨x, hx⟩ := hall (i / ks.length) hq
  have hF := ih e ks fuel _ x hk hx
  have key : ∀ (m q r : Nat), r < ks.length → q < m → (List.replicate m ks).flatten[q * ks.length + r]? = ks[r]? := by
    intro m
    induction m with
    | zero => intro q r _ hq; omega
    | succ m ihm =>
      intro q r hr hq
      rw [List.replicate_succ, List.flatten_cons, List.getElem?_append]
      cases q with
      | zero => simp only [Nat.zero_mul, Nat.zero_add]; rw [if_pos hr]
      | succ q =>
        rw [if_neg (by rw [Nat.succ_mul]; omega), show (q + 1) * ks.length + r - ks.length = q * ks.length + r from by rw [Nat.succ_mul]; omega]
        exact ihm q r hr (by omega)
  have hr : i % ks.length < ks.length := Nat.mod_lt _ hpos
  have hdiv : i / ks.length * ks.length + i % ks.length = i := by rw [Nat.mul_comm]; exact Nat.div_add_mod i ks.length
  have h1 := key len (i / ks.length) (i % ks.length) hr hq
  rw [hdiv, hik] at h1
  obtain ⟨v, hv, hok⟩ := hF.2 (i % ks.length) k h1.symm
  rw [List.getElem?_take, if_pos (by rw [hc]; exact hr), List.getElem?_drop, hc, hdiv] at hv
  exact ⟨v, hv, hok⟩

theorem flat_of_trod : ∀ (n : Nat) (t : TypeId) (ks : List CK) (fuel : Nat) (cs : List Value) (x : DataW H × List MemPlace),
    flatK P n t = some ks → DataW.trod enc P w base spare held fuel t cs = some x → Flat ks cs
  | 0, t, ks, fuel, cs, x, h, _ => by simp [flatK] at h
  | n + 1, t, ks, fuel, cs, x, h, hx => by
    have ih := flat_of_trod n
    unfold flatK at h
    split at h
    · rename_i k hu
      simp only [Option.some.injEq] at h
      subst h
      obtain ⟨m, rfl, _, hw⟩ := DataW.trod_int hu hx
      exact ⟨rfl, fun i k' hk => by
        match i, hk with
        | 0, hk => simp at hk; subst hk; exact ⟨_, rfl, m, rfl, hw⟩⟩
    · rename_i hu
      simp only [Option.some.injEq] at h
      subst h
      obtain ⟨b, rfl, _⟩ := DataW.trod_bool hu hx
      exact ⟨rfl, fun i k' hk => by
        match i, hk with
        | 0, hk => simp at hk; subst hk; exact ⟨_, rfl, b, rfl⟩⟩
    · rename_i fs hu
      simp only [Option.bind_eq_bind, Option.bind_eq_some_iff] at h
      obtain ⟨k1, h1, h2⟩ := h
      split at h2
      · rename_i hc
        simp only [Option.some.injEq] at h2
        subst h2
        obtain ⟨xs, m, _, _, hl, hlen, hf⟩ := DataW.trod_struct hu hx
        refine ⟨hl.trans hc, fun i k hk => ?_⟩
        have := flat_fields (fun t ks fuel cs x => ih t ks fuel cs x) m cs fs.toList 0 k1 h1 (fun f hf' => by
          obtain ⟨j, hj⟩ := List.getElem?_of_mem hf'
          have hj' : fs[j]? = some f := by simpa using hj
          have hlt : j < xs.length := by rw [hlen]; exact (Array.getElem?_eq_some_iff.1 hj').1
          exact ⟨xs[j], by rw [hf j f hj']; exact List.getElem?_eq_getElem hlt⟩) (Nat.zero_le _) i k hk
        simpa using this
      · simp_all
    · rename_i len e hu
      simp only [Option.bind_eq_bind, Option.bind_eq_some_iff] at h
      obtain ⟨k1, h1, h2⟩ := h
      split at h2
      · rename_i hc
        simp only [Option.some.injEq] at h2
        subst h2
        obtain ⟨xs, m, _, _, hl, hlen, hf⟩ := DataW.trod_array hu hx
        refine ⟨by rw [hl, hc.2, List.length_flatten, List.map_replicate, List.sum_replicate_nat], fun i k hk => ?_⟩
        exact flat_array (fun t ks fuel cs x => ih t ks fuel cs x) m cs e k1 h1 hc.1 len (fun j hj => by
          have hlt : j < xs.length := by rw [hlen]; exact hj
          exact ⟨xs[j], by rw [hf j hj]; exact List.getElem?_eq_getElem hlt⟩) i k hk
      · simp_all
    · cases h
end

theorem list2 {α : Type} {l : List α} (h : l.length = 2) : ∃ a b, l = [a, b] := by
  match l, h with | [a, b], _ => exact ⟨a, b, rfl⟩
theorem list3 {α : Type} {l : List α} (h : l.length = 3) : ∃ a b c, l = [a, b, c] := by
  match l, h with | [a, b, c], _ => exact ⟨a, b, c, rfl⟩
theorem list4 {α : Type} {l : List α} (h : l.length = 4) : ∃ a b c d, l = [a, b, c, d] := by
  match l, h with | [a, b, c, d], _ => exact ⟨a, b, c, d, rfl⟩
theorem list5 {α : Type} {l : List α} (h : l.length = 5) : ∃ a b c d e, l = [a, b, c, d, e] := by
  match l, h with | [a, b, c, d, e], _ => exact ⟨a, b, c, d, e, rfl⟩

theorem add_add (a : Addr) (x y : Nat) : (a.add x).add y = a.add (x + y) := by
  unfold Addr.add
  by_cases hx : x = 0
  · subst hx; simp
  · by_cases hy : y = 0
    · subst hy; simp
    · have : ¬ x + y = 0 := by omega
      simp [hx, hy, Nat.add_assoc]
theorem cell_of_cells {w : World} {base : Nat} {a : Addr} {n x : Nat} {cs : List Value} (h : w.cells? base (a.add x) n = some cs) {j : Nat} {v : Value} (hj : cs[j]? = some v) : w.cell? (a.add (x + j)) = some v := by
  unfold World.cells? at h
  split at h
  · have hlen := mapM_some_length h
    have hlt : j < cs.length := (List.getElem?_eq_some_iff.1 hj).1
    have := mapM_some_get h j j (by rw [List.length_range] at hlen; exact List.getElem?_range (by omega))
    rw [hj, add_add] at this
    exact this
  · cases h

/-! ### a slice of plain data that came in -/
/-- Cells 'css' (each element 'm' cells long) lie one behind the other at the address; nothing is asked of an empty slice. -/
def RowAt (w : World) (a : Option Addr) (m : Nat) (css : List (List Value)) : Prop :=
  css = [] ∨ ∃ b off, a = some ⟨b, off, none⟩ ∧ ∀ (i : Nat) (cs : List Value), css[i]? = some cs → ∀ (j : Nat) (v : Value), cs[j]? = some v → w.cell? ⟨b, off + i * m + j, none⟩ = some v

section
variable {H : Type} {enc : TypeId × Value → H} {P : Program} {w : World} {base : Nat} {spare : Nat → Bool} {held : Bool}
theorem row_of_trod {n : Nat} {t e : TypeId} {ks : List CK} {a : Option Addr} {len cap : Nat} {d : DataW H} {p : List MemPlace} (ht : P.underlying t = some (.slice e)) (hk : flatK P n e = some ks) (hc : P.cellsOf e = ks.length) (hpos : 0 < ks.length)
    (h : DataW.Trod enc P w base spare held t (.slice a len cap) d p) :
    ∃ css : List (List Value), css.length = len ∧ len ≤ cap ∧ cap ≤ maxLen ∧ (∀ cs ∈ css, Flat ks cs) ∧ RowAt w a ks.length css := by
  obtain ⟨fuel, hf⟩ := h
  rcases DataW.trod_slice ht hf with ⟨h0, _⟩ | ⟨ad, l, c, elems, rest, m, _, h0, _, _, hl, hm, hlen, hel, _, _⟩
  · simp [Value.cells] at h0
    obtain ⟨rfl, rfl, rfl⟩ := h0
    exact ⟨[], rfl, Nat.le_refl _, by simp [maxLen], by simp, .inl rfl⟩
  · simp [Value.cells] at h0
    obtain ⟨rfl, rfl, rfl⟩ := h0
    have each : ∀ i, i < len → ∃ cs, Flat ks cs ∧ w.cells? base (ad.add (i * ks.length)) ks.length = some cs := fun i hi => by
      have h1 := hel i hi
      rw [List.getElem?_eq_getElem (by omega), Option.bind_eq_some_iff] at h1
      obtain ⟨cs, hcs, hx⟩ := h1
      rw [hc] at hcs
      exact ⟨cs, flat_of_trod n e ks m cs _ hk hx, hcs⟩
    let f : Nat → List Value := fun i => if h : i < len then (each i h).choose else []
    refine ⟨(List.range len).map f, by simp, hl, hm, ?_, ?_⟩
    · intro cs hcs
      obtain ⟨i, hi, rfl⟩ := List.mem_map.1 hcs
      have hi' : i < len := List.mem_range.1 hi
      simp only [f, hi', dite_true]
      exact (each i hi').choose_spec.1
    · by_cases h0 : len = 0
      · left; subst h0; rfl
      · right
        obtain ⟨b, off, spot⟩ := ad
        have cellsAt : ∀ (i : Nat) (hi : i < len) (j : Nat) (v : Value), (f i)[j]? = some v → w.cell? ((⟨b, off, spot⟩ : Addr).add (i * ks.length + j)) = some v := fun i hi j v hv => by
          have hs := (each i hi).choose_spec
          simp only [f, hi, dite_true] at hv
          exact cell_of_cells hs.2 hv
        have hspot : spot = none := by
          have h1 := (each 0 (by omega)).choose_spec
          have hlen0 := h1.1.1
          have : (f 0)[0]? = some ((each 0 (by omega)).choose[0]'(by omega)) := by
            simp only [f, show 0 < len from by omega, dite_true]
            exact List.getElem?_eq_getElem _
          have h2 := cellsAt 0 (by omega) 0 _ this
          simpa [Addr.add] using World.cell?_spot h2
        subst hspot
        refine ⟨b, off, rfl, fun i cs hi j v hj => ?_⟩
        rw [List.getElem?_map] at hi
        obtain ⟨i', hi', rfl⟩ := Option.map_eq_some_iff.1 hi
        have hlt : i < len := by
          have := (List.getElem?_eq_some_iff.1 hi').1; simpa using this
        have : i' = i := by
          rw [List.getElem?_range hlt] at hi'; exact (Option.some.inj hi').symm
        subst this
        have := cellsAt i' hlt j v hj
        rw [Go.WideShapes.add_plain, ← Nat.add_assoc] at this
        exact this
end

/-! ### a slice of integers -/
def IntsAt (k : IntKind) (w : World) (a : Option Addr) (zs : List Int) : Prop :=
  zs = [] ∨ ∃ b off, a = some ⟨b, off, none⟩ ∧ ∀ j, j < zs.length → w.cell? ⟨b, off + j, none⟩ = some (.int k (zs.getD j 0))

theorem ints_of {k : IntKind} : ∀ {css : List (List Value)}, (∀ cs ∈ css, Flat [some k] cs) → ∃ zs : List Int, css = zs.map (fun z => [.int k z]) ∧ ∀ z ∈ zs, (Lit.int k z).wf = true
  | [], _ => ⟨[], rfl, by simp⟩
  | cs :: css, h => by
    obtain ⟨zs, h1, h2⟩ := ints_of (css := css) fun c hc => h c (List.mem_cons_of_mem _ hc)
    obtain ⟨hl, hk⟩ := h cs List.mem_cons_self
    obtain ⟨v, hv, n, hn, hw⟩ := hk 0 (some k) rfl
    match cs, hl with
    | [c], _ =>
      simp at hv
      subst hv hn
      exact ⟨n :: zs, by simp [h1], fun z hz => by rcases List.mem_cons.1 hz with rfl | hz; exact hw; exact h2 z hz⟩

theorem intsAt_of {k : IntKind} {w : World} {a : Option Addr} {zs : List Int} (h : RowAt w a 1 (zs.map (fun z => [.int k z]))) : IntsAt k w a zs := by
  rcases h with h | ⟨b, off, ha, h⟩
  · exact .inl (List.map_eq_nil_iff.1 h)
  · refine .inr ⟨b, off, ha, fun j hj => ?_⟩
    have := h j [.int k (zs.getD j 0)] (by rw [List.getElem?_map, List.getElem?_eq_getElem hj, List.getD_eq_getElem?_getD, List.getElem?_eq_getElem hj]; rfl) 0 _ rfl
    simpa using this

theorem IntsAt.keep {k : IntKind} {w w' : World} {a : Option Addr} {zs : List Int} (h : IntsAt k w a zs) (hb : Below w.heap.size w w') : IntsAt k w' a zs := by
  rcases h with h | ⟨b, off, ha, h⟩
  · exact .inl h
  · exact .inr ⟨b, off, ha, fun j hj => keep1 hb (h j hj)⟩

theorem wf_at {k : IntKind} {zs : List Int} (h : ∀ z ∈ zs, (Lit.int k z).wf = true) {j : Nat} (hj : j < zs.length) : (Lit.int k (zs.getD j 0)).wf = true := by
  rw [List.getD_eq_getElem?_getD, List.getElem?_eq_getElem hj]
  exact h _ (List.getElem_mem hj)

theorem wf_bd {k : IntKind} {n : Int} (h : (Lit.int k n).wf = true) : k.min ≤ n ∧ n ≤ k.max := by
  simpa [Lit.wf] using h
end Go.Proofs.YtgmabjlehjpboaaDoor.K
