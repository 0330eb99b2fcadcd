/- Proved: how what came in lies in memory, where structs hold slices: tables, beacons, what was heard. Conditions: none. -/
import Derived.Test.YtleenbfldkmcaaaK4
namespace Go.Proofs.Ytleenbfldkmcaaa
open Go.RowKit Go.Sort Go.BigFrame Go.ChangeShapes Go.WideShapes
set_option linter.unusedVariables false
set_option linter.unusedSimpArgs false
/-- A cell's kind: a kind of integers, a truth value, a slice of a type. -/
inductive CL where
  | int (k : IntKind)
  | bool
  | sl (t : TypeId)
def clOk (R : TypeId → Value → Prop) : CL → Value → Prop
  | .int k, v => ∃ n, v = .int k n ∧ (Lit.int k n).wf = true
  | .bool, v => ∃ b, v = .bool b
  | .sl t, v => R t v
/-- A value of a type that was read. -/
def Rd {H : Type} (enc : TypeId × Value → H) (P : Program) (w : World) (base : Nat) (spare : Nat → Bool) (held : Bool) (t : TypeId) (v : Value) : Prop := ∃ fuel x, DataW.trod enc P w base spare held fuel t [v] = some x
def flatFieldsL (P : Program) (g : TypeId → Option (List CL)) : List Field → Nat → Option (List CL)
  | [], _ => some []
  | f :: r, off => do
    let ks ← g f.type
    let rs ← flatFieldsL P g r (off + ks.length)
    if f.offset = off ∧ P.cellsOf f.type = ks.length then some (ks ++ rs) else none

/-- The kinds of the cells of a type that is built of numbers and truth values alone. -/
def flatKL (P : Program) : Nat → TypeId → Option (List CL)
  | 0, _ => none
  | n + 1, t =>
    match P.underlying t with
    | some (.int k) => some [.int k]
    | some .bool => some [.bool]
    | some (.slice _) => some [.sl t]
    | some (.struct fs) => do
      let ks ← flatFieldsL P (flatKL P n) fs.toList 0
      if P.cellsOf t = ks.length then some ks else none
    | some (.array len e) => do
      let ks ← flatKL P n e
      if P.cellsOf e = ks.length ∧ P.cellsOf t = len * ks.length then some (List.replicate len ks).flatten else none
    | _ => none

def FlatL (R : TypeId → Value → Prop) (ks : List CL) (cs : List Value) : Prop := cs.length = ks.length ∧ ∀ (i : Nat) (k : CL), ks[i]? = some k → ∃ v, cs[i]? = some v ∧ clOk R k v

section
variable {H : Type} {enc : TypeId × Value → H} {P : Program} {w : World} {base : Nat} {spare : Nat → Bool} {held : Bool}

theorem flat_fieldsL {n : Nat} (ih : ∀ (t : TypeId) (ks : List CL) (fuel : Nat) (cs : List Value) (x : DataW H × List MemPlace), flatKL P n t = some ks → DataW.trod enc P w base spare held fuel t cs = some x → FlatL (Rd enc P w base spare held) ks cs)
    (fuel : Nat) (cs : List Value) : ∀ (fs : List Field) (off : Nat) (ks : List CL), flatFieldsL P (flatKL P n) fs off = some ks →
      (∀ f ∈ fs, ∃ x, DataW.trod enc P w base spare held fuel f.type ((cs.drop f.offset).take (P.cellsOf f.type)) = some x) → off ≤ cs.length →
      ∀ (i : Nat) (k : CL), ks[i]? = some k → ∃ v, cs[off + i]? = some v ∧ clOk (Rd enc P w base spare held) k v
  | [], off, ks, h, _, _, i, k, hk => by simp [flatFieldsL] at h; subst h; simp at hk
  | f :: r, off, ks, h, hf, ho, i, k, hk => by
    simp only [flatFieldsL, Option.bind_eq_bind, Option.bind_eq_some_iff] at h
    obtain ⟨k1, h1, k2, h2, h3⟩ := h
    split at h3
    · rename_i hc
      simp only [Option.some.injEq] at h3
      subst h3
      obtain ⟨x, hx⟩ := hf f List.mem_cons_self
      have hF := ih f.type k1 fuel _ x h1 hx
      have hlen : k1.length ≤ cs.length - off := by
        have := hF.1
        rw [List.length_take, List.length_drop, hc.1, hc.2] at this
        omega
      rw [List.getElem?_append] at hk
      split at hk
      · rename_i hi
        obtain ⟨v, hv, hok⟩ := hF.2 i k hk
        refine ⟨v, ?_, hok⟩
        rw [List.getElem?_take, if_pos (by rw [hc.2]; exact hi), List.getElem?_drop, hc.1] at hv
        exact hv
      · rename_i hi
        have := flat_fieldsL ih fuel cs r (off + k1.length) k2 h2 (fun f' hf' => hf f' (List.mem_cons_of_mem _ hf')) (by omega) (i - k1.length) k hk
        rw [show off + k1.length + (i - k1.length) = off + i from by omega] at this
        exact this
    · cases h3

theorem flat_arrayL {n : Nat} (ih : ∀ (t : TypeId) (ks : List CL) (fuel : Nat) (cs : List Value) (x : DataW H × List MemPlace), flatKL P n t = some ks → DataW.trod enc P w base spare held fuel t cs = some x → FlatL (Rd enc P w base spare held) ks cs)
    (fuel : Nat) (cs : List Value) (e : TypeId) (ks : List CL) (hk : flatKL P n e = some ks) (hc : P.cellsOf e = ks.length) : ∀ (len : Nat),
      (∀ i, i < len → ∃ x, DataW.trod enc P w base spare held fuel e ((cs.drop (i * P.cellsOf e)).take (P.cellsOf e)) = some x) →
      ∀ (i : Nat) (k : CL), (List.replicate len ks).flatten[i]? = some k → ∃ v, cs[i]? = some v ∧ clOk (Rd enc P w base spare held) k v := by
  intro len hall i k hik
  have hi : i < (List.replicate len ks).flatten.length := (List.getElem?_eq_some_iff.1 hik).1
  rw [List.length_flatten, List.map_replicate, List.sum_replicate_nat] at hi
  have hpos : 0 < ks.length := by
    rcases Nat.eq_zero_or_pos ks.length with h | h
    · rw [h] at hi; omega
    · exact h
  have hq : i / ks.length < len := Nat.div_lt_of_lt_mul (by rw [Nat.mul_comm]; exact hi)
  obtain ⟨x, hx⟩ := hall (i / ks.length) hq
  have hF := ih e ks fuel _ x hk hx
  have key : ∀ (m q r : Nat), r < ks.length → q < m → (List.replicate m ks).flatten[q * ks.length + r]? = ks[r]? := by
    intro m
    induction m with
    | zero => intro q r _ hq; omega
    | succ m ihm =>
      intro q r hr hq
      rw [List.replicate_succ, List.flatten_cons, List.getElem?_append]
      cases q with
      | zero => simp only [Nat.zero_mul, Nat.zero_add]; rw [if_pos hr]
      | succ q =>
        rw [if_neg (by rw [Nat.succ_mul]; omega), show (q + 1) * ks.length + r - ks.length = q * ks.length + r from by rw [Nat.succ_mul]; omega]
        exact ihm q r hr (by omega)
  have hr : i % ks.length < ks.length := Nat.mod_lt _ hpos
  have hdiv : i / ks.length * ks.length + i % ks.length = i := by rw [Nat.mul_comm]; exact Nat.div_add_mod i ks.length
  have h1 := key len (i / ks.length) (i % ks.length) hr hq
  rw [hdiv, hik] at h1
  obtain ⟨v, hv, hok⟩ := hF.2 (i % ks.length) k h1.symm
  rw [List.getElem?_take, if_pos (by rw [hc]; exact hr), List.getElem?_drop, hc, hdiv] at hv
  exact ⟨v, hv, hok⟩

theorem flat_of_trodL : ∀ (n : Nat) (t : TypeId) (ks : List CL) (fuel : Nat) (cs : List Value) (x : DataW H × List MemPlace),
    flatKL P n t = some ks → DataW.trod enc P w base spare held fuel t cs = some x → FlatL (Rd enc P w base spare held) ks cs
  | 0, t, ks, fuel, cs, x, h, _ => by simp [flatKL] at h
  | n + 1, t, ks, fuel, cs, x, h, hx => by
    have ih := flat_of_trodL n
    unfold flatKL at h
    split at h
    · rename_i k hu
      simp only [Option.some.injEq] at h
      subst h
      obtain ⟨m, rfl, _, hw⟩ := DataW.trod_int hu hx
      exact ⟨rfl, fun i k' hk => by
        match i, hk with
        | 0, hk => simp at hk; subst hk; exact ⟨_, rfl, m, rfl, hw⟩⟩
    · rename_i hu
      simp only [Option.some.injEq] at h
      subst h
      obtain ⟨b, rfl, _⟩ := DataW.trod_bool hu hx
      exact ⟨rfl, fun i k' hk => by
        match i, hk with
        | 0, hk => simp at hk; subst hk; exact ⟨_, rfl, b, rfl⟩⟩
    · rename_i e hu
      simp only [Option.some.injEq] at h
      subst h
      have hc : ∃ v, cs = [v] := by
        rcases DataW.trod_slice hu hx with ⟨h0, _⟩ | ⟨_, _, _, _, _, _, _, h0, _⟩
        · exact ⟨_, h0⟩
        · exact ⟨_, h0⟩
      obtain ⟨v, rfl⟩ := hc
      exact ⟨rfl, fun i k' hk => by
        match i, hk with
        | 0, hk => simp at hk; subst hk; exact ⟨_, rfl, fuel, x, hx⟩⟩
    · rename_i fs hu
      simp only [Option.bind_eq_bind, Option.bind_eq_some_iff] at h
      obtain ⟨k1, h1, h2⟩ := h
      split at h2
      · rename_i hc
        simp only [Option.some.injEq] at h2
        subst h2
        obtain ⟨xs, m, _, _, hl, hlen, hf⟩ := DataW.trod_struct hu hx
        refine ⟨hl.trans hc, fun i k hk => ?_⟩
        have := flat_fieldsL (fun t ks fuel cs x => ih t ks fuel cs x) m cs fs.toList 0 k1 h1 (fun f hf' => by
          obtain ⟨j, hj⟩ := List.getElem?_of_mem hf'
          have hj' : fs[j]? = some f := by simpa using hj
          have hlt : j < xs.length := by rw [hlen]; exact (Array.getElem?_eq_some_iff.1 hj').1
          exact ⟨xs[j], by rw [hf j f hj']; exact List.getElem?_eq_getElem hlt⟩) (Nat.zero_le _) i k hk
        simpa using this
      · simp_all
    · rename_i len e hu
      simp only [Option.bind_eq_bind, Option.bind_eq_some_iff] at h
      obtain ⟨k1, h1, h2⟩ := h
      split at h2
      · rename_i hc
        simp only [Option.some.injEq] at h2
        subst h2
        obtain ⟨xs, m, _, _, hl, hlen, hf⟩ := DataW.trod_array hu hx
        refine ⟨by rw [hl, hc.2, List.length_flatten, List.map_replicate, List.sum_replicate_nat], fun i k hk => ?_⟩
        exact flat_arrayL (fun t ks fuel cs x => ih t ks fuel cs x) m cs e k1 h1 hc.1 len (fun j hj => by
          have hlt : j < xs.length := by rw [hlen]; exact hj
          exact ⟨xs[j], by rw [hf j hj]; exact List.getElem?_eq_getElem hlt⟩) i k hk
      · simp_all
    · cases h
end

section
variable {H : Type} {enc : TypeId × Value → H} {P : Program} {w : World} {base : Nat} {spare : Nat → Bool} {held : Bool}
theorem row_of_trodL {n : Nat} {t e : TypeId} {ks : List CL} {a : Option Addr} {len cap : Nat} {d : DataW H} {p : List MemPlace} (ht : P.underlying t = some (.slice e)) (hk : flatKL P n e = some ks) (hc : P.cellsOf e = ks.length) (hpos : 0 < ks.length)
    (h : DataW.Trod enc P w base spare held t (.slice a len cap) d p) :
    ∃ css : List (List Value), css.length = len ∧ len ≤ cap ∧ cap ≤ maxLen ∧ (∀ cs ∈ css, FlatL (Rd enc P w base spare held) ks cs) ∧ RowAt w a ks.length css := by
  obtain ⟨fuel, hf⟩ := h
  rcases DataW.trod_slice ht hf with ⟨h0, _⟩ | ⟨ad, l, c, elems, rest, m, _, h0, _, _, hl, hm, hlen, hel, _, _⟩
  · simp [Value.cells] at h0
    obtain ⟨rfl, rfl, rfl⟩ := h0
    exact ⟨[], rfl, Nat.le_refl _, by simp [maxLen], by simp, .inl rfl⟩
  · simp [Value.cells] at h0
    obtain ⟨rfl, rfl, rfl⟩ := h0
    have each : ∀ i, i < len → ∃ cs, FlatL (Rd enc P w base spare held) ks cs ∧ w.cells? base (ad.add (i * ks.length)) ks.length = some cs := fun i hi => by
      have h1 := hel i hi
      rw [List.getElem?_eq_getElem (by omega), Option.bind_eq_some_iff] at h1
      obtain ⟨cs, hcs, hx⟩ := h1
      rw [hc] at hcs
      exact ⟨cs, flat_of_trodL n e ks m cs _ hk hx, hcs⟩
    let f : Nat → List Value := fun i => if h : i < len then (each i h).choose else []
    refine ⟨(List.range len).map f, by simp, hl, hm, ?_, ?_⟩
    · intro cs hcs
      obtain ⟨i, hi, rfl⟩ := List.mem_map.1 hcs
      have hi' : i < len := List.mem_range.1 hi
      simp only [f, hi', dite_true]
      exact (each i hi').choose_spec.1
    · by_cases h0 : len = 0
      · left; subst h0; rfl
      · right
        obtain ⟨b, off, spot⟩ := ad
        have cellsAt : ∀ (i : Nat) (hi : i < len) (j : Nat) (v : Value), (f i)[j]? = some v → w.cell? ((⟨b, off, spot⟩ : Addr).add (i * ks.length + j)) = some v := fun i hi j v hv => by
          have hs := (each i hi).choose_spec
          simp only [f, hi, dite_true] at hv
          exact cell_of_cells hs.2 hv
        have hspot : spot = none := by
          have h1 := (each 0 (by omega)).choose_spec
          have hlen0 := h1.1.1
          have : (f 0)[0]? = some ((each 0 (by omega)).choose[0]'(by omega)) := by
            simp only [f, show 0 < len from by omega, dite_true]
            exact List.getElem?_eq_getElem _
          have h2 := cellsAt 0 (by omega) 0 _ this
          simpa [Addr.add] using World.cell?_spot h2
        subst hspot
        refine ⟨b, off, rfl, fun i cs hi j v hj => ?_⟩
        rw [List.getElem?_map] at hi
        obtain ⟨i', hi', rfl⟩ := Option.map_eq_some_iff.1 hi
        have hlt : i < len := by
          have := (List.getElem?_eq_some_iff.1 hi').1; simpa using this
        have : i' = i := by
          rw [List.getElem?_range hlt] at hi'; exact (Option.some.inj hi').symm
        subst this
        have := cellsAt i' hlt j v hj
        rw [Go.WideShapes.add_plain, ← Nat.add_assoc] at this
        exact this
end

/-! ### lists of structs -/
section
variable {H : Type} {enc : TypeId × Value → H} {w : World} {base : Nat} {spare : Nat → Bool} {held : Bool}
theorem at_of {α : Type} [Inhabited α] {s : Nat} {cs : α → List Value} {a : Option Addr} {l : List α} (h : RowAt w a s (l.map cs)) : At s cs w a l := by
  rcases h with h | ⟨b, off, ha, h⟩
  · exact .inl (List.map_eq_nil_iff.1 h)
  · refine .inr ⟨b, off, ha, fun i hi j u hj => h i (cs (l.getD i default)) ?_ j u hj⟩
    rw [List.getElem?_map, List.getElem?_eq_getElem hi, List.getD_eq_getElem?_getD, List.getElem?_eq_getElem hi]; rfl
theorem list_of {α : Type} {cs : α → List Value} {Q : List Value → Prop} {R : α → Prop} (h1 : ∀ c, Q c → ∃ x, c = cs x ∧ R x) : ∀ {css : List (List Value)}, (∀ c ∈ css, Q c) → ∃ l : List α, css = l.map cs ∧ ∀ x ∈ l, R x
  | [], _ => ⟨[], rfl, by simp⟩
  | c :: r, h => by
    obtain ⟨l, e, hl⟩ := list_of h1 (css := r) fun x hx => h x (List.mem_cons_of_mem _ hx)
    obtain ⟨x, rfl, hx⟩ := h1 c (h c List.mem_cons_self)
    exact ⟨x :: l, by rw [e]; rfl, fun y hy => by rcases List.mem_cons.1 hy with rfl | hy; exact hx; exact hl y hy⟩
theorem rd_slice {n : Nat} {t e : TypeId} {ks : List CL} {v : Value} (ht : Try.prog.underlying t = some (.slice e)) (hk : flatKL Try.prog n e = some ks) (hc : Try.prog.cellsOf e = ks.length) (hpos : 0 < ks.length) (h : Rd enc Try.prog w base spare held t v) :
    ∃ (a : Option Addr) (len cap : Nat) (css : List (List Value)), v = .slice a len cap ∧ css.length = len ∧ len ≤ cap ∧ cap ≤ maxLen ∧ (∀ cs ∈ css, FlatL (Rd enc Try.prog w base spare held) ks cs) ∧ RowAt w a ks.length css := by
  obtain ⟨fuel, x, hx⟩ := h
  have key : ∀ a len cap, v = .slice a len cap → ∃ (a : Option Addr) (len cap : Nat) (css : List (List Value)), v = .slice a len cap ∧ css.length = len ∧ len ≤ cap ∧ cap ≤ maxLen ∧ (∀ cs ∈ css, FlatL (Rd enc Try.prog w base spare held) ks cs) ∧ RowAt w a ks.length css := fun a len cap e => by
    subst e
    obtain ⟨css, h⟩ := row_of_trodL (enc := enc) (base := base) (spare := spare) (held := held) (a := a) (len := len) (cap := cap) (d := x.1) (p := x.2) ht hk hc hpos ⟨fuel, hx⟩
    exact ⟨a, len, cap, css, rfl, h⟩
  rcases DataW.trod_slice ht hx with ⟨h0, _⟩ | ⟨ad, l, c, elems, rest, m, _, h0, _⟩
  · exact key none 0 0 (by simpa using h0)
  · exact key (some ad) l c (by simpa using h0)
theorem rd_shape {t e : TypeId} {v : Value} (ht : Try.prog.underlying t = some (.slice e)) (h : Rd enc Try.prog w base spare held t v) : ∃ s : Sl, v = .slice s.a s.n s.c := by
  obtain ⟨fuel, x, hx⟩ := h
  rcases DataW.trod_slice ht hx with ⟨h0, _⟩ | ⟨ad, l, c, elems, rest, m, _, h0, _⟩
  · exact ⟨⟨none, 0, 0⟩, by simpa using h0⟩
  · exact ⟨⟨some ad, l, c⟩, by simpa using h0⟩
theorem us_cells {cs : List Value} (h : FlatL (Rd enc Try.prog w base spare held) [.int .i64, .int .i64, .int .i64, .int .i64] cs) : ∃ x : Us, cs = x.cs ∧ x.wf := by
  obtain ⟨hl, hk⟩ := h
  obtain ⟨c0, c1, c2, c3, rfl⟩ := list4 (l := cs) hl
  obtain ⟨_, e0, n0, rfl, w0⟩ := hk 0 _ rfl
  obtain ⟨_, e1, n1, rfl, w1⟩ := hk 1 _ rfl
  obtain ⟨_, e2, n2, rfl, w2⟩ := hk 2 _ rfl
  obtain ⟨_, e3, n3, rfl, w3⟩ := hk 3 _ rfl
  simp at e0 e1 e2 e3
  subst e0 e1 e2 e3
  exact ⟨⟨n0, n1, n2, n3⟩, rfl, w0, w1, w2, w3⟩
theorem gr_cells {cs : List Value} (h : FlatL (Rd enc Try.prog w base spare held) [.int .i64, .int .i64, .int .i64, .int .i64, .int .i64] cs) : ∃ x : Gr, cs = x.cs ∧ x.wf := by
  obtain ⟨hl, hk⟩ := h
  obtain ⟨c0, c1, c2, c3, c4, rfl⟩ := list5 (l := cs) hl
  obtain ⟨_, e0, n0, rfl, w0⟩ := hk 0 _ rfl
  obtain ⟨_, e1, n1, rfl, w1⟩ := hk 1 _ rfl
  obtain ⟨_, e2, n2, rfl, w2⟩ := hk 2 _ rfl
  obtain ⟨_, e3, n3, rfl, w3⟩ := hk 3 _ rfl
  obtain ⟨_, e4, n4, rfl, w4⟩ := hk 4 _ rfl
  simp at e0 e1 e2 e3 e4
  subst e0 e1 e2 e3 e4
  exact ⟨⟨n0, n1, n2, n3, n4⟩, rfl, w0, w1, w2, w3, w4⟩
theorem ak_cells {cs : List Value} (h : FlatL (Rd enc Try.prog w base spare held) [.int .i64, .int .i64, .int .i64] cs) : ∃ x : Ak, cs = x.cs ∧ True := by
  obtain ⟨hl, hk⟩ := h
  obtain ⟨c0, c1, c2, rfl⟩ := list3 (l := cs) hl
  obtain ⟨_, e0, n0, rfl, w0⟩ := hk 0 _ rfl
  obtain ⟨_, e1, n1, rfl, w1⟩ := hk 1 _ rfl
  obtain ⟨_, e2, n2, rfl, w2⟩ := hk 2 _ rfl
  simp at e0 e1 e2
  subst e0 e1 e2
  exact ⟨⟨n0, n1, n2⟩, rfl, trivial⟩
theorem us_rd {v : Value} (h : Rd enc Try.prog w base spare held 22 v) : ∃ (a : Option Addr) (n cap : Nat) (l : List Us), v = .slice a n cap ∧ n = l.length ∧ n ≤ cap ∧ cap ≤ maxLen ∧ At 4 Us.cs w a l ∧ ∀ x ∈ l, x.wf := by
  obtain ⟨a, n, cap, css, rfl, hn, h1, h2, h3, h4⟩ := rd_slice (n := 6) (ks := [.int .i64, .int .i64, .int .i64, .int .i64]) Try.underlying22 (by kernel_rfl) (by kernel_rfl) (by decide) h
  obtain ⟨l, rfl, hw⟩ := list_of (fun c hc => us_cells hc) h3
  exact ⟨a, n, cap, l, rfl, by rw [← hn, List.length_map], h1, h2, at_of h4, hw⟩
theorem gr_rd {v : Value} (h : Rd enc Try.prog w base spare held 23 v) : ∃ (a : Option Addr) (n cap : Nat) (l : List Gr), v = .slice a n cap ∧ n = l.length ∧ n ≤ cap ∧ cap ≤ maxLen ∧ At 5 Gr.cs w a l ∧ ∀ x ∈ l, x.wf := by
  obtain ⟨a, n, cap, css, rfl, hn, h1, h2, h3, h4⟩ := rd_slice (n := 6) (ks := [.int .i64, .int .i64, .int .i64, .int .i64, .int .i64]) Try.underlying23 (by kernel_rfl) (by kernel_rfl) (by decide) h
  obtain ⟨l, rfl, hw⟩ := list_of (fun c hc => gr_cells hc) h3
  exact ⟨a, n, cap, l, rfl, by rw [← hn, List.length_map], h1, h2, at_of h4, hw⟩
theorem ak_rd {v : Value} (h : Rd enc Try.prog w base spare held 24 v) : ∃ (a : Option Addr) (n cap : Nat) (l : List Ak), v = .slice a n cap ∧ n = l.length ∧ n ≤ cap ∧ cap ≤ maxLen ∧ At 3 Ak.cs w a l := by
  obtain ⟨a, n, cap, css, rfl, hn, h1, h2, h3, h4⟩ := rd_slice (n := 6) (ks := [.int .i64, .int .i64, .int .i64]) Try.underlying24 (by kernel_rfl) (by kernel_rfl) (by decide) h
  obtain ⟨l, rfl, hw⟩ := list_of (fun c hc => ak_cells hc) h3
  exact ⟨a, n, cap, l, rfl, by rw [← hn, List.length_map], h1, h2, at_of h4⟩
/-- A table that came in. -/
theorem tv_cells {cs : List Value} (h : FlatL (Rd enc Try.prog w base spare held) [.sl 22, .sl 23, .sl 24] cs) : ∃ x : Tv, cs = x.cs ∧ x.ok w := by
  obtain ⟨hl, hk⟩ := h
  obtain ⟨c0, c1, c2, rfl⟩ := list3 (l := cs) hl
  obtain ⟨_, e0, h0⟩ := hk 0 _ rfl
  obtain ⟨_, e1, h1⟩ := hk 1 _ rfl
  obtain ⟨_, e2, h2⟩ := hk 2 _ rfl
  simp at e0 e1 e2
  subst e0 e1 e2
  obtain ⟨a0, n0, p0, l0, rfl, q0, i0, m0, t0, v0⟩ := us_rd h0
  obtain ⟨a1, n1, p1, l1, rfl, q1, i1, m1, t1, v1⟩ := gr_rd h1
  obtain ⟨a2, n2, p2, l2, rfl, q2, i2, m2, t2⟩ := ak_rd h2
  exact ⟨⟨⟨l0, l1, l2⟩, a0, n0, p0, a1, n1, p1, a2, n2, p2⟩, rfl, t0, t1, t2, q0, q1, q2, i0, i1, i2, m0, m1, m2, v0, v1⟩
/-- Tables that came in. -/
theorem ts_rd {v : Value} (h : Rd enc Try.prog w base spare held 29 v) : ∃ (a : Option Addr) (cap : Nat) (l : List Tv), v = .slice a l.length cap ∧ l.length ≤ cap ∧ cap ≤ maxLen ∧ TsAt w a l := by
  obtain ⟨a, n, cap, css, rfl, hn, h1, h2, h3, h4⟩ := rd_slice (n := 6) (ks := [.sl 22, .sl 23, .sl 24]) Try.underlying29 (by kernel_rfl) (by kernel_rfl) (by decide) h
  obtain ⟨l, rfl, hw⟩ := list_of (fun c hc => tv_cells hc) h3
  rw [List.length_map] at hn
  subst hn
  exact ⟨a, cap, l, rfl, h1, h2, at_of h4, hw⟩
theorem list31 {α : Type} {l : List α} (h : l.length = 31) : ∃ c0 c1 c2 c3 c4 c5 c6 c7 c8 c9 c10 c11 c12 c13 c14 c15 c16 c17 c18 c19 c20 c21 c22 c23 c24 c25 c26 c27 c28 c29 c30, l = [c0, c1, c2, c3, c4, c5, c6, c7, c8, c9, c10, c11, c12, c13, c14, c15, c16, c17, c18, c19, c20, c21, c22, c23, c24, c25, c26, c27, c28, c29, c30] := by
  match l, h with | [c0, c1, c2, c3, c4, c5, c6, c7, c8, c9, c10, c11, c12, c13, c14, c15, c16, c17, c18, c19, c20, c21, c22, c23, c24, c25, c26, c27, c28, c29, c30], _ => exact ⟨c0, c1, c2, c3, c4, c5, c6, c7, c8, c9, c10, c11, c12, c13, c14, c15, c16, c17, c18, c19, c20, c21, c22, c23, c24, c25, c26, c27, c28, c29, c30, rfl⟩
/-- What was heard of one neighbour. -/
theorem nv_cells {cs : List Value} (h : FlatL (Rd enc Try.prog w base spare held) [.int .i64, .int .i64, .int .i64, .int .i64, .int .i64, .int .i64, .int .i64, .int .i64, .int .i64, .int .i64, .int .i64, .int .i64, .sl 22, .sl 23, .sl 24, .sl 48, .bool, .sl 49, .sl 49, .sl 50, .int .i64, .int .i64, .int .u64, .int .i64, .int .i64, .int .i64, .int .i64, .int .i64, .sl 54, .sl 55, .bool] cs) : ∃ x : Nv, cs = x.cs ∧ x.ok w := by
  obtain ⟨hl, hk⟩ := h
  obtain ⟨c0, c1, c2, c3, c4, c5, c6, c7, c8, c9, c10, c11, c12, c13, c14, c15, c16, c17, c18, c19, c20, c21, c22, c23, c24, c25, c26, c27, c28, c29, c30, rfl⟩ := list31 (l := cs) hl
  obtain ⟨_, e, y_f, rfl, -⟩ := hk 0 _ rfl
  simp at e
  subst e
  obtain ⟨_, e, y_h, rfl, -⟩ := hk 1 _ rfl
  simp at e
  subst e
  obtain ⟨_, e, x1, rfl, -⟩ := hk 2 _ rfl
  simp at e
  subst e
  obtain ⟨_, e, x2, rfl, -⟩ := hk 3 _ rfl
  simp at e
  subst e
  obtain ⟨_, e, x3, rfl, -⟩ := hk 4 _ rfl
  simp at e
  subst e
  obtain ⟨_, e, x4, rfl, -⟩ := hk 5 _ rfl
  simp at e
  subst e
  obtain ⟨_, e, x5, rfl, -⟩ := hk 6 _ rfl
  simp at e
  subst e
  obtain ⟨_, e, x6, rfl, -⟩ := hk 7 _ rfl
  simp at e
  subst e
  obtain ⟨_, e, x7, rfl, -⟩ := hk 8 _ rfl
  simp at e
  subst e
  obtain ⟨_, e, x8, rfl, -⟩ := hk 9 _ rfl
  simp at e
  subst e
  obtain ⟨_, e, x9, rfl, -⟩ := hk 10 _ rfl
  simp at e
  subst e
  obtain ⟨_, e, x10, rfl, -⟩ := hk 11 _ rfl
  simp at e
  subst e
  obtain ⟨_, e, hU⟩ := hk 12 _ rfl
  simp at e
  subst e
  obtain ⟨_, e, hG⟩ := hk 13 _ rfl
  simp at e
  subst e
  obtain ⟨_, e, hs0⟩ := hk 14 _ rfl
  simp at e
  subst e
  obtain ⟨s0, rfl⟩ := rd_shape Try.underlying24 hs0
  obtain ⟨_, e, hs1⟩ := hk 15 _ rfl
  simp at e
  subst e
  obtain ⟨s1, rfl⟩ := rd_shape Try.underlying48 hs1
  obtain ⟨_, e, f0, rfl⟩ := hk 16 _ rfl
  simp at e
  subst e
  obtain ⟨_, e, hs2⟩ := hk 17 _ rfl
  simp at e
  subst e
  obtain ⟨s2, rfl⟩ := rd_shape Try.underlying49 hs2
  obtain ⟨_, e, hs3⟩ := hk 18 _ rfl
  simp at e
  subst e
  obtain ⟨s3, rfl⟩ := rd_shape Try.underlying49 hs3
  obtain ⟨_, e, hs4⟩ := hk 19 _ rfl
  simp at e
  subst e
  obtain ⟨s4, rfl⟩ := rd_shape Try.underlying50 hs4
  obtain ⟨_, e, z0, rfl, -⟩ := hk 20 _ rfl
  simp at e
  subst e
  obtain ⟨_, e, z1, rfl, -⟩ := hk 21 _ rfl
  simp at e
  subst e
  obtain ⟨_, e, z2, rfl, -⟩ := hk 22 _ rfl
  simp at e
  subst e
  obtain ⟨_, e, z3, rfl, -⟩ := hk 23 _ rfl
  simp at e
  subst e
  obtain ⟨_, e, z4, rfl, -⟩ := hk 24 _ rfl
  simp at e
  subst e
  obtain ⟨_, e, z5, rfl, -⟩ := hk 25 _ rfl
  simp at e
  subst e
  obtain ⟨_, e, z6, rfl, -⟩ := hk 26 _ rfl
  simp at e
  subst e
  obtain ⟨_, e, z7, rfl, -⟩ := hk 27 _ rfl
  simp at e
  subst e
  obtain ⟨_, e, hs5⟩ := hk 28 _ rfl
  simp at e
  subst e
  obtain ⟨s5, rfl⟩ := rd_shape Try.underlying54 hs5
  obtain ⟨_, e, hs6⟩ := hk 29 _ rfl
  simp at e
  subst e
  obtain ⟨s6, rfl⟩ := rd_shape Try.underlying55 hs6
  obtain ⟨_, e, f1, rfl⟩ := hk 30 _ rfl
  simp at e
  subst e
  obtain ⟨a0, n0, p0, l0, rfl, q0, i0, m0, t0, v0⟩ := us_rd hU
  obtain ⟨a1, n1, p1, l1, rfl, q1, i1, m1, t1, v1⟩ := gr_rd hG
  exact ⟨⟨⟨y_f, y_h, l0, l1⟩, x1, x2, x3, x4, x5, x6, x7, x8, x9, x10, a0, n0, p0, a1, n1, p1, s0, s1, s2, s3, s4, s5, s6, f0, f1, z0, z1, z2, z3, z4, z5, z6, z7⟩, rfl, t0, t1, q0, q1, i0, i1, m0, m1⟩
theorem ns_rd {v : Value} (h : Rd enc Try.prog w base spare held 27 v) : ∃ (a : Option Addr) (cap : Nat) (l : List Nv), v = .slice a l.length cap ∧ l.length ≤ cap ∧ cap ≤ maxLen ∧ NsAt w a l := by
  obtain ⟨a, n, cap, css, rfl, hn, h1, h2, h3, h4⟩ := rd_slice (n := 6) (ks := [.int .i64, .int .i64, .int .i64, .int .i64, .int .i64, .int .i64, .int .i64, .int .i64, .int .i64, .int .i64, .int .i64, .int .i64, .sl 22, .sl 23, .sl 24, .sl 48, .bool, .sl 49, .sl 49, .sl 50, .int .i64, .int .i64, .int .u64, .int .i64, .int .i64, .int .i64, .int .i64, .int .i64, .sl 54, .sl 55, .bool]) Try.underlying27 (by kernel_rfl) (by kernel_rfl) (by decide) h
  obtain ⟨l, rfl, hw⟩ := list_of (fun c hc => nv_cells hc) h3
  rw [List.length_map] at hn
  subst hn
  exact ⟨a, cap, l, rfl, h1, h2, at_of h4, hw⟩
/-- A row of truth values; rows of them. -/
structure Rv where
  a : Option Addr
  c : Nat
  l : List Bool
theorem bo_cells {cs : List Value} (h : FlatL (Rd enc Try.prog w base spare held) [.bool] cs) : ∃ x : Bool, cs = [.bool x] ∧ True := by
  obtain ⟨hl, hk⟩ := h
  obtain ⟨_, e0, b, rfl⟩ := hk 0 _ rfl
  match cs, hl with
  | [c], _ => simp at e0; subst e0; exact ⟨b, rfl, trivial⟩
theorem bo_rd {v : Value} (h : Rd enc Try.prog w base spare held 66 v) : ∃ (a : Option Addr) (cap : Nat) (l : List Bool), v = .slice a l.length cap ∧ l.length ≤ cap ∧ cap ≤ maxLen ∧ BoolsAt w a l := by
  obtain ⟨a, n, cap, css, rfl, hn, h1, h2, h3, h4⟩ := rd_slice (n := 6) (ks := [.bool]) Try.underlying66 (by kernel_rfl) (by kernel_rfl) (by decide) h
  obtain ⟨l, rfl, hw⟩ := list_of (cs := fun b => [Value.bool b]) (fun c hc => bo_cells hc) h3
  rw [List.length_map] at hn
  subst hn
  refine ⟨a, cap, l, rfl, h1, h2, ?_⟩
  rcases h4 with h4 | ⟨b, off, ha, h4⟩
  · exact .inl (List.map_eq_nil_iff.1 h4)
  · refine .inr ⟨b, off, ha, fun j hj => ?_⟩
    have := h4 j [.bool (l.getD j false)] (by rw [List.getElem?_map, List.getElem?_eq_getElem hj, List.getD_eq_getElem?_getD, List.getElem?_eq_getElem hj]; rfl) 0 _ rfl
    simpa using this
theorem row_cells {cs : List Value} (h : FlatL (Rd enc Try.prog w base spare held) [.sl 66] cs) : ∃ x : Rv, cs = [.slice x.a x.l.length x.c] ∧ (x.l.length ≤ x.c ∧ x.c ≤ maxLen ∧ BoolsAt w x.a x.l) := by
  obtain ⟨hl, hk⟩ := h
  obtain ⟨_, e0, h0⟩ := hk 0 _ rfl
  match cs, hl with
  | [c], _ =>
    simp at e0
    subst e0
    obtain ⟨a, cap, l, rfl, h⟩ := bo_rd h0
    exact ⟨⟨a, cap, l⟩, rfl, h⟩
theorem tab_rd {v : Value} (h : Rd enc Try.prog w base spare held 28 v) : ∃ (a : Option Addr) (cap : Nat) (l : List (List Bool)), v = .slice a l.length cap ∧ l.length ≤ cap ∧ cap ≤ maxLen ∧ TabAt w a l := by
  obtain ⟨a, n, cap, css, rfl, hn, h1, h2, h3, h4⟩ := rd_slice (n := 6) (ks := [.sl 66]) Try.underlying28 (by kernel_rfl) (by kernel_rfl) (by decide) h
  obtain ⟨l, rfl, hw⟩ := list_of (cs := fun x : Rv => [Value.slice x.a x.l.length x.c]) (fun c hc => row_cells hc) h3
  rw [List.length_map] at hn
  subst hn
  refine ⟨a, cap, l.map Rv.l, by rw [List.length_map], by rw [List.length_map]; exact h1, h2, ?_⟩
  rcases h4 with h4 | ⟨b, off, ha, h4⟩
  · left; rw [List.map_eq_nil_iff.1 h4]; rfl
  · refine .inr ⟨b, off, ha, fun i hi => ?_⟩
    rw [List.length_map] at hi
    have e : (l.map Rv.l).getD i [] = (l[i]).l := by rw [List.getD_eq_getElem?_getD, List.getElem?_map, List.getElem?_eq_getElem hi]; rfl
    obtain ⟨g1, g2, g3⟩ := hw _ (List.getElem_mem hi)
    rw [e]
    have := h4 i [.slice (l[i]).a (l[i]).l.length (l[i]).c] (by rw [List.getElem?_map, List.getElem?_eq_getElem hi]; rfl) 0 _ rfl
    exact ⟨_, _, by simpa using this, g3, g1, g2⟩
/-- A whole value that came in. -/
theorem rd_of_trod {t : TypeId} {v : Value} {d : DataW H} {p : List MemPlace} (hv : v.cells = #[v]) (h : DataW.Trod enc Try.prog w base spare held t v d p) : Rd enc Try.prog w base spare held t v := by
  obtain ⟨fuel, hf⟩ := h
  rw [hv] at hf
  exact ⟨fuel, _, hf⟩
theorem tv_of_trod {l : List Value} {d : DataW H} {p : List MemPlace} (h : DataW.Trod enc Try.prog w base spare held 26 (.agg l.toArray) d p) (hl : (Value.agg l.toArray).cells = l.toArray) : ∃ t : Tv, (.agg l.toArray : Value) = t.v ∧ t.ok w := by
  obtain ⟨fuel, hf⟩ := h
  rw [hl] at hf
  obtain ⟨t, rfl, ht⟩ := tv_cells (flat_of_trodL 6 26 _ fuel l _ (by kernel_rfl) hf)
  exact ⟨t, rfl, ht⟩
end
end Go.Proofs.Ytleenbfldkmcaaa
