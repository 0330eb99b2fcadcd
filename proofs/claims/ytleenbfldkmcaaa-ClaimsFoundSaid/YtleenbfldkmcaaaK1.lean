/- Proved: how tables, beacons and what is heard lie in memory, for the statements of chapter 14. Conditions: those that each theorem names. -/
import Derived.Test.YtleenbfldkmcaaaK0
import Derived.Test.YtleenbfldkmcaaaBd
import Derived.Test.YtleenbfldkmcaaaLate
namespace Go.Proofs.Ytleenbfldkmcaaa
open Go.RowKit Go.Sort Go.BigFrame
set_option linter.unusedVariables false
set_option linter.unusedSimpArgs false
attribute [local go_sem] cell_alloc_old

abbrev Yes (y : Bool) (w : World) (e : Ending) (w' : World) : Prop := e = .returned (.bool y) ∧ Below w.heap.size w w'
abbrev Us.cs (x : Us) : List Value := [.int .i64 x.s, .int .i64 x.o, .int .i64 x.p, .int .i64 x.t]
abbrev Us.v (x : Us) : Value := .agg #[.int .i64 x.s, .int .i64 x.o, .int .i64 x.p, .int .i64 x.t]
abbrev Gr.cs (x : Gr) : List Value := [.int .i64 x.s, .int .i64 x.o, .int .i64 x.p, .int .i64 x.t, .int .i64 x.u]
abbrev Gr.v (x : Gr) : Value := .agg #[.int .i64 x.s, .int .i64 x.o, .int .i64 x.p, .int .i64 x.t, .int .i64 x.u]
abbrev Ak.cs (x : Ak) : List Value := [.int .i64 x.s, .int .i64 x.o, .int .i64 x.p]
abbrev Ak.v (x : Ak) : Value := .agg #[.int .i64 x.s, .int .i64 x.o, .int .i64 x.p]
abbrev Cz.cs (x : Cz) : List Value := [.int .i64 x.s, .int .i64 x.o, .int .i64 x.l, .int .i64 x.f, .int .i64 x.c]
abbrev Cz.v (x : Cz) : Value := .agg #[.int .i64 x.s, .int .i64 x.o, .int .i64 x.l, .int .i64 x.f, .int .i64 x.c]

/-- Elements of a size lie one behind the other at the address. -/
def At {α : Type} [Inhabited α] (s : Nat) (cs : α → List Value) (w : World) (a : Option Addr) (l : List α) : Prop :=
  l = [] ∨ ∃ b off, a = some ⟨b, off, none⟩ ∧ ∀ i, i < l.length → ∀ j u, (cs (l.getD i default))[j]? = some u → w.cell? ⟨b, off + i * s + j, none⟩ = some u
section
variable {α : Type} [Inhabited α] {s : Nat} {cs : α → List Value}
theorem At.keep {w w' : World} {a : Option Addr} {l : List α} (h : At s cs w a l) (hb : Below w.heap.size w w') : At s cs w' a l := by
  rcases h with h | ⟨b, off, ha, h⟩
  · exact .inl h
  · exact .inr ⟨b, off, ha, fun i hi j u hj => keep1 hb (h i hi j u hj)⟩
theorem At.drop {w : World} {b off : Nat} {l : List α} (h : At s cs w (some ⟨b, off, none⟩) l) (k : Nat) : At s cs w (some ⟨b, off + k * s, none⟩) (l.drop k) := by
  rcases h with rfl | ⟨b', off', e, h⟩
  · exact .inl (by simp)
  · simp at e
    obtain ⟨rfl, rfl⟩ := e
    refine .inr ⟨_, _, rfl, fun i hi j u hj => ?_⟩
    simp at hi
    have e : (l.drop k).getD i default = l.getD (k + i) default := by simp [List.getD_eq_getElem?_getD]
    rw [e] at hj
    have := h (k + i) (by omega) j u hj
    rw [show off + k * s + i * s + j = off + (k + i) * s + j from by rw [Nat.add_mul]; omega]; exact this
theorem At.take {w : World} {a : Option Addr} {l : List α} (h : At s cs w a l) (k : Nat) : At s cs w a (l.take k) := by
  rcases h with rfl | ⟨b, off, e, h⟩
  · exact .inl (by simp)
  · refine .inr ⟨b, off, e, fun i hi j u hj => ?_⟩
    simp at hi
    have hi1 : i < k := by omega
    have e : (l.take k).getD i default = l.getD i default := by simp [List.getD_eq_getElem?_getD, List.getElem?_take, hi1]
    rw [e] at hj
    exact h i (by omega) j u hj
/-- Where a list is not empty, its address and its cells. -/
theorem At.at {w : World} {a : Option Addr} {l : List α} (h : At s cs w a l) {i : Nat} (hi : i < l.length) :
    ∃ b off, a = some ⟨b, off, none⟩ ∧ ∀ i, i < l.length → ∀ j u, (cs (l.getD i default))[j]? = some u → w.cell? ⟨b, off + i * s + j, none⟩ = some u := by
  rcases h with rfl | h
  · simp at hi
  · exact h
end
theorem getD_mem {α : Type} [Inhabited α] {l : List α} {i : Nat} (h : i < l.length) : l.getD i default ∈ l := by
  rw [List.getD_eq_getElem?_getD, List.getElem?_eq_getElem h]; exact List.getElem_mem h
/-- A use, a grant, an ask, a clash of a list in memory. -/
theorem At.us {w wr : World} {a : Option Addr} {l : List Us} (h : At 4 Us.cs w a l) (hb : Below w.heap.size w wr) {i : Nat} (hi : i < l.length) : ∃ b off, a = some ⟨b, off, none⟩ ∧
    wr.cell? ⟨b, off + i * 4, none⟩ = some (.int .i64 (l.getD i default).s) ∧ wr.cell? ⟨b, off + i * 4 + 1, none⟩ = some (.int .i64 (l.getD i default).o) ∧ wr.cell? ⟨b, off + i * 4 + 2, none⟩ = some (.int .i64 (l.getD i default).p) ∧
    wr.cell? ⟨b, off + i * 4 + 3, none⟩ = some (.int .i64 (l.getD i default).t) := by
  obtain ⟨b, off, ha, h⟩ := h.at hi
  exact ⟨b, off, ha, keep1 hb (h i hi 0 _ rfl), keep1 hb (h i hi 1 _ rfl), keep1 hb (h i hi 2 _ rfl), keep1 hb (h i hi 3 _ rfl)⟩
theorem At.gr {w wr : World} {a : Option Addr} {l : List Gr} (h : At 5 Gr.cs w a l) (hb : Below w.heap.size w wr) {i : Nat} (hi : i < l.length) : ∃ b off, a = some ⟨b, off, none⟩ ∧
    wr.cell? ⟨b, off + i * 5, none⟩ = some (.int .i64 (l.getD i default).s) ∧ wr.cell? ⟨b, off + i * 5 + 1, none⟩ = some (.int .i64 (l.getD i default).o) ∧ wr.cell? ⟨b, off + i * 5 + 2, none⟩ = some (.int .i64 (l.getD i default).p) ∧
    wr.cell? ⟨b, off + i * 5 + 3, none⟩ = some (.int .i64 (l.getD i default).t) ∧ wr.cell? ⟨b, off + i * 5 + 4, none⟩ = some (.int .i64 (l.getD i default).u) := by
  obtain ⟨b, off, ha, h⟩ := h.at hi
  exact ⟨b, off, ha, keep1 hb (h i hi 0 _ rfl), keep1 hb (h i hi 1 _ rfl), keep1 hb (h i hi 2 _ rfl), keep1 hb (h i hi 3 _ rfl), keep1 hb (h i hi 4 _ rfl)⟩
theorem At.ak {w wr : World} {a : Option Addr} {l : List Ak} (h : At 3 Ak.cs w a l) (hb : Below w.heap.size w wr) {i : Nat} (hi : i < l.length) : ∃ b off, a = some ⟨b, off, none⟩ ∧
    wr.cell? ⟨b, off + i * 3, none⟩ = some (.int .i64 (l.getD i default).s) ∧ wr.cell? ⟨b, off + i * 3 + 1, none⟩ = some (.int .i64 (l.getD i default).o) ∧ wr.cell? ⟨b, off + i * 3 + 2, none⟩ = some (.int .i64 (l.getD i default).p) := by
  obtain ⟨b, off, ha, h⟩ := h.at hi
  exact ⟨b, off, ha, keep1 hb (h i hi 0 _ rfl), keep1 hb (h i hi 1 _ rfl), keep1 hb (h i hi 2 _ rfl)⟩
theorem At.cz {w wr : World} {a : Option Addr} {l : List Cz} (h : At 5 Cz.cs w a l) (hb : Below w.heap.size w wr) {i : Nat} (hi : i < l.length) : ∃ b off, a = some ⟨b, off, none⟩ ∧
    wr.cell? ⟨b, off + i * 5, none⟩ = some (.int .i64 (l.getD i default).s) ∧ wr.cell? ⟨b, off + i * 5 + 1, none⟩ = some (.int .i64 (l.getD i default).o) ∧ wr.cell? ⟨b, off + i * 5 + 2, none⟩ = some (.int .i64 (l.getD i default).l) ∧
    wr.cell? ⟨b, off + i * 5 + 3, none⟩ = some (.int .i64 (l.getD i default).f) ∧ wr.cell? ⟨b, off + i * 5 + 4, none⟩ = some (.int .i64 (l.getD i default).c) := by
  obtain ⟨b, off, ha, h⟩ := h.at hi
  exact ⟨b, off, ha, keep1 hb (h i hi 0 _ rfl), keep1 hb (h i hi 1 _ rfl), keep1 hb (h i hi 2 _ rfl), keep1 hb (h i hi 3 _ rfl), keep1 hb (h i hi 4 _ rfl)⟩

/-- A table by its slices. -/
structure Tv where
  T : Tb
  ua : Option Addr
  nu : Nat
  uc : Nat
  ga : Option Addr
  ng : Nat
  gc : Nat
  aa : Option Addr
  na : Nat
  ac : Nat
instance : Inhabited Tv := ⟨⟨default, none, 0, 0, none, 0, 0, none, 0, 0⟩⟩
abbrev Tv.cs (t : Tv) : List Value := [.slice t.ua t.nu t.uc, .slice t.ga t.ng t.gc, .slice t.aa t.na t.ac]
abbrev Tv.v (t : Tv) : Value := .agg #[.slice t.ua t.nu t.uc, .slice t.ga t.ng t.gc, .slice t.aa t.na t.ac]
abbrev I64 (n : Int) : Prop := (Lit.int .i64 n).wf = true
structure Us.wf (x : Us) : Prop where
  s : I64 x.s
  o : I64 x.o
  p : I64 x.p
  t : I64 x.t
structure Gr.wf (x : Gr) : Prop where
  s : I64 x.s
  o : I64 x.o
  p : I64 x.p
  t : I64 x.t
  u : I64 x.u
structure Tv.ok (t : Tv) (w : World) : Prop where
  u : At 4 Us.cs w t.ua t.T.U
  g : At 5 Gr.cs w t.ga t.T.G
  a : At 3 Ak.cs w t.aa t.T.A
  un : t.nu = t.T.U.length
  gn : t.ng = t.T.G.length
  an : t.na = t.T.A.length
  uc : t.nu ≤ t.uc
  gc : t.ng ≤ t.gc
  ac : t.na ≤ t.ac
  um : t.uc ≤ maxLen
  gm : t.gc ≤ maxLen
  am : t.ac ≤ maxLen
  uw : ∀ x ∈ t.T.U, x.wf
  gw : ∀ x ∈ t.T.G, x.wf
theorem Tv.ok.keep {t : Tv} {w w' : World} (h : t.ok w) (hb : Below w.heap.size w w') : t.ok w' := ⟨h.u.keep hb, h.g.keep hb, h.a.keep hb, h.un, h.gn, h.an, h.uc, h.gc, h.ac, h.um, h.gm, h.am, h.uw, h.gw⟩

/-- A slice of whatever kind. -/
structure Sl where
  a : Option Addr
  n : Nat
  c : Nat
/-- What was heard of a neighbour, by its 31 cells: the frame, of whom, ten numbers, the uses, the grants, and what the statements do not read. -/
structure Nv where
  B : Nb
  x1 : Int
  x2 : Int
  x3 : Int
  x4 : Int
  x5 : Int
  x6 : Int
  x7 : Int
  x8 : Int
  x9 : Int
  x10 : Int
  ua : Option Addr
  nu : Nat
  uc : Nat
  ga : Option Addr
  ng : Nat
  gc : Nat
  s0 : Sl
  s1 : Sl
  s2 : Sl
  s3 : Sl
  s4 : Sl
  s5 : Sl
  s6 : Sl
  f0 : Bool
  f1 : Bool
  z0 : Int
  z1 : Int
  z2 : Int
  z3 : Int
  z4 : Int
  z5 : Int
  z6 : Int
  z7 : Int
instance : Inhabited Nv := ⟨⟨default, 0, 0, 0, 0, 0, 0, 0, 0, 0, 0, none, 0, 0, none, 0, 0, ⟨none, 0, 0⟩, ⟨none, 0, 0⟩, ⟨none, 0, 0⟩, ⟨none, 0, 0⟩, ⟨none, 0, 0⟩, ⟨none, 0, 0⟩, ⟨none, 0, 0⟩, false, false, 0, 0, 0, 0, 0, 0, 0, 0⟩⟩
/-- The 30 cells of the beacon. -/
abbrev Nv.bs (n : Nv) : List Value := [.int .i64 n.B.h, .int .i64 n.x1, .int .i64 n.x2, .int .i64 n.x3, .int .i64 n.x4, .int .i64 n.x5, .int .i64 n.x6, .int .i64 n.x7, .int .i64 n.x8, .int .i64 n.x9, .int .i64 n.x10, .slice n.ua n.nu n.uc, .slice n.ga n.ng n.gc, .slice n.s0.a n.s0.n n.s0.c, .slice n.s1.a n.s1.n n.s1.c, .bool n.f0, .slice n.s2.a n.s2.n n.s2.c, .slice n.s3.a n.s3.n n.s3.c, .slice n.s4.a n.s4.n n.s4.c, .int .i64 n.z0, .int .i64 n.z1, .int .u64 n.z2, .int .i64 n.z3, .int .i64 n.z4, .int .i64 n.z5, .int .i64 n.z6, .int .i64 n.z7, .slice n.s5.a n.s5.n n.s5.c, .slice n.s6.a n.s6.n n.s6.c, .bool n.f1]
abbrev Nv.b (n : Nv) : Value := .agg #[.int .i64 n.B.h, .int .i64 n.x1, .int .i64 n.x2, .int .i64 n.x3, .int .i64 n.x4, .int .i64 n.x5, .int .i64 n.x6, .int .i64 n.x7, .int .i64 n.x8, .int .i64 n.x9, .int .i64 n.x10, .slice n.ua n.nu n.uc, .slice n.ga n.ng n.gc, .slice n.s0.a n.s0.n n.s0.c, .slice n.s1.a n.s1.n n.s1.c, .bool n.f0, .slice n.s2.a n.s2.n n.s2.c, .slice n.s3.a n.s3.n n.s3.c, .slice n.s4.a n.s4.n n.s4.c, .int .i64 n.z0, .int .i64 n.z1, .int .u64 n.z2, .int .i64 n.z3, .int .i64 n.z4, .int .i64 n.z5, .int .i64 n.z6, .int .i64 n.z7, .slice n.s5.a n.s5.n n.s5.c, .slice n.s6.a n.s6.n n.s6.c, .bool n.f1]
abbrev Nv.cs (n : Nv) : List Value := [.int .i64 n.B.f, .int .i64 n.B.h, .int .i64 n.x1, .int .i64 n.x2, .int .i64 n.x3, .int .i64 n.x4, .int .i64 n.x5, .int .i64 n.x6, .int .i64 n.x7, .int .i64 n.x8, .int .i64 n.x9, .int .i64 n.x10, .slice n.ua n.nu n.uc, .slice n.ga n.ng n.gc, .slice n.s0.a n.s0.n n.s0.c, .slice n.s1.a n.s1.n n.s1.c, .bool n.f0, .slice n.s2.a n.s2.n n.s2.c, .slice n.s3.a n.s3.n n.s3.c, .slice n.s4.a n.s4.n n.s4.c, .int .i64 n.z0, .int .i64 n.z1, .int .u64 n.z2, .int .i64 n.z3, .int .i64 n.z4, .int .i64 n.z5, .int .i64 n.z6, .int .i64 n.z7, .slice n.s5.a n.s5.n n.s5.c, .slice n.s6.a n.s6.n n.s6.c, .bool n.f1]
abbrev Nv.v (n : Nv) : Value := .agg #[.int .i64 n.B.f, .int .i64 n.B.h, .int .i64 n.x1, .int .i64 n.x2, .int .i64 n.x3, .int .i64 n.x4, .int .i64 n.x5, .int .i64 n.x6, .int .i64 n.x7, .int .i64 n.x8, .int .i64 n.x9, .int .i64 n.x10, .slice n.ua n.nu n.uc, .slice n.ga n.ng n.gc, .slice n.s0.a n.s0.n n.s0.c, .slice n.s1.a n.s1.n n.s1.c, .bool n.f0, .slice n.s2.a n.s2.n n.s2.c, .slice n.s3.a n.s3.n n.s3.c, .slice n.s4.a n.s4.n n.s4.c, .int .i64 n.z0, .int .i64 n.z1, .int .u64 n.z2, .int .i64 n.z3, .int .i64 n.z4, .int .i64 n.z5, .int .i64 n.z6, .int .i64 n.z7, .slice n.s5.a n.s5.n n.s5.c, .slice n.s6.a n.s6.n n.s6.c, .bool n.f1]
structure Nv.ok (n : Nv) (w : World) : Prop where
  u : At 4 Us.cs w n.ua n.B.U
  g : At 5 Gr.cs w n.ga n.B.G
  un : n.nu = n.B.U.length
  gn : n.ng = n.B.G.length
  uc : n.nu ≤ n.uc
  gc : n.ng ≤ n.gc
  um : n.uc ≤ maxLen
  gm : n.gc ≤ maxLen
theorem Nv.ok.keep {n : Nv} {w w' : World} (h : n.ok w) (hb : Below w.heap.size w w') : n.ok w' := ⟨h.u.keep hb, h.g.keep hb, h.un, h.gn, h.uc, h.gc, h.um, h.gm⟩
/-- What was heard lies in memory. -/
def NsAt (w : World) (a : Option Addr) (N : List Nv) : Prop := At 31 Nv.cs w a N ∧ ∀ n ∈ N, n.ok w
theorem NsAt.keep {w w' : World} {a : Option Addr} {N : List Nv} (h : NsAt w a N) (hb : Below w.heap.size w w') : NsAt w' a N := ⟨h.1.keep hb, fun n hn => (h.2 n hn).keep hb⟩
def nbs (N : List Nv) : List Nb := N.map Nv.B
/-- Tables lie in memory. -/
def TsAt (w : World) (a : Option Addr) (T : List Tv) : Prop := At 3 Tv.cs w a T ∧ ∀ t ∈ T, t.ok w
theorem TsAt.keep {w w' : World} {a : Option Addr} {T : List Tv} (h : TsAt w a T) (hb : Below w.heap.size w w') : TsAt w' a T := ⟨h.1.keep hb, fun n hn => (h.2 n hn).keep hb⟩
def tbs (T : List Tv) : List Tb := T.map Tv.T
/-- The 31 cells of an element. -/
theorem NsAt.at {w wr : World} {a : Option Addr} {N : List Nv} (h : NsAt w a N) (hb : Below w.heap.size w wr) {i : Nat} (hi : i < N.length) : ∃ b off, a = some ⟨b, off, none⟩ ∧ (N.getD i default).ok wr ∧
    ∀ j u, (N.getD i default).cs[j]? = some u → wr.cell? ⟨b, off + i * 31 + j, none⟩ = some u := by
  obtain ⟨b, off, ha, hc⟩ := h.1.at hi
  exact ⟨b, off, ha, (h.2 _ (getD_mem hi)).keep hb, fun j u hj => keep1 hb (hc i hi j u hj)⟩
theorem TsAt.at {w wr : World} {a : Option Addr} {T : List Tv} (h : TsAt w a T) (hb : Below w.heap.size w wr) {i : Nat} (hi : i < T.length) : ∃ b off, a = some ⟨b, off, none⟩ ∧ (T.getD i default).ok wr ∧
    wr.cell? ⟨b, off + i * 3, none⟩ = some (.slice (T.getD i default).ua (T.getD i default).nu (T.getD i default).uc) ∧ wr.cell? ⟨b, off + i * 3 + 1, none⟩ = some (.slice (T.getD i default).ga (T.getD i default).ng (T.getD i default).gc) ∧
    wr.cell? ⟨b, off + i * 3 + 2, none⟩ = some (.slice (T.getD i default).aa (T.getD i default).na (T.getD i default).ac) := by
  obtain ⟨b, off, ha, hc⟩ := h.1.at hi
  exact ⟨b, off, ha, (h.2 _ (getD_mem hi)).keep hb, keep1 hb (hc i hi 0 _ rfl), keep1 hb (hc i hi 1 _ rfl), keep1 hb (hc i hi 2 _ rfl)⟩
theorem nbs_len (N : List Nv) : (nbs N).length = N.length := by simp [nbs]
theorem tbs_len (T : List Tv) : (tbs T).length = T.length := by simp [tbs]
theorem tbs_at {T : List Tv} {i : Nat} (hi : i < T.length) : (tbs T).getD i default = (T.getD i default).T := by simp [tbs, hi]
theorem nbs_at {T : List Nv} {i : Nat} (hi : i < T.length) : (nbs T).getD i default = (T.getD i default).B := by simp [nbs, hi]
end Go.Proofs.Ytleenbfldkmcaaa
