/- Proved: what holds while a node's table after it has given up cells is worked out and appended, whichever operation comes first; and plain facts on the tables afterwards. Conditions: those that each theorem names. -/
import Derived.Test.YtleenbfldkmcaaaK12b
import Derived.Test.YtleenbfldkmcaaaK24c
import Derived.Test.YtleenbfldkmcaaaK26a
namespace Go.Proofs.Ytleenbfldkmcaaa
open Go.RowKit Go.Sort Go.BigFrame
set_option linter.unusedVariables false
set_option linter.unusedSimpArgs false
/-- A list that is not empty lies outside the block that a row owns. -/
def Away {α : Type} (w : World) (o : Value) (a : Option Addr) (l : List α) : Prop := l = [] ∨ ∃ b off, a = some ⟨b, off, none⟩ ∧ b < w.heap.size ∧ o.ownBlock ≠ some b
theorem Away.keep {α : Type} {w w' : World} {o : Value} {a : Option Addr} {l : List α} (h : Away w o a l) (hs : w.heap.size ≤ w'.heap.size) : Away w' o a l := by
  rcases h with h | ⟨b, off, h1, h2, h3⟩
  · exact .inl h
  · exact .inr ⟨b, off, h1, Nat.lt_of_lt_of_le h2 hs, h3⟩
theorem Away.app {α : Type} {w w' : World} {o o' : Value} {a : Option Addr} {l : List α} (h : Away w o a l) (hs : w.heap.size ≤ w'.heap.size) (ho : o'.ownBlock = o.ownBlock ∨ o'.ownBlock = some w.heap.size) : Away w' o' a l := by
  rcases h with h | ⟨b, off, h1, h2, h3⟩
  · exact .inl h
  · refine .inr ⟨b, off, h1, Nat.lt_of_lt_of_le h2 hs, fun e => ?_⟩
    rcases ho with ho | ho
    · rw [ho] at e; exact h3 e
    · rw [ho] at e; cases e; exact Nat.lt_irrefl _ h2
theorem Away.grown {α : Type} [Inhabited α] {s : Nat} {cs : α → List Value} {w w' : World} {o : Value} {a : Option Addr} {l : List α} (h : Away w o a l) (hc : At s cs w a l) (hg : w.grownBy w' o.ownBlock) : At s cs w' a l := hc.grown hg (by
  rcases h with h | ⟨b, off, h1, h2, h3⟩
  · exact .inl h
  · exact .inr ⟨b, off, h1, h3⟩)
def KeptT (w : World) (o : Value) (L : List Tv) : Prop := ∀ y ∈ L, y.ok w ∧ Away w o y.ua y.T.U ∧ Away w o y.ga y.T.G ∧ Away w o y.aa y.T.A
theorem KeptT.keep {w w' : World} {o : Value} {L : List Tv} (h : KeptT w o L) (hb : Below w.heap.size w w') : KeptT w' o L := fun y hy => by
  obtain ⟨h1, h2, h3, h4⟩ := h y hy
  exact ⟨h1.keep hb, h2.keep hb.size, h3.keep hb.size, h4.keep hb.size⟩
theorem KeptT.app {w w' : World} {o o' : Value} {L : List Tv} (h : KeptT w o L) (hg : w.grownBy w' o.ownBlock) (ho : o'.ownBlock = o.ownBlock ∨ o'.ownBlock = some w.heap.size) : KeptT w' o' L := fun y hy => by
  obtain ⟨h1, h2, h3, h4⟩ := h y hy
  exact ⟨⟨h2.grown h1.u hg, h3.grown h1.g hg, h4.grown h1.a hg, h1.un, h1.gn, h1.an, h1.uc, h1.gc, h1.ac, h1.um, h1.gm, h1.am, h1.uw, h1.gw⟩, h2.app hg.size ho, h3.app hg.size ho, h4.app hg.size ho⟩
theorem KeptT.nil (w : World) (o : Value) : KeptT w o [] := fun y hy => by cases hy
theorem KeptT.snoc {w : World} {o : Value} {L : List Tv} {r : Tv} (h : KeptT w o L) (hr : r.ok w ∧ Away w o r.ua r.T.U ∧ Away w o r.ga r.T.G ∧ Away w o r.aa r.T.A) : KeptT w o (L ++ [r]) := fun y hy => by
  rw [List.mem_append, List.mem_singleton] at hy
  rcases hy with hy | rfl
  · exact h y hy
  · exact hr
theorem tv_one (x : Tv) : ∀ u ∈ x.cs, u.oneCell' = true := by simp [Value.oneCell']
theorem tv_size (x : Tv) : x.cs.length = 3 := rfl
theorem info26 : (Try.prog.info? 26).map (fun i => (i.zero, i.size, i.bytes)) = some (some (.agg #[.slice none 0 0, .slice none 0 0, .slice none 0 0]), 3, 72) := by kernel_rfl
/-- A list that is new since a world, or lay in memory before a row's base: away from the row's block. -/
theorem away_new {α : Type} [Inhabited α] {s : Nat} {cs : α → List Value} {W w : World} {base n : Nat} {o : Value} {xs : List Value} {a : Option Addr} {l : List α} (hR : W.ownsRow base 26 3 o n xs) (hf : From W.heap.size a l) (hc : At s cs w a l) (hp : ∀ x, (cs x)[0]? ≠ none) : Away w o a l := by
  rcases hc.where hp with h | ⟨b, off, h1, h2⟩
  · exact .inl h
  · rcases hf with h | ⟨b', off', h3, h4⟩
    · exact .inl h
    · rw [h1] at h3; cases h3
      exact .inr ⟨b, off, h1, h2, fun e => by have := (hR.lt b e).2; omega⟩
theorem away_old {α : Type} [Inhabited α] {s : Nat} {cs : α → List Value} {W0 W w : World} {base n : Nat} {o : Value} {xs : List Value} {a : Option Addr} {l : List α} (hR : W.ownsRow base 26 3 o n xs) (hb : W0.heap.size ≤ base) (hs : W0.heap.size ≤ w.heap.size) (hc : At s cs W0 a l) (hp : ∀ x, (cs x)[0]? ≠ none) : Away w o a l := by
  rcases hc.where hp with h | ⟨b, off, h1, h2⟩
  · exact .inl h
  · exact .inr ⟨b, off, h1, Nat.lt_of_lt_of_le h2 hs, fun e => by have := (hR.lt b e).1; omega⟩
/-- The tables of the first nodes, afterwards. -/
def aftTo (H : List (List Bool)) (T : List Tb) (now : Int) (at' : Nat → Int) (j : Nat) : List Tb := (List.range j).map fun i => yieldV (T.getD i default) i now (heardV H T i (at' i))
theorem aftTo_succ (H : List (List Bool)) (T : List Tb) (now : Int) (at' : Nat → Int) (j : Nat) : aftTo H T now at' (j + 1) = aftTo H T now at' j ++ [yieldV (T.getD j default) j now (heardV H T j (at' j))] := by
  unfold aftTo; rw [List.range_succ, List.map_append]; rfl
theorem aftTo_all (H : List (List Bool)) (T : List Tb) (now : Int) (at' : Nat → Int) : aftTo H T now at' T.length = afterV H T now at' := rfl
theorem tbs_append (L : List Tv) (r : Tv) : tbs (L ++ [r]) = tbs L ++ [r.T] := by simp [tbs]

structure JS (W0 W : World) (ov HV TV : Value) (x : Tv) (i q : Nat) (at' now : Int) (C : List Value) (L : List Tv) (LN : List Nv) (Y : Tb) (d : Dn) (vs : Vs) (na : Option Addr) (nn : Nat) (nc : Nat) (r : Tv) (gb : Nat) (v2 : Value) (w : World) : Prop where
  b : Below W0.heap.size W0 w
  f0 : d 0 = true → vs 0 = ov
  f1 : d 1 = true → vs 1 = x.v
  f2 : d 2 = true → vs 2 = .int .i64 i
  f5 : d 5 = true → vs 5 = .int .i64 i
  f3 : d 3 = true → vs 3 = HV
  f4 : d 4 = true → vs 4 = TV
  f6 : d 6 = true → vs 6 = .int .i64 at'
  f8 : d 8 = true → vs 8 = .int .i64 now
  bw : d 11 = false → Below W.heap.size W w
  ro : d 11 = false → w.ownsRow W0.heap.size 26 3 ov q C
  ko : d 11 = false → KeptT w ov L
  f7 : d 7 = true → vs 7 = .slice na nn nc
  o7 : d 7 = true → d 11 = false → NsAt w na LN ∧ nn = LN.length ∧ nn ≤ maxLen
  f9 : d 9 = true → vs 9 = r.v
  o9 : d 9 = true → d 11 = false → r.ok w
  e9 : d 9 = true → r.T = Y ∧ From W.heap.size r.ua r.T.U ∧ From W.heap.size r.ga r.T.G ∧ r.aa = x.aa ∧ r.T.A = x.T.A
  f10 : d 10 = true → vs 10 = .slice (some ⟨gb, 0, none⟩) 1 1
  o10 : d 10 = true → d 11 = false → CellsAt w gb 0 r.cs
  f11 : d 11 = true → vs 11 = v2
  o11 : d 11 = true → KeptT w v2 (L ++ [r]) ∧ w.ownsRow W0.heap.size 26 3 v2 (q + 1) (C ++ r.cs)
  f12 : d 12 = true → vs 12 = v2
  c9 : d 9 = true → d 1 = true ∧ d 7 = true
  c10 : d 10 = true → d 9 = true
  c11 : d 11 = true → d 10 = true ∧ d 0 = true
  c12 : d 12 = true → d 11 = true
theorem JS.start {W0 W : World} {ov HV TV : Value} {x : Tv} {i q : Nat} {at' now : Int} {C : List Value} {L : List Tv} {LN : List Nv} {Y : Tb} {na : Option Addr} {nn : Nat} {nc : Nat} {r : Tv} {gb : Nat} {v2 : Value} {vs : Vs} (hb : Below W0.heap.size W0 W) (hr : W.ownsRow W0.heap.size 26 3 ov q C) (hk : KeptT W ov L) : JS W0 W ov HV TV x i q at' now C L LN Y (fun _ => false) vs na nn nc r gb v2 W.drew where
  b := hb.drew
  bw := fun _ => Below.drew (Below.refl _ _)
  ro := fun _ => ownsRow_below hr (Below.drew (Below.refl _ _))
  ko := fun _ => hk.keep (Below.drew (Below.refl _ _))
  f0 := fun h => absurd h Bool.false_ne_true
  f1 := fun h => absurd h Bool.false_ne_true
  f2 := fun h => absurd h Bool.false_ne_true
  f5 := fun h => absurd h Bool.false_ne_true
  f3 := fun h => absurd h Bool.false_ne_true
  f4 := fun h => absurd h Bool.false_ne_true
  f6 := fun h => absurd h Bool.false_ne_true
  f8 := fun h => absurd h Bool.false_ne_true
  f7 := fun h => absurd h Bool.false_ne_true
  o7 := fun h => absurd h Bool.false_ne_true
  f9 := fun h => absurd h Bool.false_ne_true
  o9 := fun h => absurd h Bool.false_ne_true
  e9 := fun h => absurd h Bool.false_ne_true
  f10 := fun h => absurd h Bool.false_ne_true
  o10 := fun h => absurd h Bool.false_ne_true
  f11 := fun h => absurd h Bool.false_ne_true
  o11 := fun h => absurd h Bool.false_ne_true
  f12 := fun h => absurd h Bool.false_ne_true
  c9 := fun h => absurd h Bool.false_ne_true
  c10 := fun h => absurd h Bool.false_ne_true
  c11 := fun h => absurd h Bool.false_ne_true
  c12 := fun h => absurd h Bool.false_ne_true
theorem JS.keep {W0 W : World} {ov HV TV : Value} {x : Tv} {i q : Nat} {at' now : Int} {C : List Value} {L : List Tv} {LN : List Nv} {Y : Tb} {d : Dn} {vs : Vs} {na : Option Addr} {nn : Nat} {nc : Nat} {r : Tv} {gb : Nat} {v2 : Value} {w w' : World} (h : JS W0 W ov HV TV x i q at' now C L LN Y d vs na nn nc r gb v2 w) (hb : Below w.heap.size w w') : JS W0 W ov HV TV x i q at' now C L LN Y d vs na nn nc r gb v2 w' where
  b := bstep h.b hb
  f0 := h.f0
  f1 := h.f1
  f2 := h.f2
  f5 := h.f5
  f3 := h.f3
  f4 := h.f4
  f6 := h.f6
  f8 := h.f8
  bw h0 := bstep (h.bw h0) hb
  ro h0 := ownsRow_below (h.ro h0) hb
  ko h0 := (h.ko h0).keep hb
  f7 := h.f7
  o7 h0 h1 := ⟨(h.o7 h0 h1).1.keep hb, (h.o7 h0 h1).2⟩
  f9 := h.f9
  o9 h0 h1 := (h.o9 h0 h1).keep hb
  e9 := h.e9
  f10 := h.f10
  o10 h0 h1 := (h.o10 h0 h1).keep hb
  f11 := h.f11
  o11 h0 := ⟨(h.o11 h0).1.keep hb, ownsRow_below (h.o11 h0).2 hb⟩
  f12 := h.f12
  c9 := h.c9
  c10 := h.c10
  c11 := h.c11
  c12 := h.c12
theorem JS.s0 {W0 W : World} {ov HV TV : Value} {x : Tv} {i q : Nat} {at' now : Int} {C : List Value} {L : List Tv} {LN : List Nv} {Y : Tb} {d : Dn} {vs : Vs} {na : Option Addr} {nn : Nat} {nc : Nat} {r : Tv} {gb : Nat} {v2 : Value} {w : World} (h : JS W0 W ov HV TV x i q at' now C L LN Y d vs na nn nc r gb v2 w) (hd : d 0 = false)  : JS W0 W ov HV TV x i q at' now C L LN Y (d.set 0) (vs.upd 0 (ov)) na nn nc r gb v2 (w) := by
  exact { b := h.b
          f0 := fun h0 => Vs.upd_same _ _ _
          f1 := fun h0 => by rw [Vs.upd_ne _ _ (by decide)]; exact (h.f1 (Dn.set_back (by decide) h0))
          f2 := fun h0 => by rw [Vs.upd_ne _ _ (by decide)]; exact (h.f2 (Dn.set_back (by decide) h0))
          f5 := fun h0 => by rw [Vs.upd_ne _ _ (by decide)]; exact (h.f5 (Dn.set_back (by decide) h0))
          f3 := fun h0 => by rw [Vs.upd_ne _ _ (by decide)]; exact (h.f3 (Dn.set_back (by decide) h0))
          f4 := fun h0 => by rw [Vs.upd_ne _ _ (by decide)]; exact (h.f4 (Dn.set_back (by decide) h0))
          f6 := fun h0 => by rw [Vs.upd_ne _ _ (by decide)]; exact (h.f6 (Dn.set_back (by decide) h0))
          f8 := fun h0 => by rw [Vs.upd_ne _ _ (by decide)]; exact (h.f8 (Dn.set_back (by decide) h0))
          bw := fun h0 => (h.bw (Dn.set_back' (by decide) h0))
          ro := fun h0 => (h.ro (Dn.set_back' (by decide) h0))
          ko := fun h0 => (h.ko (Dn.set_back' (by decide) h0))
          f7 := fun h0 => by rw [Vs.upd_ne _ _ (by decide)]; exact (h.f7 (Dn.set_back (by decide) h0))
          o7 := fun h0 h1 => (h.o7 (Dn.set_back (by decide) h0) (Dn.set_back' (by decide) h1))
          f9 := fun h0 => by rw [Vs.upd_ne _ _ (by decide)]; exact (h.f9 (Dn.set_back (by decide) h0))
          o9 := fun h0 h1 => (h.o9 (Dn.set_back (by decide) h0) (Dn.set_back' (by decide) h1))
          e9 := fun h0 => (h.e9 (Dn.set_back (by decide) h0))
          f10 := fun h0 => by rw [Vs.upd_ne _ _ (by decide)]; exact (h.f10 (Dn.set_back (by decide) h0))
          o10 := fun h0 h1 => (h.o10 (Dn.set_back (by decide) h0) (Dn.set_back' (by decide) h1))
          f11 := fun h0 => by rw [Vs.upd_ne _ _ (by decide)]; exact (h.f11 (Dn.set_back (by decide) h0))
          o11 := fun h0 => (h.o11 (Dn.set_back (by decide) h0))
          f12 := fun h0 => by rw [Vs.upd_ne _ _ (by decide)]; exact (h.f12 (Dn.set_back (by decide) h0))
          c9 := fun h0 => ⟨by rw [Dn.set]; simp [(h.c9 (Dn.set_back (by decide) h0)).1], by rw [Dn.set]; simp [(h.c9 (Dn.set_back (by decide) h0)).2]⟩
          c10 := fun h0 => by rw [Dn.set]; simp [(h.c10 (Dn.set_back (by decide) h0))]
          c11 := fun h0 => ⟨by rw [Dn.set]; simp [(h.c11 (Dn.set_back (by decide) h0)).1], by rw [Dn.set]; simp [(h.c11 (Dn.set_back (by decide) h0)).2]⟩
          c12 := fun h0 => by rw [Dn.set]; simp [(h.c12 (Dn.set_back (by decide) h0))] }
theorem JS.s1 {W0 W : World} {ov HV TV : Value} {x : Tv} {i q : Nat} {at' now : Int} {C : List Value} {L : List Tv} {LN : List Nv} {Y : Tb} {d : Dn} {vs : Vs} {na : Option Addr} {nn : Nat} {nc : Nat} {r : Tv} {gb : Nat} {v2 : Value} {w : World} (h : JS W0 W ov HV TV x i q at' now C L LN Y d vs na nn nc r gb v2 w) (hd : d 1 = false)  : JS W0 W ov HV TV x i q at' now C L LN Y (d.set 1) (vs.upd 1 (x.v)) na nn nc r gb v2 (w) := by
  exact { b := h.b
          f0 := fun h0 => by rw [Vs.upd_ne _ _ (by decide)]; exact (h.f0 (Dn.set_back (by decide) h0))
          f1 := fun h0 => Vs.upd_same _ _ _
          f2 := fun h0 => by rw [Vs.upd_ne _ _ (by decide)]; exact (h.f2 (Dn.set_back (by decide) h0))
          f5 := fun h0 => by rw [Vs.upd_ne _ _ (by decide)]; exact (h.f5 (Dn.set_back (by decide) h0))
          f3 := fun h0 => by rw [Vs.upd_ne _ _ (by decide)]; exact (h.f3 (Dn.set_back (by decide) h0))
          f4 := fun h0 => by rw [Vs.upd_ne _ _ (by decide)]; exact (h.f4 (Dn.set_back (by decide) h0))
          f6 := fun h0 => by rw [Vs.upd_ne _ _ (by decide)]; exact (h.f6 (Dn.set_back (by decide) h0))
          f8 := fun h0 => by rw [Vs.upd_ne _ _ (by decide)]; exact (h.f8 (Dn.set_back (by decide) h0))
          bw := fun h0 => (h.bw (Dn.set_back' (by decide) h0))
          ro := fun h0 => (h.ro (Dn.set_back' (by decide) h0))
          ko := fun h0 => (h.ko (Dn.set_back' (by decide) h0))
          f7 := fun h0 => by rw [Vs.upd_ne _ _ (by decide)]; exact (h.f7 (Dn.set_back (by decide) h0))
          o7 := fun h0 h1 => (h.o7 (Dn.set_back (by decide) h0) (Dn.set_back' (by decide) h1))
          f9 := fun h0 => by rw [Vs.upd_ne _ _ (by decide)]; exact (h.f9 (Dn.set_back (by decide) h0))
          o9 := fun h0 h1 => (h.o9 (Dn.set_back (by decide) h0) (Dn.set_back' (by decide) h1))
          e9 := fun h0 => (h.e9 (Dn.set_back (by decide) h0))
          f10 := fun h0 => by rw [Vs.upd_ne _ _ (by decide)]; exact (h.f10 (Dn.set_back (by decide) h0))
          o10 := fun h0 h1 => (h.o10 (Dn.set_back (by decide) h0) (Dn.set_back' (by decide) h1))
          f11 := fun h0 => by rw [Vs.upd_ne _ _ (by decide)]; exact (h.f11 (Dn.set_back (by decide) h0))
          o11 := fun h0 => (h.o11 (Dn.set_back (by decide) h0))
          f12 := fun h0 => by rw [Vs.upd_ne _ _ (by decide)]; exact (h.f12 (Dn.set_back (by decide) h0))
          c9 := fun h0 => ⟨by rw [Dn.set]; simp [(h.c9 (Dn.set_back (by decide) h0)).1], by rw [Dn.set]; simp [(h.c9 (Dn.set_back (by decide) h0)).2]⟩
          c10 := fun h0 => by rw [Dn.set]; simp [(h.c10 (Dn.set_back (by decide) h0))]
          c11 := fun h0 => ⟨by rw [Dn.set]; simp [(h.c11 (Dn.set_back (by decide) h0)).1], by rw [Dn.set]; simp [(h.c11 (Dn.set_back (by decide) h0)).2]⟩
          c12 := fun h0 => by rw [Dn.set]; simp [(h.c12 (Dn.set_back (by decide) h0))] }
theorem JS.s2 {W0 W : World} {ov HV TV : Value} {x : Tv} {i q : Nat} {at' now : Int} {C : List Value} {L : List Tv} {LN : List Nv} {Y : Tb} {d : Dn} {vs : Vs} {na : Option Addr} {nn : Nat} {nc : Nat} {r : Tv} {gb : Nat} {v2 : Value} {w : World} (h : JS W0 W ov HV TV x i q at' now C L LN Y d vs na nn nc r gb v2 w) (hd : d 2 = false)  : JS W0 W ov HV TV x i q at' now C L LN Y (d.set 2) (vs.upd 2 (.int .i64 i)) na nn nc r gb v2 (w) := by
  exact { b := h.b
          f0 := fun h0 => by rw [Vs.upd_ne _ _ (by decide)]; exact (h.f0 (Dn.set_back (by decide) h0))
          f1 := fun h0 => by rw [Vs.upd_ne _ _ (by decide)]; exact (h.f1 (Dn.set_back (by decide) h0))
          f2 := fun h0 => Vs.upd_same _ _ _
          f5 := fun h0 => by rw [Vs.upd_ne _ _ (by decide)]; exact (h.f5 (Dn.set_back (by decide) h0))
          f3 := fun h0 => by rw [Vs.upd_ne _ _ (by decide)]; exact (h.f3 (Dn.set_back (by decide) h0))
          f4 := fun h0 => by rw [Vs.upd_ne _ _ (by decide)]; exact (h.f4 (Dn.set_back (by decide) h0))
          f6 := fun h0 => by rw [Vs.upd_ne _ _ (by decide)]; exact (h.f6 (Dn.set_back (by decide) h0))
          f8 := fun h0 => by rw [Vs.upd_ne _ _ (by decide)]; exact (h.f8 (Dn.set_back (by decide) h0))
          bw := fun h0 => (h.bw (Dn.set_back' (by decide) h0))
          ro := fun h0 => (h.ro (Dn.set_back' (by decide) h0))
          ko := fun h0 => (h.ko (Dn.set_back' (by decide) h0))
          f7 := fun h0 => by rw [Vs.upd_ne _ _ (by decide)]; exact (h.f7 (Dn.set_back (by decide) h0))
          o7 := fun h0 h1 => (h.o7 (Dn.set_back (by decide) h0) (Dn.set_back' (by decide) h1))
          f9 := fun h0 => by rw [Vs.upd_ne _ _ (by decide)]; exact (h.f9 (Dn.set_back (by decide) h0))
          o9 := fun h0 h1 => (h.o9 (Dn.set_back (by decide) h0) (Dn.set_back' (by decide) h1))
          e9 := fun h0 => (h.e9 (Dn.set_back (by decide) h0))
          f10 := fun h0 => by rw [Vs.upd_ne _ _ (by decide)]; exact (h.f10 (Dn.set_back (by decide) h0))
          o10 := fun h0 h1 => (h.o10 (Dn.set_back (by decide) h0) (Dn.set_back' (by decide) h1))
          f11 := fun h0 => by rw [Vs.upd_ne _ _ (by decide)]; exact (h.f11 (Dn.set_back (by decide) h0))
          o11 := fun h0 => (h.o11 (Dn.set_back (by decide) h0))
          f12 := fun h0 => by rw [Vs.upd_ne _ _ (by decide)]; exact (h.f12 (Dn.set_back (by decide) h0))
          c9 := fun h0 => ⟨by rw [Dn.set]; simp [(h.c9 (Dn.set_back (by decide) h0)).1], by rw [Dn.set]; simp [(h.c9 (Dn.set_back (by decide) h0)).2]⟩
          c10 := fun h0 => by rw [Dn.set]; simp [(h.c10 (Dn.set_back (by decide) h0))]
          c11 := fun h0 => ⟨by rw [Dn.set]; simp [(h.c11 (Dn.set_back (by decide) h0)).1], by rw [Dn.set]; simp [(h.c11 (Dn.set_back (by decide) h0)).2]⟩
          c12 := fun h0 => by rw [Dn.set]; simp [(h.c12 (Dn.set_back (by decide) h0))] }
theorem JS.s5 {W0 W : World} {ov HV TV : Value} {x : Tv} {i q : Nat} {at' now : Int} {C : List Value} {L : List Tv} {LN : List Nv} {Y : Tb} {d : Dn} {vs : Vs} {na : Option Addr} {nn : Nat} {nc : Nat} {r : Tv} {gb : Nat} {v2 : Value} {w : World} (h : JS W0 W ov HV TV x i q at' now C L LN Y d vs na nn nc r gb v2 w) (hd : d 5 = false)  : JS W0 W ov HV TV x i q at' now C L LN Y (d.set 5) (vs.upd 5 (.int .i64 i)) na nn nc r gb v2 (w) := by
  exact { b := h.b
          f0 := fun h0 => by rw [Vs.upd_ne _ _ (by decide)]; exact (h.f0 (Dn.set_back (by decide) h0))
          f1 := fun h0 => by rw [Vs.upd_ne _ _ (by decide)]; exact (h.f1 (Dn.set_back (by decide) h0))
          f2 := fun h0 => by rw [Vs.upd_ne _ _ (by decide)]; exact (h.f2 (Dn.set_back (by decide) h0))
          f5 := fun h0 => Vs.upd_same _ _ _
          f3 := fun h0 => by rw [Vs.upd_ne _ _ (by decide)]; exact (h.f3 (Dn.set_back (by decide) h0))
          f4 := fun h0 => by rw [Vs.upd_ne _ _ (by decide)]; exact (h.f4 (Dn.set_back (by decide) h0))
          f6 := fun h0 => by rw [Vs.upd_ne _ _ (by decide)]; exact (h.f6 (Dn.set_back (by decide) h0))
          f8 := fun h0 => by rw [Vs.upd_ne _ _ (by decide)]; exact (h.f8 (Dn.set_back (by decide) h0))
          bw := fun h0 => (h.bw (Dn.set_back' (by decide) h0))
          ro := fun h0 => (h.ro (Dn.set_back' (by decide) h0))
          ko := fun h0 => (h.ko (Dn.set_back' (by decide) h0))
          f7 := fun h0 => by rw [Vs.upd_ne _ _ (by decide)]; exact (h.f7 (Dn.set_back (by decide) h0))
          o7 := fun h0 h1 => (h.o7 (Dn.set_back (by decide) h0) (Dn.set_back' (by decide) h1))
          f9 := fun h0 => by rw [Vs.upd_ne _ _ (by decide)]; exact (h.f9 (Dn.set_back (by decide) h0))
          o9 := fun h0 h1 => (h.o9 (Dn.set_back (by decide) h0) (Dn.set_back' (by decide) h1))
          e9 := fun h0 => (h.e9 (Dn.set_back (by decide) h0))
          f10 := fun h0 => by rw [Vs.upd_ne _ _ (by decide)]; exact (h.f10 (Dn.set_back (by decide) h0))
          o10 := fun h0 h1 => (h.o10 (Dn.set_back (by decide) h0) (Dn.set_back' (by decide) h1))
          f11 := fun h0 => by rw [Vs.upd_ne _ _ (by decide)]; exact (h.f11 (Dn.set_back (by decide) h0))
          o11 := fun h0 => (h.o11 (Dn.set_back (by decide) h0))
          f12 := fun h0 => by rw [Vs.upd_ne _ _ (by decide)]; exact (h.f12 (Dn.set_back (by decide) h0))
          c9 := fun h0 => ⟨by rw [Dn.set]; simp [(h.c9 (Dn.set_back (by decide) h0)).1], by rw [Dn.set]; simp [(h.c9 (Dn.set_back (by decide) h0)).2]⟩
          c10 := fun h0 => by rw [Dn.set]; simp [(h.c10 (Dn.set_back (by decide) h0))]
          c11 := fun h0 => ⟨by rw [Dn.set]; simp [(h.c11 (Dn.set_back (by decide) h0)).1], by rw [Dn.set]; simp [(h.c11 (Dn.set_back (by decide) h0)).2]⟩
          c12 := fun h0 => by rw [Dn.set]; simp [(h.c12 (Dn.set_back (by decide) h0))] }
theorem JS.s3 {W0 W : World} {ov HV TV : Value} {x : Tv} {i q : Nat} {at' now : Int} {C : List Value} {L : List Tv} {LN : List Nv} {Y : Tb} {d : Dn} {vs : Vs} {na : Option Addr} {nn : Nat} {nc : Nat} {r : Tv} {gb : Nat} {v2 : Value} {w : World} (h : JS W0 W ov HV TV x i q at' now C L LN Y d vs na nn nc r gb v2 w) (hd : d 3 = false)  : JS W0 W ov HV TV x i q at' now C L LN Y (d.set 3) (vs.upd 3 (HV)) na nn nc r gb v2 (w) := by
  exact { b := h.b
          f0 := fun h0 => by rw [Vs.upd_ne _ _ (by decide)]; exact (h.f0 (Dn.set_back (by decide) h0))
          f1 := fun h0 => by rw [Vs.upd_ne _ _ (by decide)]; exact (h.f1 (Dn.set_back (by decide) h0))
          f2 := fun h0 => by rw [Vs.upd_ne _ _ (by decide)]; exact (h.f2 (Dn.set_back (by decide) h0))
          f5 := fun h0 => by rw [Vs.upd_ne _ _ (by decide)]; exact (h.f5 (Dn.set_back (by decide) h0))
          f3 := fun h0 => Vs.upd_same _ _ _
          f4 := fun h0 => by rw [Vs.upd_ne _ _ (by decide)]; exact (h.f4 (Dn.set_back (by decide) h0))
          f6 := fun h0 => by rw [Vs.upd_ne _ _ (by decide)]; exact (h.f6 (Dn.set_back (by decide) h0))
          f8 := fun h0 => by rw [Vs.upd_ne _ _ (by decide)]; exact (h.f8 (Dn.set_back (by decide) h0))
          bw := fun h0 => (h.bw (Dn.set_back' (by decide) h0))
          ro := fun h0 => (h.ro (Dn.set_back' (by decide) h0))
          ko := fun h0 => (h.ko (Dn.set_back' (by decide) h0))
          f7 := fun h0 => by rw [Vs.upd_ne _ _ (by decide)]; exact (h.f7 (Dn.set_back (by decide) h0))
          o7 := fun h0 h1 => (h.o7 (Dn.set_back (by decide) h0) (Dn.set_back' (by decide) h1))
          f9 := fun h0 => by rw [Vs.upd_ne _ _ (by decide)]; exact (h.f9 (Dn.set_back (by decide) h0))
          o9 := fun h0 h1 => (h.o9 (Dn.set_back (by decide) h0) (Dn.set_back' (by decide) h1))
          e9 := fun h0 => (h.e9 (Dn.set_back (by decide) h0))
          f10 := fun h0 => by rw [Vs.upd_ne _ _ (by decide)]; exact (h.f10 (Dn.set_back (by decide) h0))
          o10 := fun h0 h1 => (h.o10 (Dn.set_back (by decide) h0) (Dn.set_back' (by decide) h1))
          f11 := fun h0 => by rw [Vs.upd_ne _ _ (by decide)]; exact (h.f11 (Dn.set_back (by decide) h0))
          o11 := fun h0 => (h.o11 (Dn.set_back (by decide) h0))
          f12 := fun h0 => by rw [Vs.upd_ne _ _ (by decide)]; exact (h.f12 (Dn.set_back (by decide) h0))
          c9 := fun h0 => ⟨by rw [Dn.set]; simp [(h.c9 (Dn.set_back (by decide) h0)).1], by rw [Dn.set]; simp [(h.c9 (Dn.set_back (by decide) h0)).2]⟩
          c10 := fun h0 => by rw [Dn.set]; simp [(h.c10 (Dn.set_back (by decide) h0))]
          c11 := fun h0 => ⟨by rw [Dn.set]; simp [(h.c11 (Dn.set_back (by decide) h0)).1], by rw [Dn.set]; simp [(h.c11 (Dn.set_back (by decide) h0)).2]⟩
          c12 := fun h0 => by rw [Dn.set]; simp [(h.c12 (Dn.set_back (by decide) h0))] }
theorem JS.s4 {W0 W : World} {ov HV TV : Value} {x : Tv} {i q : Nat} {at' now : Int} {C : List Value} {L : List Tv} {LN : List Nv} {Y : Tb} {d : Dn} {vs : Vs} {na : Option Addr} {nn : Nat} {nc : Nat} {r : Tv} {gb : Nat} {v2 : Value} {w : World} (h : JS W0 W ov HV TV x i q at' now C L LN Y d vs na nn nc r gb v2 w) (hd : d 4 = false)  : JS W0 W ov HV TV x i q at' now C L LN Y (d.set 4) (vs.upd 4 (TV)) na nn nc r gb v2 (w) := by
  exact { b := h.b
          f0 := fun h0 => by rw [Vs.upd_ne _ _ (by decide)]; exact (h.f0 (Dn.set_back (by decide) h0))
          f1 := fun h0 => by rw [Vs.upd_ne _ _ (by decide)]; exact (h.f1 (Dn.set_back (by decide) h0))
          f2 := fun h0 => by rw [Vs.upd_ne _ _ (by decide)]; exact (h.f2 (Dn.set_back (by decide) h0))
          f5 := fun h0 => by rw [Vs.upd_ne _ _ (by decide)]; exact (h.f5 (Dn.set_back (by decide) h0))
          f3 := fun h0 => by rw [Vs.upd_ne _ _ (by decide)]; exact (h.f3 (Dn.set_back (by decide) h0))
          f4 := fun h0 => Vs.upd_same _ _ _
          f6 := fun h0 => by rw [Vs.upd_ne _ _ (by decide)]; exact (h.f6 (Dn.set_back (by decide) h0))
          f8 := fun h0 => by rw [Vs.upd_ne _ _ (by decide)]; exact (h.f8 (Dn.set_back (by decide) h0))
          bw := fun h0 => (h.bw (Dn.set_back' (by decide) h0))
          ro := fun h0 => (h.ro (Dn.set_back' (by decide) h0))
          ko := fun h0 => (h.ko (Dn.set_back' (by decide) h0))
          f7 := fun h0 => by rw [Vs.upd_ne _ _ (by decide)]; exact (h.f7 (Dn.set_back (by decide) h0))
          o7 := fun h0 h1 => (h.o7 (Dn.set_back (by decide) h0) (Dn.set_back' (by decide) h1))
          f9 := fun h0 => by rw [Vs.upd_ne _ _ (by decide)]; exact (h.f9 (Dn.set_back (by decide) h0))
          o9 := fun h0 h1 => (h.o9 (Dn.set_back (by decide) h0) (Dn.set_back' (by decide) h1))
          e9 := fun h0 => (h.e9 (Dn.set_back (by decide) h0))
          f10 := fun h0 => by rw [Vs.upd_ne _ _ (by decide)]; exact (h.f10 (Dn.set_back (by decide) h0))
          o10 := fun h0 h1 => (h.o10 (Dn.set_back (by decide) h0) (Dn.set_back' (by decide) h1))
          f11 := fun h0 => by rw [Vs.upd_ne _ _ (by decide)]; exact (h.f11 (Dn.set_back (by decide) h0))
          o11 := fun h0 => (h.o11 (Dn.set_back (by decide) h0))
          f12 := fun h0 => by rw [Vs.upd_ne _ _ (by decide)]; exact (h.f12 (Dn.set_back (by decide) h0))
          c9 := fun h0 => ⟨by rw [Dn.set]; simp [(h.c9 (Dn.set_back (by decide) h0)).1], by rw [Dn.set]; simp [(h.c9 (Dn.set_back (by decide) h0)).2]⟩
          c10 := fun h0 => by rw [Dn.set]; simp [(h.c10 (Dn.set_back (by decide) h0))]
          c11 := fun h0 => ⟨by rw [Dn.set]; simp [(h.c11 (Dn.set_back (by decide) h0)).1], by rw [Dn.set]; simp [(h.c11 (Dn.set_back (by decide) h0)).2]⟩
          c12 := fun h0 => by rw [Dn.set]; simp [(h.c12 (Dn.set_back (by decide) h0))] }
theorem JS.s6 {W0 W : World} {ov HV TV : Value} {x : Tv} {i q : Nat} {at' now : Int} {C : List Value} {L : List Tv} {LN : List Nv} {Y : Tb} {d : Dn} {vs : Vs} {na : Option Addr} {nn : Nat} {nc : Nat} {r : Tv} {gb : Nat} {v2 : Value} {w : World} (h : JS W0 W ov HV TV x i q at' now C L LN Y d vs na nn nc r gb v2 w) (hd : d 6 = false)  : JS W0 W ov HV TV x i q at' now C L LN Y (d.set 6) (vs.upd 6 (.int .i64 at')) na nn nc r gb v2 (w) := by
  exact { b := h.b
          f0 := fun h0 => by rw [Vs.upd_ne _ _ (by decide)]; exact (h.f0 (Dn.set_back (by decide) h0))
          f1 := fun h0 => by rw [Vs.upd_ne _ _ (by decide)]; exact (h.f1 (Dn.set_back (by decide) h0))
          f2 := fun h0 => by rw [Vs.upd_ne _ _ (by decide)]; exact (h.f2 (Dn.set_back (by decide) h0))
          f5 := fun h0 => by rw [Vs.upd_ne _ _ (by decide)]; exact (h.f5 (Dn.set_back (by decide) h0))
          f3 := fun h0 => by rw [Vs.upd_ne _ _ (by decide)]; exact (h.f3 (Dn.set_back (by decide) h0))
          f4 := fun h0 => by rw [Vs.upd_ne _ _ (by decide)]; exact (h.f4 (Dn.set_back (by decide) h0))
          f6 := fun h0 => Vs.upd_same _ _ _
          f8 := fun h0 => by rw [Vs.upd_ne _ _ (by decide)]; exact (h.f8 (Dn.set_back (by decide) h0))
          bw := fun h0 => (h.bw (Dn.set_back' (by decide) h0))
          ro := fun h0 => (h.ro (Dn.set_back' (by decide) h0))
          ko := fun h0 => (h.ko (Dn.set_back' (by decide) h0))
          f7 := fun h0 => by rw [Vs.upd_ne _ _ (by decide)]; exact (h.f7 (Dn.set_back (by decide) h0))
          o7 := fun h0 h1 => (h.o7 (Dn.set_back (by decide) h0) (Dn.set_back' (by decide) h1))
          f9 := fun h0 => by rw [Vs.upd_ne _ _ (by decide)]; exact (h.f9 (Dn.set_back (by decide) h0))
          o9 := fun h0 h1 => (h.o9 (Dn.set_back (by decide) h0) (Dn.set_back' (by decide) h1))
          e9 := fun h0 => (h.e9 (Dn.set_back (by decide) h0))
          f10 := fun h0 => by rw [Vs.upd_ne _ _ (by decide)]; exact (h.f10 (Dn.set_back (by decide) h0))
          o10 := fun h0 h1 => (h.o10 (Dn.set_back (by decide) h0) (Dn.set_back' (by decide) h1))
          f11 := fun h0 => by rw [Vs.upd_ne _ _ (by decide)]; exact (h.f11 (Dn.set_back (by decide) h0))
          o11 := fun h0 => (h.o11 (Dn.set_back (by decide) h0))
          f12 := fun h0 => by rw [Vs.upd_ne _ _ (by decide)]; exact (h.f12 (Dn.set_back (by decide) h0))
          c9 := fun h0 => ⟨by rw [Dn.set]; simp [(h.c9 (Dn.set_back (by decide) h0)).1], by rw [Dn.set]; simp [(h.c9 (Dn.set_back (by decide) h0)).2]⟩
          c10 := fun h0 => by rw [Dn.set]; simp [(h.c10 (Dn.set_back (by decide) h0))]
          c11 := fun h0 => ⟨by rw [Dn.set]; simp [(h.c11 (Dn.set_back (by decide) h0)).1], by rw [Dn.set]; simp [(h.c11 (Dn.set_back (by decide) h0)).2]⟩
          c12 := fun h0 => by rw [Dn.set]; simp [(h.c12 (Dn.set_back (by decide) h0))] }
theorem JS.s8 {W0 W : World} {ov HV TV : Value} {x : Tv} {i q : Nat} {at' now : Int} {C : List Value} {L : List Tv} {LN : List Nv} {Y : Tb} {d : Dn} {vs : Vs} {na : Option Addr} {nn : Nat} {nc : Nat} {r : Tv} {gb : Nat} {v2 : Value} {w : World} (h : JS W0 W ov HV TV x i q at' now C L LN Y d vs na nn nc r gb v2 w) (hd : d 8 = false)  : JS W0 W ov HV TV x i q at' now C L LN Y (d.set 8) (vs.upd 8 (.int .i64 now)) na nn nc r gb v2 (w) := by
  exact { b := h.b
          f0 := fun h0 => by rw [Vs.upd_ne _ _ (by decide)]; exact (h.f0 (Dn.set_back (by decide) h0))
          f1 := fun h0 => by rw [Vs.upd_ne _ _ (by decide)]; exact (h.f1 (Dn.set_back (by decide) h0))
          f2 := fun h0 => by rw [Vs.upd_ne _ _ (by decide)]; exact (h.f2 (Dn.set_back (by decide) h0))
          f5 := fun h0 => by rw [Vs.upd_ne _ _ (by decide)]; exact (h.f5 (Dn.set_back (by decide) h0))
          f3 := fun h0 => by rw [Vs.upd_ne _ _ (by decide)]; exact (h.f3 (Dn.set_back (by decide) h0))
          f4 := fun h0 => by rw [Vs.upd_ne _ _ (by decide)]; exact (h.f4 (Dn.set_back (by decide) h0))
          f6 := fun h0 => by rw [Vs.upd_ne _ _ (by decide)]; exact (h.f6 (Dn.set_back (by decide) h0))
          f8 := fun h0 => Vs.upd_same _ _ _
          bw := fun h0 => (h.bw (Dn.set_back' (by decide) h0))
          ro := fun h0 => (h.ro (Dn.set_back' (by decide) h0))
          ko := fun h0 => (h.ko (Dn.set_back' (by decide) h0))
          f7 := fun h0 => by rw [Vs.upd_ne _ _ (by decide)]; exact (h.f7 (Dn.set_back (by decide) h0))
          o7 := fun h0 h1 => (h.o7 (Dn.set_back (by decide) h0) (Dn.set_back' (by decide) h1))
          f9 := fun h0 => by rw [Vs.upd_ne _ _ (by decide)]; exact (h.f9 (Dn.set_back (by decide) h0))
          o9 := fun h0 h1 => (h.o9 (Dn.set_back (by decide) h0) (Dn.set_back' (by decide) h1))
          e9 := fun h0 => (h.e9 (Dn.set_back (by decide) h0))
          f10 := fun h0 => by rw [Vs.upd_ne _ _ (by decide)]; exact (h.f10 (Dn.set_back (by decide) h0))
          o10 := fun h0 h1 => (h.o10 (Dn.set_back (by decide) h0) (Dn.set_back' (by decide) h1))
          f11 := fun h0 => by rw [Vs.upd_ne _ _ (by decide)]; exact (h.f11 (Dn.set_back (by decide) h0))
          o11 := fun h0 => (h.o11 (Dn.set_back (by decide) h0))
          f12 := fun h0 => by rw [Vs.upd_ne _ _ (by decide)]; exact (h.f12 (Dn.set_back (by decide) h0))
          c9 := fun h0 => ⟨by rw [Dn.set]; simp [(h.c9 (Dn.set_back (by decide) h0)).1], by rw [Dn.set]; simp [(h.c9 (Dn.set_back (by decide) h0)).2]⟩
          c10 := fun h0 => by rw [Dn.set]; simp [(h.c10 (Dn.set_back (by decide) h0))]
          c11 := fun h0 => ⟨by rw [Dn.set]; simp [(h.c11 (Dn.set_back (by decide) h0)).1], by rw [Dn.set]; simp [(h.c11 (Dn.set_back (by decide) h0)).2]⟩
          c12 := fun h0 => by rw [Dn.set]; simp [(h.c12 (Dn.set_back (by decide) h0))] }
theorem JS.s12 {W0 W : World} {ov HV TV : Value} {x : Tv} {i q : Nat} {at' now : Int} {C : List Value} {L : List Tv} {LN : List Nv} {Y : Tb} {d : Dn} {vs : Vs} {na : Option Addr} {nn : Nat} {nc : Nat} {r : Tv} {gb : Nat} {v2 : Value} {w : World} (h : JS W0 W ov HV TV x i q at' now C L LN Y d vs na nn nc r gb v2 w) (hd : d 12 = false) (h3 : d 11 = true) : JS W0 W ov HV TV x i q at' now C L LN Y (d.set 12) (vs.upd 12 (v2)) na nn nc r gb v2 (w) := by
  exact { b := h.b
          f0 := fun h0 => by rw [Vs.upd_ne _ _ (by decide)]; exact (h.f0 (Dn.set_back (by decide) h0))
          f1 := fun h0 => by rw [Vs.upd_ne _ _ (by decide)]; exact (h.f1 (Dn.set_back (by decide) h0))
          f2 := fun h0 => by rw [Vs.upd_ne _ _ (by decide)]; exact (h.f2 (Dn.set_back (by decide) h0))
          f5 := fun h0 => by rw [Vs.upd_ne _ _ (by decide)]; exact (h.f5 (Dn.set_back (by decide) h0))
          f3 := fun h0 => by rw [Vs.upd_ne _ _ (by decide)]; exact (h.f3 (Dn.set_back (by decide) h0))
          f4 := fun h0 => by rw [Vs.upd_ne _ _ (by decide)]; exact (h.f4 (Dn.set_back (by decide) h0))
          f6 := fun h0 => by rw [Vs.upd_ne _ _ (by decide)]; exact (h.f6 (Dn.set_back (by decide) h0))
          f8 := fun h0 => by rw [Vs.upd_ne _ _ (by decide)]; exact (h.f8 (Dn.set_back (by decide) h0))
          bw := fun h0 => (h.bw (Dn.set_back' (by decide) h0))
          ro := fun h0 => (h.ro (Dn.set_back' (by decide) h0))
          ko := fun h0 => (h.ko (Dn.set_back' (by decide) h0))
          f7 := fun h0 => by rw [Vs.upd_ne _ _ (by decide)]; exact (h.f7 (Dn.set_back (by decide) h0))
          o7 := fun h0 h1 => (h.o7 (Dn.set_back (by decide) h0) (Dn.set_back' (by decide) h1))
          f9 := fun h0 => by rw [Vs.upd_ne _ _ (by decide)]; exact (h.f9 (Dn.set_back (by decide) h0))
          o9 := fun h0 h1 => (h.o9 (Dn.set_back (by decide) h0) (Dn.set_back' (by decide) h1))
          e9 := fun h0 => (h.e9 (Dn.set_back (by decide) h0))
          f10 := fun h0 => by rw [Vs.upd_ne _ _ (by decide)]; exact (h.f10 (Dn.set_back (by decide) h0))
          o10 := fun h0 h1 => (h.o10 (Dn.set_back (by decide) h0) (Dn.set_back' (by decide) h1))
          f11 := fun h0 => by rw [Vs.upd_ne _ _ (by decide)]; exact (h.f11 (Dn.set_back (by decide) h0))
          o11 := fun h0 => (h.o11 (Dn.set_back (by decide) h0))
          f12 := fun h0 => Vs.upd_same _ _ _
          c9 := fun h0 => ⟨by rw [Dn.set]; simp [(h.c9 (Dn.set_back (by decide) h0)).1], by rw [Dn.set]; simp [(h.c9 (Dn.set_back (by decide) h0)).2]⟩
          c10 := fun h0 => by rw [Dn.set]; simp [(h.c10 (Dn.set_back (by decide) h0))]
          c11 := fun h0 => ⟨by rw [Dn.set]; simp [(h.c11 (Dn.set_back (by decide) h0)).1], by rw [Dn.set]; simp [(h.c11 (Dn.set_back (by decide) h0)).2]⟩
          c12 := fun h0 => by rw [Dn.set]; simp [h3] }
theorem JS.s7 {W0 W : World} {ov HV TV : Value} {x : Tv} {i q : Nat} {at' now : Int} {C : List Value} {L : List Tv} {LN : List Nv} {Y : Tb} {d : Dn} {vs : Vs} {na : Option Addr} {nn : Nat} {nc : Nat} {r : Tv} {gb : Nat} {v2 : Value} {w : World} (h : JS W0 W ov HV TV x i q at' now C L LN Y d vs na nn nc r gb v2 w) (hd : d 7 = false) {na2 : Option Addr} {nn2 nc2 : Nat} (hn : NsAt w na2 LN ∧ nn2 = LN.length ∧ nn2 ≤ maxLen) : JS W0 W ov HV TV x i q at' now C L LN Y (d.set 7) (vs.upd 7 (.slice na2 nn2 nc2)) (na2) (nn2) (nc2) r gb v2 (w) := by
  exact { b := h.b
          f0 := fun h0 => by rw [Vs.upd_ne _ _ (by decide)]; exact (h.f0 (Dn.set_back (by decide) h0))
          f1 := fun h0 => by rw [Vs.upd_ne _ _ (by decide)]; exact (h.f1 (Dn.set_back (by decide) h0))
          f2 := fun h0 => by rw [Vs.upd_ne _ _ (by decide)]; exact (h.f2 (Dn.set_back (by decide) h0))
          f5 := fun h0 => by rw [Vs.upd_ne _ _ (by decide)]; exact (h.f5 (Dn.set_back (by decide) h0))
          f3 := fun h0 => by rw [Vs.upd_ne _ _ (by decide)]; exact (h.f3 (Dn.set_back (by decide) h0))
          f4 := fun h0 => by rw [Vs.upd_ne _ _ (by decide)]; exact (h.f4 (Dn.set_back (by decide) h0))
          f6 := fun h0 => by rw [Vs.upd_ne _ _ (by decide)]; exact (h.f6 (Dn.set_back (by decide) h0))
          f8 := fun h0 => by rw [Vs.upd_ne _ _ (by decide)]; exact (h.f8 (Dn.set_back (by decide) h0))
          bw := fun h0 => (h.bw (Dn.set_back' (by decide) h0))
          ro := fun h0 => (h.ro (Dn.set_back' (by decide) h0))
          ko := fun h0 => (h.ko (Dn.set_back' (by decide) h0))
          f7 := fun h0 => Vs.upd_same _ _ _
          o7 := fun h0 h1 => hn
          f9 := fun h0 => by rw [Vs.upd_ne _ _ (by decide)]; exact (h.f9 (Dn.set_back (by decide) h0))
          o9 := fun h0 h1 => (h.o9 (Dn.set_back (by decide) h0) (Dn.set_back' (by decide) h1))
          e9 := fun h0 => (h.e9 (Dn.set_back (by decide) h0))
          f10 := fun h0 => by rw [Vs.upd_ne _ _ (by decide)]; exact (h.f10 (Dn.set_back (by decide) h0))
          o10 := fun h0 h1 => (h.o10 (Dn.set_back (by decide) h0) (Dn.set_back' (by decide) h1))
          f11 := fun h0 => by rw [Vs.upd_ne _ _ (by decide)]; exact (h.f11 (Dn.set_back (by decide) h0))
          o11 := fun h0 => (h.o11 (Dn.set_back (by decide) h0))
          f12 := fun h0 => by rw [Vs.upd_ne _ _ (by decide)]; exact (h.f12 (Dn.set_back (by decide) h0))
          c9 := fun h0 => ⟨by rw [Dn.set]; simp [(h.c9 (Dn.set_back (by decide) h0)).1], by rw [Dn.set]; simp [(h.c9 (Dn.set_back (by decide) h0)).2]⟩
          c10 := fun h0 => by rw [Dn.set]; simp [(h.c10 (Dn.set_back (by decide) h0))]
          c11 := fun h0 => ⟨by rw [Dn.set]; simp [(h.c11 (Dn.set_back (by decide) h0)).1], by rw [Dn.set]; simp [(h.c11 (Dn.set_back (by decide) h0)).2]⟩
          c12 := fun h0 => by rw [Dn.set]; simp [(h.c12 (Dn.set_back (by decide) h0))] }
theorem JS.s9 {W0 W : World} {ov HV TV : Value} {x : Tv} {i q : Nat} {at' now : Int} {C : List Value} {L : List Tv} {LN : List Nv} {Y : Tb} {d : Dn} {vs : Vs} {na : Option Addr} {nn : Nat} {nc : Nat} {r : Tv} {gb : Nat} {v2 : Value} {w : World} (h : JS W0 W ov HV TV x i q at' now C L LN Y d vs na nn nc r gb v2 w) (hd : d 9 = false) (h3 : d 1 = true) (h4 : d 7 = true) {r2 : Tv} (hr : r2.ok w) (he : r2.T = Y ∧ From W.heap.size r2.ua r2.T.U ∧ From W.heap.size r2.ga r2.T.G ∧ r2.aa = x.aa ∧ r2.T.A = x.T.A) : JS W0 W ov HV TV x i q at' now C L LN Y (d.set 9) (vs.upd 9 (r2.v)) na nn nc (r2) gb v2 (w) := by
  exact { b := h.b
          f0 := fun h0 => by rw [Vs.upd_ne _ _ (by decide)]; exact (h.f0 (Dn.set_back (by decide) h0))
          f1 := fun h0 => by rw [Vs.upd_ne _ _ (by decide)]; exact (h.f1 (Dn.set_back (by decide) h0))
          f2 := fun h0 => by rw [Vs.upd_ne _ _ (by decide)]; exact (h.f2 (Dn.set_back (by decide) h0))
          f5 := fun h0 => by rw [Vs.upd_ne _ _ (by decide)]; exact (h.f5 (Dn.set_back (by decide) h0))
          f3 := fun h0 => by rw [Vs.upd_ne _ _ (by decide)]; exact (h.f3 (Dn.set_back (by decide) h0))
          f4 := fun h0 => by rw [Vs.upd_ne _ _ (by decide)]; exact (h.f4 (Dn.set_back (by decide) h0))
          f6 := fun h0 => by rw [Vs.upd_ne _ _ (by decide)]; exact (h.f6 (Dn.set_back (by decide) h0))
          f8 := fun h0 => by rw [Vs.upd_ne _ _ (by decide)]; exact (h.f8 (Dn.set_back (by decide) h0))
          bw := fun h0 => (h.bw (Dn.set_back' (by decide) h0))
          ro := fun h0 => (h.ro (Dn.set_back' (by decide) h0))
          ko := fun h0 => (h.ko (Dn.set_back' (by decide) h0))
          f7 := fun h0 => by rw [Vs.upd_ne _ _ (by decide)]; exact (h.f7 (Dn.set_back (by decide) h0))
          o7 := fun h0 h1 => (h.o7 (Dn.set_back (by decide) h0) (Dn.set_back' (by decide) h1))
          f9 := fun h0 => Vs.upd_same _ _ _
          o9 := fun h0 h1 => hr
          e9 := fun h0 => he
          f10 := fun h0 => by rw [Vs.upd_ne _ _ (by decide)]; exact (h.f10 (Dn.set_back (by decide) h0))
          o10 := fun h0 h1 => absurd (h.c10 (Dn.set_back (by decide) h0)) (by rw [hd]; simp)
          f11 := fun h0 => by rw [Vs.upd_ne _ _ (by decide)]; exact (h.f11 (Dn.set_back (by decide) h0))
          o11 := fun h0 => absurd (h.c10 (h.c11 (Dn.set_back (by decide) h0)).1) (by rw [hd]; simp)
          f12 := fun h0 => by rw [Vs.upd_ne _ _ (by decide)]; exact (h.f12 (Dn.set_back (by decide) h0))
          c9 := fun h0 => ⟨by rw [Dn.set]; simp [h3], by rw [Dn.set]; simp [h4]⟩
          c10 := fun h0 => by rw [Dn.set]; simp [(h.c10 (Dn.set_back (by decide) h0))]
          c11 := fun h0 => ⟨by rw [Dn.set]; simp [(h.c11 (Dn.set_back (by decide) h0)).1], by rw [Dn.set]; simp [(h.c11 (Dn.set_back (by decide) h0)).2]⟩
          c12 := fun h0 => by rw [Dn.set]; simp [(h.c12 (Dn.set_back (by decide) h0))] }
theorem JS.s10 {W0 W : World} {ov HV TV : Value} {x : Tv} {i q : Nat} {at' now : Int} {C : List Value} {L : List Tv} {LN : List Nv} {Y : Tb} {d : Dn} {vs : Vs} {na : Option Addr} {nn : Nat} {nc : Nat} {r : Tv} {gb : Nat} {v2 : Value} {w : World} (h : JS W0 W ov HV TV x i q at' now C L LN Y d vs na nn nc r gb v2 w) (hd : d 10 = false) (h3 : d 9 = true) : JS W0 W ov HV TV x i q at' now C L LN Y (d.set 10) (vs.upd 10 (.slice (some ⟨w.heap.size, 0, none⟩) 1 1)) na nn nc r (w.heap.size) v2 (w.alloc (.cells r.cs.toArray 26)) := by
  have hb : Below w.heap.size w (w.alloc (.cells r.cs.toArray 26)) := ball (Below.refl _ _) _
  exact { b := bstep h.b hb
          f0 := fun h0 => by rw [Vs.upd_ne _ _ (by decide)]; exact (h.f0 (Dn.set_back (by decide) h0))
          f1 := fun h0 => by rw [Vs.upd_ne _ _ (by decide)]; exact (h.f1 (Dn.set_back (by decide) h0))
          f2 := fun h0 => by rw [Vs.upd_ne _ _ (by decide)]; exact (h.f2 (Dn.set_back (by decide) h0))
          f5 := fun h0 => by rw [Vs.upd_ne _ _ (by decide)]; exact (h.f5 (Dn.set_back (by decide) h0))
          f3 := fun h0 => by rw [Vs.upd_ne _ _ (by decide)]; exact (h.f3 (Dn.set_back (by decide) h0))
          f4 := fun h0 => by rw [Vs.upd_ne _ _ (by decide)]; exact (h.f4 (Dn.set_back (by decide) h0))
          f6 := fun h0 => by rw [Vs.upd_ne _ _ (by decide)]; exact (h.f6 (Dn.set_back (by decide) h0))
          f8 := fun h0 => by rw [Vs.upd_ne _ _ (by decide)]; exact (h.f8 (Dn.set_back (by decide) h0))
          bw := fun h0 => bstep (h.bw (Dn.set_back' (by decide) h0)) hb
          ro := fun h0 => ownsRow_below (h.ro (Dn.set_back' (by decide) h0)) hb
          ko := fun h0 => (h.ko (Dn.set_back' (by decide) h0)).keep hb
          f7 := fun h0 => by rw [Vs.upd_ne _ _ (by decide)]; exact (h.f7 (Dn.set_back (by decide) h0))
          o7 := fun h0 h1 => ⟨(h.o7 (Dn.set_back (by decide) h0) (Dn.set_back' (by decide) h1)).1.keep hb, (h.o7 (Dn.set_back (by decide) h0) (Dn.set_back' (by decide) h1)).2⟩
          f9 := fun h0 => by rw [Vs.upd_ne _ _ (by decide)]; exact (h.f9 (Dn.set_back (by decide) h0))
          o9 := fun h0 h1 => (h.o9 (Dn.set_back (by decide) h0) (Dn.set_back' (by decide) h1)).keep hb
          e9 := fun h0 => (h.e9 (Dn.set_back (by decide) h0))
          f10 := fun h0 => Vs.upd_same _ _ _
          o10 := fun h0 h1 => CellsAt.new w r.cs 26
          f11 := fun h0 => by rw [Vs.upd_ne _ _ (by decide)]; exact (h.f11 (Dn.set_back (by decide) h0))
          o11 := fun h0 => absurd (h.c11 (Dn.set_back (by decide) h0)).1 (by rw [hd]; simp)
          f12 := fun h0 => by rw [Vs.upd_ne _ _ (by decide)]; exact (h.f12 (Dn.set_back (by decide) h0))
          c9 := fun h0 => ⟨by rw [Dn.set]; simp [(h.c9 (Dn.set_back (by decide) h0)).1], by rw [Dn.set]; simp [(h.c9 (Dn.set_back (by decide) h0)).2]⟩
          c10 := fun h0 => by rw [Dn.set]; simp [h3]
          c11 := fun h0 => ⟨by rw [Dn.set]; simp [(h.c11 (Dn.set_back (by decide) h0)).1], by rw [Dn.set]; simp [(h.c11 (Dn.set_back (by decide) h0)).2]⟩
          c12 := fun h0 => by rw [Dn.set]; simp [(h.c12 (Dn.set_back (by decide) h0))] }
theorem JS.s11 {W0 W : World} {ov HV TV : Value} {x : Tv} {i q : Nat} {at' now : Int} {C : List Value} {L : List Tv} {LN : List Nv} {Y : Tb} {d : Dn} {vs : Vs} {na : Option Addr} {nn : Nat} {nc : Nat} {r : Tv} {gb : Nat} {v2 : Value} {w : World} (h : JS W0 W ov HV TV x i q at' now C L LN Y d vs na nn nc r gb v2 w) (hd : d 11 = false) (h3 : d 10 = true) (h4 : d 0 = true) {v' : Value} {w' : World} (hW : W.ownsRow W0.heap.size 26 3 ov q C) (hx : x.ok W0) (hb : Below W0.heap.size W0 w') (hg : w.grownBy w' ov.ownBlock) (hv : v'.ownBlock = ov.ownBlock ∨ v'.ownBlock = some w.heap.size) (ho : w'.ownsRow W0.heap.size 26 3 v' (q + 1) (C ++ r.cs)) : JS W0 W ov HV TV x i q at' now C L LN Y (d.set 11) (vs.upd 11 (v')) na nn nc r gb (v') (w') := by
  exact { b := hb
          f0 := fun h0 => by rw [Vs.upd_ne _ _ (by decide)]; exact (h.f0 (Dn.set_back (by decide) h0))
          f1 := fun h0 => by rw [Vs.upd_ne _ _ (by decide)]; exact (h.f1 (Dn.set_back (by decide) h0))
          f2 := fun h0 => by rw [Vs.upd_ne _ _ (by decide)]; exact (h.f2 (Dn.set_back (by decide) h0))
          f5 := fun h0 => by rw [Vs.upd_ne _ _ (by decide)]; exact (h.f5 (Dn.set_back (by decide) h0))
          f3 := fun h0 => by rw [Vs.upd_ne _ _ (by decide)]; exact (h.f3 (Dn.set_back (by decide) h0))
          f4 := fun h0 => by rw [Vs.upd_ne _ _ (by decide)]; exact (h.f4 (Dn.set_back (by decide) h0))
          f6 := fun h0 => by rw [Vs.upd_ne _ _ (by decide)]; exact (h.f6 (Dn.set_back (by decide) h0))
          f8 := fun h0 => by rw [Vs.upd_ne _ _ (by decide)]; exact (h.f8 (Dn.set_back (by decide) h0))
          bw := fun h0 => absurd (Dn.set_same d 11) (by rw [h0]; simp)
          ro := fun h0 => absurd (Dn.set_same d 11) (by rw [h0]; simp)
          ko := fun h0 => absurd (Dn.set_same d 11) (by rw [h0]; simp)
          f7 := fun h0 => by rw [Vs.upd_ne _ _ (by decide)]; exact (h.f7 (Dn.set_back (by decide) h0))
          o7 := fun h0 h1 => absurd (Dn.set_same d 11) (by rw [h1]; simp)
          f9 := fun h0 => by rw [Vs.upd_ne _ _ (by decide)]; exact (h.f9 (Dn.set_back (by decide) h0))
          o9 := fun h0 h1 => absurd (Dn.set_same d 11) (by rw [h1]; simp)
          e9 := fun h0 => (h.e9 (Dn.set_back (by decide) h0))
          f10 := fun h0 => by rw [Vs.upd_ne _ _ (by decide)]; exact (h.f10 (Dn.set_back (by decide) h0))
          o10 := fun h0 h1 => absurd (Dn.set_same d 11) (by rw [h1]; simp)
          f11 := fun h0 => Vs.upd_same _ _ _
          o11 := fun h0 => ⟨((h.ko hd).snoc ⟨h.o9 (h.c10 h3) hd, away_new hW (h.e9 (h.c10 h3)).2.1 (h.o9 (h.c10 h3) hd).u (by simp), away_new hW (h.e9 (h.c10 h3)).2.2.1 (h.o9 (h.c10 h3) hd).g (by simp), by rw [(h.e9 (h.c10 h3)).2.2.2.1, (h.e9 (h.c10 h3)).2.2.2.2]; exact away_old hW (Nat.le_refl _) h.b.size hx.a (by simp)⟩).app hg hv, ho⟩
          f12 := fun h0 => absurd (h.c12 (Dn.set_back (by decide) h0)) (by rw [hd]; simp)
          c9 := fun h0 => ⟨by rw [Dn.set]; simp [(h.c9 (Dn.set_back (by decide) h0)).1], by rw [Dn.set]; simp [(h.c9 (Dn.set_back (by decide) h0)).2]⟩
          c10 := fun h0 => by rw [Dn.set]; simp [(h.c10 (Dn.set_back (by decide) h0))]
          c11 := fun h0 => ⟨by rw [Dn.set]; simp [h3], by rw [Dn.set]; simp [h4]⟩
          c12 := fun h0 => by rw [Dn.set]; simp [(h.c12 (Dn.set_back (by decide) h0))] }
end Go.Proofs.Ytleenbfldkmcaaa
