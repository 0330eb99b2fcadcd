/- Proved: what holds while the beacons are put together anew in another order, whichever operation comes first: for the law that giving up again changes nothing. Conditions: those that each theorem names. -/
import Derived.Test.YtleenbfldkmcaaaK24a
import Derived.Test.YtleenbfldkmcaaaSteps
namespace Go.Proofs.Ytleenbfldkmcaaa
open Go.RowKit Go.Sort Go.BigFrame
set_option linter.unusedVariables false
set_option linter.unusedSimpArgs false
abbrev Row31 (W6 w : World) (v : Value) (n : Nat) (cs : List Value) : Prop := w.ownsRow W6.heap.size 61 31 v n cs
theorem row_ne {W6 w : World} {v : Value} {n : Nat} {cs : List Value} (h : Row31 W6 w v n cs) : ∀ k, v.ownBlock = some k → k ≠ w.heap.size := fun k hk e => by
  have := (h.lt k hk).2
  omega

structure J8 (W6 : World) (A A3 A7 A11 : Value) (k : Int) (x : Nv) (n4 n5 : Nat) (C4 C5 : List Value) (d : Dn) (vs : Vs) (v0 : Value) (v4 : Value) (v5 : Value) (v6 : Value) (g : Nat) (w : World) : Prop where
  b : Below W6.heap.size W6 w
  f1 : d 1 = true → vs 1 = A
  f5 : d 5 = true → vs 5 = A
  f9 : d 9 = true → vs 9 = A
  f2 : d 2 = true → vs 2 = .int .i64 k
  f6 : d 6 = true → vs 6 = .int .i64 k
  f10 : d 10 = true → vs 10 = .int .i64 k
  f3 : d 3 = true → vs 3 = A3
  f7 : d 7 = true → vs 7 = A7
  f11 : d 11 = true → vs 11 = A11
  f12 : d 12 = true → vs 12 = x.v
  f0 : d 0 = true → vs 0 = v0
  o0 : d 0 = true → d 4 = false → Row31 W6 w v0 0 []
  f4 : d 4 = true → vs 4 = v4
  o4 : d 4 = true → d 8 = false → Row31 W6 w v4 n4 C4
  f8 : d 8 = true → vs 8 = v5
  o8 : d 8 = true → d 14 = false → Row31 W6 w v5 n5 C5
  f13 : d 13 = true → vs 13 = .slice (some ⟨g, 0, none⟩) 1 1
  o13 : d 13 = true → CellsAt w g 0 x.cs ∧ g < w.heap.size
  e0 : d 0 = true → d 13 = true → d 4 = false → (∀ k, v0.ownBlock = some k → k ≠ g)
  e4 : d 4 = true → d 13 = true → d 8 = false → (∀ k, v4.ownBlock = some k → k ≠ g)
  e8 : d 8 = true → d 13 = true → d 14 = false → (∀ k, v5.ownBlock = some k → k ≠ g)
  f14 : d 14 = true → vs 14 = v6
  o14 : d 14 = true → Row31 W6 w v6 (n5 + 1) (C5 ++ x.cs)
  f15 : d 15 = true → vs 15 = v6
  c4 : d 4 = true → d 0 = true
  c8 : d 8 = true → d 4 = true
  c14 : d 14 = true → d 8 = true ∧ d 13 = true
  c15 : d 15 = true → d 14 = true
theorem J8.start {W6 : World} {A A3 A7 A11 : Value} {k : Int} {x : Nv} {n4 n5 : Nat} {C4 C5 : List Value} {v0 : Value} {v4 : Value} {v5 : Value} {v6 : Value} {g : Nat} {vs : Vs} : J8 W6 A A3 A7 A11 k x n4 n5 C4 C5 (fun _ => false) vs v0 v4 v5 v6 g W6.drew where
  b := Below.drew (Below.refl _ _)
  f1 := fun h => absurd h Bool.false_ne_true
  f5 := fun h => absurd h Bool.false_ne_true
  f9 := fun h => absurd h Bool.false_ne_true
  f2 := fun h => absurd h Bool.false_ne_true
  f6 := fun h => absurd h Bool.false_ne_true
  f10 := fun h => absurd h Bool.false_ne_true
  f3 := fun h => absurd h Bool.false_ne_true
  f7 := fun h => absurd h Bool.false_ne_true
  f11 := fun h => absurd h Bool.false_ne_true
  f12 := fun h => absurd h Bool.false_ne_true
  f0 := fun h => absurd h Bool.false_ne_true
  o0 := fun h => absurd h Bool.false_ne_true
  f4 := fun h => absurd h Bool.false_ne_true
  o4 := fun h => absurd h Bool.false_ne_true
  f8 := fun h => absurd h Bool.false_ne_true
  o8 := fun h => absurd h Bool.false_ne_true
  f13 := fun h => absurd h Bool.false_ne_true
  o13 := fun h => absurd h Bool.false_ne_true
  e0 := fun h => absurd h Bool.false_ne_true
  e4 := fun h => absurd h Bool.false_ne_true
  e8 := fun h => absurd h Bool.false_ne_true
  f14 := fun h => absurd h Bool.false_ne_true
  o14 := fun h => absurd h Bool.false_ne_true
  f15 := fun h => absurd h Bool.false_ne_true
  c4 := fun h => absurd h Bool.false_ne_true
  c8 := fun h => absurd h Bool.false_ne_true
  c14 := fun h => absurd h Bool.false_ne_true
  c15 := fun h => absurd h Bool.false_ne_true
theorem J8.s1 {W6 : World} {A A3 A7 A11 : Value} {k : Int} {x : Nv} {n4 n5 : Nat} {C4 C5 : List Value} {d : Dn} {vs : Vs} {v0 : Value} {v4 : Value} {v5 : Value} {v6 : Value} {g : Nat} {w : World} (h : J8 W6 A A3 A7 A11 k x n4 n5 C4 C5 d vs v0 v4 v5 v6 g w) (hd : d 1 = false)  : J8 W6 A A3 A7 A11 k x n4 n5 C4 C5 (d.set 1) (vs.upd 1 (A)) v0 v4 v5 v6 g (w) := by
  exact { b := h.b
          f1 := fun h0 => Vs.upd_same _ _ _
          f5 := fun h0 => by rw [Vs.upd_ne _ _ (by decide)]; exact (h.f5 (Dn.set_back (by decide) h0))
          f9 := fun h0 => by rw [Vs.upd_ne _ _ (by decide)]; exact (h.f9 (Dn.set_back (by decide) h0))
          f2 := fun h0 => by rw [Vs.upd_ne _ _ (by decide)]; exact (h.f2 (Dn.set_back (by decide) h0))
          f6 := fun h0 => by rw [Vs.upd_ne _ _ (by decide)]; exact (h.f6 (Dn.set_back (by decide) h0))
          f10 := fun h0 => by rw [Vs.upd_ne _ _ (by decide)]; exact (h.f10 (Dn.set_back (by decide) h0))
          f3 := fun h0 => by rw [Vs.upd_ne _ _ (by decide)]; exact (h.f3 (Dn.set_back (by decide) h0))
          f7 := fun h0 => by rw [Vs.upd_ne _ _ (by decide)]; exact (h.f7 (Dn.set_back (by decide) h0))
          f11 := fun h0 => by rw [Vs.upd_ne _ _ (by decide)]; exact (h.f11 (Dn.set_back (by decide) h0))
          f12 := fun h0 => by rw [Vs.upd_ne _ _ (by decide)]; exact (h.f12 (Dn.set_back (by decide) h0))
          f0 := fun h0 => by rw [Vs.upd_ne _ _ (by decide)]; exact (h.f0 (Dn.set_back (by decide) h0))
          o0 := fun h0 h1 => (h.o0 (Dn.set_back (by decide) h0) (Dn.set_back' (by decide) h1))
          f4 := fun h0 => by rw [Vs.upd_ne _ _ (by decide)]; exact (h.f4 (Dn.set_back (by decide) h0))
          o4 := fun h0 h1 => (h.o4 (Dn.set_back (by decide) h0) (Dn.set_back' (by decide) h1))
          f8 := fun h0 => by rw [Vs.upd_ne _ _ (by decide)]; exact (h.f8 (Dn.set_back (by decide) h0))
          o8 := fun h0 h1 => (h.o8 (Dn.set_back (by decide) h0) (Dn.set_back' (by decide) h1))
          f13 := fun h0 => by rw [Vs.upd_ne _ _ (by decide)]; exact (h.f13 (Dn.set_back (by decide) h0))
          o13 := fun h0 => (h.o13 (Dn.set_back (by decide) h0))
          e0 := fun h0 h1 h2 => (h.e0 (Dn.set_back (by decide) h0) (Dn.set_back (by decide) h1) (Dn.set_back' (by decide) h2))
          e4 := fun h0 h1 h2 => (h.e4 (Dn.set_back (by decide) h0) (Dn.set_back (by decide) h1) (Dn.set_back' (by decide) h2))
          e8 := fun h0 h1 h2 => (h.e8 (Dn.set_back (by decide) h0) (Dn.set_back (by decide) h1) (Dn.set_back' (by decide) h2))
          f14 := fun h0 => by rw [Vs.upd_ne _ _ (by decide)]; exact (h.f14 (Dn.set_back (by decide) h0))
          o14 := fun h0 => (h.o14 (Dn.set_back (by decide) h0))
          f15 := fun h0 => by rw [Vs.upd_ne _ _ (by decide)]; exact (h.f15 (Dn.set_back (by decide) h0))
          c4 := fun h0 => by rw [Dn.set]; simp [(h.c4 (Dn.set_back (by decide) h0))]
          c8 := fun h0 => by rw [Dn.set]; simp [(h.c8 (Dn.set_back (by decide) h0))]
          c14 := fun h0 => ⟨by rw [Dn.set]; simp [(h.c14 (Dn.set_back (by decide) h0)).1], by rw [Dn.set]; simp [(h.c14 (Dn.set_back (by decide) h0)).2]⟩
          c15 := fun h0 => by rw [Dn.set]; simp [(h.c15 (Dn.set_back (by decide) h0))] }
theorem J8.s5 {W6 : World} {A A3 A7 A11 : Value} {k : Int} {x : Nv} {n4 n5 : Nat} {C4 C5 : List Value} {d : Dn} {vs : Vs} {v0 : Value} {v4 : Value} {v5 : Value} {v6 : Value} {g : Nat} {w : World} (h : J8 W6 A A3 A7 A11 k x n4 n5 C4 C5 d vs v0 v4 v5 v6 g w) (hd : d 5 = false)  : J8 W6 A A3 A7 A11 k x n4 n5 C4 C5 (d.set 5) (vs.upd 5 (A)) v0 v4 v5 v6 g (w) := by
  exact { b := h.b
          f1 := fun h0 => by rw [Vs.upd_ne _ _ (by decide)]; exact (h.f1 (Dn.set_back (by decide) h0))
          f5 := fun h0 => Vs.upd_same _ _ _
          f9 := fun h0 => by rw [Vs.upd_ne _ _ (by decide)]; exact (h.f9 (Dn.set_back (by decide) h0))
          f2 := fun h0 => by rw [Vs.upd_ne _ _ (by decide)]; exact (h.f2 (Dn.set_back (by decide) h0))
          f6 := fun h0 => by rw [Vs.upd_ne _ _ (by decide)]; exact (h.f6 (Dn.set_back (by decide) h0))
          f10 := fun h0 => by rw [Vs.upd_ne _ _ (by decide)]; exact (h.f10 (Dn.set_back (by decide) h0))
          f3 := fun h0 => by rw [Vs.upd_ne _ _ (by decide)]; exact (h.f3 (Dn.set_back (by decide) h0))
          f7 := fun h0 => by rw [Vs.upd_ne _ _ (by decide)]; exact (h.f7 (Dn.set_back (by decide) h0))
          f11 := fun h0 => by rw [Vs.upd_ne _ _ (by decide)]; exact (h.f11 (Dn.set_back (by decide) h0))
          f12 := fun h0 => by rw [Vs.upd_ne _ _ (by decide)]; exact (h.f12 (Dn.set_back (by decide) h0))
          f0 := fun h0 => by rw [Vs.upd_ne _ _ (by decide)]; exact (h.f0 (Dn.set_back (by decide) h0))
          o0 := fun h0 h1 => (h.o0 (Dn.set_back (by decide) h0) (Dn.set_back' (by decide) h1))
          f4 := fun h0 => by rw [Vs.upd_ne _ _ (by decide)]; exact (h.f4 (Dn.set_back (by decide) h0))
          o4 := fun h0 h1 => (h.o4 (Dn.set_back (by decide) h0) (Dn.set_back' (by decide) h1))
          f8 := fun h0 => by rw [Vs.upd_ne _ _ (by decide)]; exact (h.f8 (Dn.set_back (by decide) h0))
          o8 := fun h0 h1 => (h.o8 (Dn.set_back (by decide) h0) (Dn.set_back' (by decide) h1))
          f13 := fun h0 => by rw [Vs.upd_ne _ _ (by decide)]; exact (h.f13 (Dn.set_back (by decide) h0))
          o13 := fun h0 => (h.o13 (Dn.set_back (by decide) h0))
          e0 := fun h0 h1 h2 => (h.e0 (Dn.set_back (by decide) h0) (Dn.set_back (by decide) h1) (Dn.set_back' (by decide) h2))
          e4 := fun h0 h1 h2 => (h.e4 (Dn.set_back (by decide) h0) (Dn.set_back (by decide) h1) (Dn.set_back' (by decide) h2))
          e8 := fun h0 h1 h2 => (h.e8 (Dn.set_back (by decide) h0) (Dn.set_back (by decide) h1) (Dn.set_back' (by decide) h2))
          f14 := fun h0 => by rw [Vs.upd_ne _ _ (by decide)]; exact (h.f14 (Dn.set_back (by decide) h0))
          o14 := fun h0 => (h.o14 (Dn.set_back (by decide) h0))
          f15 := fun h0 => by rw [Vs.upd_ne _ _ (by decide)]; exact (h.f15 (Dn.set_back (by decide) h0))
          c4 := fun h0 => by rw [Dn.set]; simp [(h.c4 (Dn.set_back (by decide) h0))]
          c8 := fun h0 => by rw [Dn.set]; simp [(h.c8 (Dn.set_back (by decide) h0))]
          c14 := fun h0 => ⟨by rw [Dn.set]; simp [(h.c14 (Dn.set_back (by decide) h0)).1], by rw [Dn.set]; simp [(h.c14 (Dn.set_back (by decide) h0)).2]⟩
          c15 := fun h0 => by rw [Dn.set]; simp [(h.c15 (Dn.set_back (by decide) h0))] }
theorem J8.s9 {W6 : World} {A A3 A7 A11 : Value} {k : Int} {x : Nv} {n4 n5 : Nat} {C4 C5 : List Value} {d : Dn} {vs : Vs} {v0 : Value} {v4 : Value} {v5 : Value} {v6 : Value} {g : Nat} {w : World} (h : J8 W6 A A3 A7 A11 k x n4 n5 C4 C5 d vs v0 v4 v5 v6 g w) (hd : d 9 = false)  : J8 W6 A A3 A7 A11 k x n4 n5 C4 C5 (d.set 9) (vs.upd 9 (A)) v0 v4 v5 v6 g (w) := by
  exact { b := h.b
          f1 := fun h0 => by rw [Vs.upd_ne _ _ (by decide)]; exact (h.f1 (Dn.set_back (by decide) h0))
          f5 := fun h0 => by rw [Vs.upd_ne _ _ (by decide)]; exact (h.f5 (Dn.set_back (by decide) h0))
          f9 := fun h0 => Vs.upd_same _ _ _
          f2 := fun h0 => by rw [Vs.upd_ne _ _ (by decide)]; exact (h.f2 (Dn.set_back (by decide) h0))
          f6 := fun h0 => by rw [Vs.upd_ne _ _ (by decide)]; exact (h.f6 (Dn.set_back (by decide) h0))
          f10 := fun h0 => by rw [Vs.upd_ne _ _ (by decide)]; exact (h.f10 (Dn.set_back (by decide) h0))
          f3 := fun h0 => by rw [Vs.upd_ne _ _ (by decide)]; exact (h.f3 (Dn.set_back (by decide) h0))
          f7 := fun h0 => by rw [Vs.upd_ne _ _ (by decide)]; exact (h.f7 (Dn.set_back (by decide) h0))
          f11 := fun h0 => by rw [Vs.upd_ne _ _ (by decide)]; exact (h.f11 (Dn.set_back (by decide) h0))
          f12 := fun h0 => by rw [Vs.upd_ne _ _ (by decide)]; exact (h.f12 (Dn.set_back (by decide) h0))
          f0 := fun h0 => by rw [Vs.upd_ne _ _ (by decide)]; exact (h.f0 (Dn.set_back (by decide) h0))
          o0 := fun h0 h1 => (h.o0 (Dn.set_back (by decide) h0) (Dn.set_back' (by decide) h1))
          f4 := fun h0 => by rw [Vs.upd_ne _ _ (by decide)]; exact (h.f4 (Dn.set_back (by decide) h0))
          o4 := fun h0 h1 => (h.o4 (Dn.set_back (by decide) h0) (Dn.set_back' (by decide) h1))
          f8 := fun h0 => by rw [Vs.upd_ne _ _ (by decide)]; exact (h.f8 (Dn.set_back (by decide) h0))
          o8 := fun h0 h1 => (h.o8 (Dn.set_back (by decide) h0) (Dn.set_back' (by decide) h1))
          f13 := fun h0 => by rw [Vs.upd_ne _ _ (by decide)]; exact (h.f13 (Dn.set_back (by decide) h0))
          o13 := fun h0 => (h.o13 (Dn.set_back (by decide) h0))
          e0 := fun h0 h1 h2 => (h.e0 (Dn.set_back (by decide) h0) (Dn.set_back (by decide) h1) (Dn.set_back' (by decide) h2))
          e4 := fun h0 h1 h2 => (h.e4 (Dn.set_back (by decide) h0) (Dn.set_back (by decide) h1) (Dn.set_back' (by decide) h2))
          e8 := fun h0 h1 h2 => (h.e8 (Dn.set_back (by decide) h0) (Dn.set_back (by decide) h1) (Dn.set_back' (by decide) h2))
          f14 := fun h0 => by rw [Vs.upd_ne _ _ (by decide)]; exact (h.f14 (Dn.set_back (by decide) h0))
          o14 := fun h0 => (h.o14 (Dn.set_back (by decide) h0))
          f15 := fun h0 => by rw [Vs.upd_ne _ _ (by decide)]; exact (h.f15 (Dn.set_back (by decide) h0))
          c4 := fun h0 => by rw [Dn.set]; simp [(h.c4 (Dn.set_back (by decide) h0))]
          c8 := fun h0 => by rw [Dn.set]; simp [(h.c8 (Dn.set_back (by decide) h0))]
          c14 := fun h0 => ⟨by rw [Dn.set]; simp [(h.c14 (Dn.set_back (by decide) h0)).1], by rw [Dn.set]; simp [(h.c14 (Dn.set_back (by decide) h0)).2]⟩
          c15 := fun h0 => by rw [Dn.set]; simp [(h.c15 (Dn.set_back (by decide) h0))] }
theorem J8.s2 {W6 : World} {A A3 A7 A11 : Value} {k : Int} {x : Nv} {n4 n5 : Nat} {C4 C5 : List Value} {d : Dn} {vs : Vs} {v0 : Value} {v4 : Value} {v5 : Value} {v6 : Value} {g : Nat} {w : World} (h : J8 W6 A A3 A7 A11 k x n4 n5 C4 C5 d vs v0 v4 v5 v6 g w) (hd : d 2 = false)  : J8 W6 A A3 A7 A11 k x n4 n5 C4 C5 (d.set 2) (vs.upd 2 (.int .i64 k)) v0 v4 v5 v6 g (w) := by
  exact { b := h.b
          f1 := fun h0 => by rw [Vs.upd_ne _ _ (by decide)]; exact (h.f1 (Dn.set_back (by decide) h0))
          f5 := fun h0 => by rw [Vs.upd_ne _ _ (by decide)]; exact (h.f5 (Dn.set_back (by decide) h0))
          f9 := fun h0 => by rw [Vs.upd_ne _ _ (by decide)]; exact (h.f9 (Dn.set_back (by decide) h0))
          f2 := fun h0 => Vs.upd_same _ _ _
          f6 := fun h0 => by rw [Vs.upd_ne _ _ (by decide)]; exact (h.f6 (Dn.set_back (by decide) h0))
          f10 := fun h0 => by rw [Vs.upd_ne _ _ (by decide)]; exact (h.f10 (Dn.set_back (by decide) h0))
          f3 := fun h0 => by rw [Vs.upd_ne _ _ (by decide)]; exact (h.f3 (Dn.set_back (by decide) h0))
          f7 := fun h0 => by rw [Vs.upd_ne _ _ (by decide)]; exact (h.f7 (Dn.set_back (by decide) h0))
          f11 := fun h0 => by rw [Vs.upd_ne _ _ (by decide)]; exact (h.f11 (Dn.set_back (by decide) h0))
          f12 := fun h0 => by rw [Vs.upd_ne _ _ (by decide)]; exact (h.f12 (Dn.set_back (by decide) h0))
          f0 := fun h0 => by rw [Vs.upd_ne _ _ (by decide)]; exact (h.f0 (Dn.set_back (by decide) h0))
          o0 := fun h0 h1 => (h.o0 (Dn.set_back (by decide) h0) (Dn.set_back' (by decide) h1))
          f4 := fun h0 => by rw [Vs.upd_ne _ _ (by decide)]; exact (h.f4 (Dn.set_back (by decide) h0))
          o4 := fun h0 h1 => (h.o4 (Dn.set_back (by decide) h0) (Dn.set_back' (by decide) h1))
          f8 := fun h0 => by rw [Vs.upd_ne _ _ (by decide)]; exact (h.f8 (Dn.set_back (by decide) h0))
          o8 := fun h0 h1 => (h.o8 (Dn.set_back (by decide) h0) (Dn.set_back' (by decide) h1))
          f13 := fun h0 => by rw [Vs.upd_ne _ _ (by decide)]; exact (h.f13 (Dn.set_back (by decide) h0))
          o13 := fun h0 => (h.o13 (Dn.set_back (by decide) h0))
          e0 := fun h0 h1 h2 => (h.e0 (Dn.set_back (by decide) h0) (Dn.set_back (by decide) h1) (Dn.set_back' (by decide) h2))
          e4 := fun h0 h1 h2 => (h.e4 (Dn.set_back (by decide) h0) (Dn.set_back (by decide) h1) (Dn.set_back' (by decide) h2))
          e8 := fun h0 h1 h2 => (h.e8 (Dn.set_back (by decide) h0) (Dn.set_back (by decide) h1) (Dn.set_back' (by decide) h2))
          f14 := fun h0 => by rw [Vs.upd_ne _ _ (by decide)]; exact (h.f14 (Dn.set_back (by decide) h0))
          o14 := fun h0 => (h.o14 (Dn.set_back (by decide) h0))
          f15 := fun h0 => by rw [Vs.upd_ne _ _ (by decide)]; exact (h.f15 (Dn.set_back (by decide) h0))
          c4 := fun h0 => by rw [Dn.set]; simp [(h.c4 (Dn.set_back (by decide) h0))]
          c8 := fun h0 => by rw [Dn.set]; simp [(h.c8 (Dn.set_back (by decide) h0))]
          c14 := fun h0 => ⟨by rw [Dn.set]; simp [(h.c14 (Dn.set_back (by decide) h0)).1], by rw [Dn.set]; simp [(h.c14 (Dn.set_back (by decide) h0)).2]⟩
          c15 := fun h0 => by rw [Dn.set]; simp [(h.c15 (Dn.set_back (by decide) h0))] }
theorem J8.s6 {W6 : World} {A A3 A7 A11 : Value} {k : Int} {x : Nv} {n4 n5 : Nat} {C4 C5 : List Value} {d : Dn} {vs : Vs} {v0 : Value} {v4 : Value} {v5 : Value} {v6 : Value} {g : Nat} {w : World} (h : J8 W6 A A3 A7 A11 k x n4 n5 C4 C5 d vs v0 v4 v5 v6 g w) (hd : d 6 = false)  : J8 W6 A A3 A7 A11 k x n4 n5 C4 C5 (d.set 6) (vs.upd 6 (.int .i64 k)) v0 v4 v5 v6 g (w) := by
  exact { b := h.b
          f1 := fun h0 => by rw [Vs.upd_ne _ _ (by decide)]; exact (h.f1 (Dn.set_back (by decide) h0))
          f5 := fun h0 => by rw [Vs.upd_ne _ _ (by decide)]; exact (h.f5 (Dn.set_back (by decide) h0))
          f9 := fun h0 => by rw [Vs.upd_ne _ _ (by decide)]; exact (h.f9 (Dn.set_back (by decide) h0))
          f2 := fun h0 => by rw [Vs.upd_ne _ _ (by decide)]; exact (h.f2 (Dn.set_back (by decide) h0))
          f6 := fun h0 => Vs.upd_same _ _ _
          f10 := fun h0 => by rw [Vs.upd_ne _ _ (by decide)]; exact (h.f10 (Dn.set_back (by decide) h0))
          f3 := fun h0 => by rw [Vs.upd_ne _ _ (by decide)]; exact (h.f3 (Dn.set_back (by decide) h0))
          f7 := fun h0 => by rw [Vs.upd_ne _ _ (by decide)]; exact (h.f7 (Dn.set_back (by decide) h0))
          f11 := fun h0 => by rw [Vs.upd_ne _ _ (by decide)]; exact (h.f11 (Dn.set_back (by decide) h0))
          f12 := fun h0 => by rw [Vs.upd_ne _ _ (by decide)]; exact (h.f12 (Dn.set_back (by decide) h0))
          f0 := fun h0 => by rw [Vs.upd_ne _ _ (by decide)]; exact (h.f0 (Dn.set_back (by decide) h0))
          o0 := fun h0 h1 => (h.o0 (Dn.set_back (by decide) h0) (Dn.set_back' (by decide) h1))
          f4 := fun h0 => by rw [Vs.upd_ne _ _ (by decide)]; exact (h.f4 (Dn.set_back (by decide) h0))
          o4 := fun h0 h1 => (h.o4 (Dn.set_back (by decide) h0) (Dn.set_back' (by decide) h1))
          f8 := fun h0 => by rw [Vs.upd_ne _ _ (by decide)]; exact (h.f8 (Dn.set_back (by decide) h0))
          o8 := fun h0 h1 => (h.o8 (Dn.set_back (by decide) h0) (Dn.set_back' (by decide) h1))
          f13 := fun h0 => by rw [Vs.upd_ne _ _ (by decide)]; exact (h.f13 (Dn.set_back (by decide) h0))
          o13 := fun h0 => (h.o13 (Dn.set_back (by decide) h0))
          e0 := fun h0 h1 h2 => (h.e0 (Dn.set_back (by decide) h0) (Dn.set_back (by decide) h1) (Dn.set_back' (by decide) h2))
          e4 := fun h0 h1 h2 => (h.e4 (Dn.set_back (by decide) h0) (Dn.set_back (by decide) h1) (Dn.set_back' (by decide) h2))
          e8 := fun h0 h1 h2 => (h.e8 (Dn.set_back (by decide) h0) (Dn.set_back (by decide) h1) (Dn.set_back' (by decide) h2))
          f14 := fun h0 => by rw [Vs.upd_ne _ _ (by decide)]; exact (h.f14 (Dn.set_back (by decide) h0))
          o14 := fun h0 => (h.o14 (Dn.set_back (by decide) h0))
          f15 := fun h0 => by rw [Vs.upd_ne _ _ (by decide)]; exact (h.f15 (Dn.set_back (by decide) h0))
          c4 := fun h0 => by rw [Dn.set]; simp [(h.c4 (Dn.set_back (by decide) h0))]
          c8 := fun h0 => by rw [Dn.set]; simp [(h.c8 (Dn.set_back (by decide) h0))]
          c14 := fun h0 => ⟨by rw [Dn.set]; simp [(h.c14 (Dn.set_back (by decide) h0)).1], by rw [Dn.set]; simp [(h.c14 (Dn.set_back (by decide) h0)).2]⟩
          c15 := fun h0 => by rw [Dn.set]; simp [(h.c15 (Dn.set_back (by decide) h0))] }
theorem J8.s10 {W6 : World} {A A3 A7 A11 : Value} {k : Int} {x : Nv} {n4 n5 : Nat} {C4 C5 : List Value} {d : Dn} {vs : Vs} {v0 : Value} {v4 : Value} {v5 : Value} {v6 : Value} {g : Nat} {w : World} (h : J8 W6 A A3 A7 A11 k x n4 n5 C4 C5 d vs v0 v4 v5 v6 g w) (hd : d 10 = false)  : J8 W6 A A3 A7 A11 k x n4 n5 C4 C5 (d.set 10) (vs.upd 10 (.int .i64 k)) v0 v4 v5 v6 g (w) := by
  exact { b := h.b
          f1 := fun h0 => by rw [Vs.upd_ne _ _ (by decide)]; exact (h.f1 (Dn.set_back (by decide) h0))
          f5 := fun h0 => by rw [Vs.upd_ne _ _ (by decide)]; exact (h.f5 (Dn.set_back (by decide) h0))
          f9 := fun h0 => by rw [Vs.upd_ne _ _ (by decide)]; exact (h.f9 (Dn.set_back (by decide) h0))
          f2 := fun h0 => by rw [Vs.upd_ne _ _ (by decide)]; exact (h.f2 (Dn.set_back (by decide) h0))
          f6 := fun h0 => by rw [Vs.upd_ne _ _ (by decide)]; exact (h.f6 (Dn.set_back (by decide) h0))
          f10 := fun h0 => Vs.upd_same _ _ _
          f3 := fun h0 => by rw [Vs.upd_ne _ _ (by decide)]; exact (h.f3 (Dn.set_back (by decide) h0))
          f7 := fun h0 => by rw [Vs.upd_ne _ _ (by decide)]; exact (h.f7 (Dn.set_back (by decide) h0))
          f11 := fun h0 => by rw [Vs.upd_ne _ _ (by decide)]; exact (h.f11 (Dn.set_back (by decide) h0))
          f12 := fun h0 => by rw [Vs.upd_ne _ _ (by decide)]; exact (h.f12 (Dn.set_back (by decide) h0))
          f0 := fun h0 => by rw [Vs.upd_ne _ _ (by decide)]; exact (h.f0 (Dn.set_back (by decide) h0))
          o0 := fun h0 h1 => (h.o0 (Dn.set_back (by decide) h0) (Dn.set_back' (by decide) h1))
          f4 := fun h0 => by rw [Vs.upd_ne _ _ (by decide)]; exact (h.f4 (Dn.set_back (by decide) h0))
          o4 := fun h0 h1 => (h.o4 (Dn.set_back (by decide) h0) (Dn.set_back' (by decide) h1))
          f8 := fun h0 => by rw [Vs.upd_ne _ _ (by decide)]; exact (h.f8 (Dn.set_back (by decide) h0))
          o8 := fun h0 h1 => (h.o8 (Dn.set_back (by decide) h0) (Dn.set_back' (by decide) h1))
          f13 := fun h0 => by rw [Vs.upd_ne _ _ (by decide)]; exact (h.f13 (Dn.set_back (by decide) h0))
          o13 := fun h0 => (h.o13 (Dn.set_back (by decide) h0))
          e0 := fun h0 h1 h2 => (h.e0 (Dn.set_back (by decide) h0) (Dn.set_back (by decide) h1) (Dn.set_back' (by decide) h2))
          e4 := fun h0 h1 h2 => (h.e4 (Dn.set_back (by decide) h0) (Dn.set_back (by decide) h1) (Dn.set_back' (by decide) h2))
          e8 := fun h0 h1 h2 => (h.e8 (Dn.set_back (by decide) h0) (Dn.set_back (by decide) h1) (Dn.set_back' (by decide) h2))
          f14 := fun h0 => by rw [Vs.upd_ne _ _ (by decide)]; exact (h.f14 (Dn.set_back (by decide) h0))
          o14 := fun h0 => (h.o14 (Dn.set_back (by decide) h0))
          f15 := fun h0 => by rw [Vs.upd_ne _ _ (by decide)]; exact (h.f15 (Dn.set_back (by decide) h0))
          c4 := fun h0 => by rw [Dn.set]; simp [(h.c4 (Dn.set_back (by decide) h0))]
          c8 := fun h0 => by rw [Dn.set]; simp [(h.c8 (Dn.set_back (by decide) h0))]
          c14 := fun h0 => ⟨by rw [Dn.set]; simp [(h.c14 (Dn.set_back (by decide) h0)).1], by rw [Dn.set]; simp [(h.c14 (Dn.set_back (by decide) h0)).2]⟩
          c15 := fun h0 => by rw [Dn.set]; simp [(h.c15 (Dn.set_back (by decide) h0))] }
theorem J8.s3 {W6 : World} {A A3 A7 A11 : Value} {k : Int} {x : Nv} {n4 n5 : Nat} {C4 C5 : List Value} {d : Dn} {vs : Vs} {v0 : Value} {v4 : Value} {v5 : Value} {v6 : Value} {g : Nat} {w : World} (h : J8 W6 A A3 A7 A11 k x n4 n5 C4 C5 d vs v0 v4 v5 v6 g w) (hd : d 3 = false)  : J8 W6 A A3 A7 A11 k x n4 n5 C4 C5 (d.set 3) (vs.upd 3 (A3)) v0 v4 v5 v6 g (w) := by
  exact { b := h.b
          f1 := fun h0 => by rw [Vs.upd_ne _ _ (by decide)]; exact (h.f1 (Dn.set_back (by decide) h0))
          f5 := fun h0 => by rw [Vs.upd_ne _ _ (by decide)]; exact (h.f5 (Dn.set_back (by decide) h0))
          f9 := fun h0 => by rw [Vs.upd_ne _ _ (by decide)]; exact (h.f9 (Dn.set_back (by decide) h0))
          f2 := fun h0 => by rw [Vs.upd_ne _ _ (by decide)]; exact (h.f2 (Dn.set_back (by decide) h0))
          f6 := fun h0 => by rw [Vs.upd_ne _ _ (by decide)]; exact (h.f6 (Dn.set_back (by decide) h0))
          f10 := fun h0 => by rw [Vs.upd_ne _ _ (by decide)]; exact (h.f10 (Dn.set_back (by decide) h0))
          f3 := fun h0 => Vs.upd_same _ _ _
          f7 := fun h0 => by rw [Vs.upd_ne _ _ (by decide)]; exact (h.f7 (Dn.set_back (by decide) h0))
          f11 := fun h0 => by rw [Vs.upd_ne _ _ (by decide)]; exact (h.f11 (Dn.set_back (by decide) h0))
          f12 := fun h0 => by rw [Vs.upd_ne _ _ (by decide)]; exact (h.f12 (Dn.set_back (by decide) h0))
          f0 := fun h0 => by rw [Vs.upd_ne _ _ (by decide)]; exact (h.f0 (Dn.set_back (by decide) h0))
          o0 := fun h0 h1 => (h.o0 (Dn.set_back (by decide) h0) (Dn.set_back' (by decide) h1))
          f4 := fun h0 => by rw [Vs.upd_ne _ _ (by decide)]; exact (h.f4 (Dn.set_back (by decide) h0))
          o4 := fun h0 h1 => (h.o4 (Dn.set_back (by decide) h0) (Dn.set_back' (by decide) h1))
          f8 := fun h0 => by rw [Vs.upd_ne _ _ (by decide)]; exact (h.f8 (Dn.set_back (by decide) h0))
          o8 := fun h0 h1 => (h.o8 (Dn.set_back (by decide) h0) (Dn.set_back' (by decide) h1))
          f13 := fun h0 => by rw [Vs.upd_ne _ _ (by decide)]; exact (h.f13 (Dn.set_back (by decide) h0))
          o13 := fun h0 => (h.o13 (Dn.set_back (by decide) h0))
          e0 := fun h0 h1 h2 => (h.e0 (Dn.set_back (by decide) h0) (Dn.set_back (by decide) h1) (Dn.set_back' (by decide) h2))
          e4 := fun h0 h1 h2 => (h.e4 (Dn.set_back (by decide) h0) (Dn.set_back (by decide) h1) (Dn.set_back' (by decide) h2))
          e8 := fun h0 h1 h2 => (h.e8 (Dn.set_back (by decide) h0) (Dn.set_back (by decide) h1) (Dn.set_back' (by decide) h2))
          f14 := fun h0 => by rw [Vs.upd_ne _ _ (by decide)]; exact (h.f14 (Dn.set_back (by decide) h0))
          o14 := fun h0 => (h.o14 (Dn.set_back (by decide) h0))
          f15 := fun h0 => by rw [Vs.upd_ne _ _ (by decide)]; exact (h.f15 (Dn.set_back (by decide) h0))
          c4 := fun h0 => by rw [Dn.set]; simp [(h.c4 (Dn.set_back (by decide) h0))]
          c8 := fun h0 => by rw [Dn.set]; simp [(h.c8 (Dn.set_back (by decide) h0))]
          c14 := fun h0 => ⟨by rw [Dn.set]; simp [(h.c14 (Dn.set_back (by decide) h0)).1], by rw [Dn.set]; simp [(h.c14 (Dn.set_back (by decide) h0)).2]⟩
          c15 := fun h0 => by rw [Dn.set]; simp [(h.c15 (Dn.set_back (by decide) h0))] }
theorem J8.s7 {W6 : World} {A A3 A7 A11 : Value} {k : Int} {x : Nv} {n4 n5 : Nat} {C4 C5 : List Value} {d : Dn} {vs : Vs} {v0 : Value} {v4 : Value} {v5 : Value} {v6 : Value} {g : Nat} {w : World} (h : J8 W6 A A3 A7 A11 k x n4 n5 C4 C5 d vs v0 v4 v5 v6 g w) (hd : d 7 = false)  : J8 W6 A A3 A7 A11 k x n4 n5 C4 C5 (d.set 7) (vs.upd 7 (A7)) v0 v4 v5 v6 g (w) := by
  exact { b := h.b
          f1 := fun h0 => by rw [Vs.upd_ne _ _ (by decide)]; exact (h.f1 (Dn.set_back (by decide) h0))
          f5 := fun h0 => by rw [Vs.upd_ne _ _ (by decide)]; exact (h.f5 (Dn.set_back (by decide) h0))
          f9 := fun h0 => by rw [Vs.upd_ne _ _ (by decide)]; exact (h.f9 (Dn.set_back (by decide) h0))
          f2 := fun h0 => by rw [Vs.upd_ne _ _ (by decide)]; exact (h.f2 (Dn.set_back (by decide) h0))
          f6 := fun h0 => by rw [Vs.upd_ne _ _ (by decide)]; exact (h.f6 (Dn.set_back (by decide) h0))
          f10 := fun h0 => by rw [Vs.upd_ne _ _ (by decide)]; exact (h.f10 (Dn.set_back (by decide) h0))
          f3 := fun h0 => by rw [Vs.upd_ne _ _ (by decide)]; exact (h.f3 (Dn.set_back (by decide) h0))
          f7 := fun h0 => Vs.upd_same _ _ _
          f11 := fun h0 => by rw [Vs.upd_ne _ _ (by decide)]; exact (h.f11 (Dn.set_back (by decide) h0))
          f12 := fun h0 => by rw [Vs.upd_ne _ _ (by decide)]; exact (h.f12 (Dn.set_back (by decide) h0))
          f0 := fun h0 => by rw [Vs.upd_ne _ _ (by decide)]; exact (h.f0 (Dn.set_back (by decide) h0))
          o0 := fun h0 h1 => (h.o0 (Dn.set_back (by decide) h0) (Dn.set_back' (by decide) h1))
          f4 := fun h0 => by rw [Vs.upd_ne _ _ (by decide)]; exact (h.f4 (Dn.set_back (by decide) h0))
          o4 := fun h0 h1 => (h.o4 (Dn.set_back (by decide) h0) (Dn.set_back' (by decide) h1))
          f8 := fun h0 => by rw [Vs.upd_ne _ _ (by decide)]; exact (h.f8 (Dn.set_back (by decide) h0))
          o8 := fun h0 h1 => (h.o8 (Dn.set_back (by decide) h0) (Dn.set_back' (by decide) h1))
          f13 := fun h0 => by rw [Vs.upd_ne _ _ (by decide)]; exact (h.f13 (Dn.set_back (by decide) h0))
          o13 := fun h0 => (h.o13 (Dn.set_back (by decide) h0))
          e0 := fun h0 h1 h2 => (h.e0 (Dn.set_back (by decide) h0) (Dn.set_back (by decide) h1) (Dn.set_back' (by decide) h2))
          e4 := fun h0 h1 h2 => (h.e4 (Dn.set_back (by decide) h0) (Dn.set_back (by decide) h1) (Dn.set_back' (by decide) h2))
          e8 := fun h0 h1 h2 => (h.e8 (Dn.set_back (by decide) h0) (Dn.set_back (by decide) h1) (Dn.set_back' (by decide) h2))
          f14 := fun h0 => by rw [Vs.upd_ne _ _ (by decide)]; exact (h.f14 (Dn.set_back (by decide) h0))
          o14 := fun h0 => (h.o14 (Dn.set_back (by decide) h0))
          f15 := fun h0 => by rw [Vs.upd_ne _ _ (by decide)]; exact (h.f15 (Dn.set_back (by decide) h0))
          c4 := fun h0 => by rw [Dn.set]; simp [(h.c4 (Dn.set_back (by decide) h0))]
          c8 := fun h0 => by rw [Dn.set]; simp [(h.c8 (Dn.set_back (by decide) h0))]
          c14 := fun h0 => ⟨by rw [Dn.set]; simp [(h.c14 (Dn.set_back (by decide) h0)).1], by rw [Dn.set]; simp [(h.c14 (Dn.set_back (by decide) h0)).2]⟩
          c15 := fun h0 => by rw [Dn.set]; simp [(h.c15 (Dn.set_back (by decide) h0))] }
theorem J8.s11 {W6 : World} {A A3 A7 A11 : Value} {k : Int} {x : Nv} {n4 n5 : Nat} {C4 C5 : List Value} {d : Dn} {vs : Vs} {v0 : Value} {v4 : Value} {v5 : Value} {v6 : Value} {g : Nat} {w : World} (h : J8 W6 A A3 A7 A11 k x n4 n5 C4 C5 d vs v0 v4 v5 v6 g w) (hd : d 11 = false)  : J8 W6 A A3 A7 A11 k x n4 n5 C4 C5 (d.set 11) (vs.upd 11 (A11)) v0 v4 v5 v6 g (w) := by
  exact { b := h.b
          f1 := fun h0 => by rw [Vs.upd_ne _ _ (by decide)]; exact (h.f1 (Dn.set_back (by decide) h0))
          f5 := fun h0 => by rw [Vs.upd_ne _ _ (by decide)]; exact (h.f5 (Dn.set_back (by decide) h0))
          f9 := fun h0 => by rw [Vs.upd_ne _ _ (by decide)]; exact (h.f9 (Dn.set_back (by decide) h0))
          f2 := fun h0 => by rw [Vs.upd_ne _ _ (by decide)]; exact (h.f2 (Dn.set_back (by decide) h0))
          f6 := fun h0 => by rw [Vs.upd_ne _ _ (by decide)]; exact (h.f6 (Dn.set_back (by decide) h0))
          f10 := fun h0 => by rw [Vs.upd_ne _ _ (by decide)]; exact (h.f10 (Dn.set_back (by decide) h0))
          f3 := fun h0 => by rw [Vs.upd_ne _ _ (by decide)]; exact (h.f3 (Dn.set_back (by decide) h0))
          f7 := fun h0 => by rw [Vs.upd_ne _ _ (by decide)]; exact (h.f7 (Dn.set_back (by decide) h0))
          f11 := fun h0 => Vs.upd_same _ _ _
          f12 := fun h0 => by rw [Vs.upd_ne _ _ (by decide)]; exact (h.f12 (Dn.set_back (by decide) h0))
          f0 := fun h0 => by rw [Vs.upd_ne _ _ (by decide)]; exact (h.f0 (Dn.set_back (by decide) h0))
          o0 := fun h0 h1 => (h.o0 (Dn.set_back (by decide) h0) (Dn.set_back' (by decide) h1))
          f4 := fun h0 => by rw [Vs.upd_ne _ _ (by decide)]; exact (h.f4 (Dn.set_back (by decide) h0))
          o4 := fun h0 h1 => (h.o4 (Dn.set_back (by decide) h0) (Dn.set_back' (by decide) h1))
          f8 := fun h0 => by rw [Vs.upd_ne _ _ (by decide)]; exact (h.f8 (Dn.set_back (by decide) h0))
          o8 := fun h0 h1 => (h.o8 (Dn.set_back (by decide) h0) (Dn.set_back' (by decide) h1))
          f13 := fun h0 => by rw [Vs.upd_ne _ _ (by decide)]; exact (h.f13 (Dn.set_back (by decide) h0))
          o13 := fun h0 => (h.o13 (Dn.set_back (by decide) h0))
          e0 := fun h0 h1 h2 => (h.e0 (Dn.set_back (by decide) h0) (Dn.set_back (by decide) h1) (Dn.set_back' (by decide) h2))
          e4 := fun h0 h1 h2 => (h.e4 (Dn.set_back (by decide) h0) (Dn.set_back (by decide) h1) (Dn.set_back' (by decide) h2))
          e8 := fun h0 h1 h2 => (h.e8 (Dn.set_back (by decide) h0) (Dn.set_back (by decide) h1) (Dn.set_back' (by decide) h2))
          f14 := fun h0 => by rw [Vs.upd_ne _ _ (by decide)]; exact (h.f14 (Dn.set_back (by decide) h0))
          o14 := fun h0 => (h.o14 (Dn.set_back (by decide) h0))
          f15 := fun h0 => by rw [Vs.upd_ne _ _ (by decide)]; exact (h.f15 (Dn.set_back (by decide) h0))
          c4 := fun h0 => by rw [Dn.set]; simp [(h.c4 (Dn.set_back (by decide) h0))]
          c8 := fun h0 => by rw [Dn.set]; simp [(h.c8 (Dn.set_back (by decide) h0))]
          c14 := fun h0 => ⟨by rw [Dn.set]; simp [(h.c14 (Dn.set_back (by decide) h0)).1], by rw [Dn.set]; simp [(h.c14 (Dn.set_back (by decide) h0)).2]⟩
          c15 := fun h0 => by rw [Dn.set]; simp [(h.c15 (Dn.set_back (by decide) h0))] }
theorem J8.s12 {W6 : World} {A A3 A7 A11 : Value} {k : Int} {x : Nv} {n4 n5 : Nat} {C4 C5 : List Value} {d : Dn} {vs : Vs} {v0 : Value} {v4 : Value} {v5 : Value} {v6 : Value} {g : Nat} {w : World} (h : J8 W6 A A3 A7 A11 k x n4 n5 C4 C5 d vs v0 v4 v5 v6 g w) (hd : d 12 = false)  : J8 W6 A A3 A7 A11 k x n4 n5 C4 C5 (d.set 12) (vs.upd 12 (x.v)) v0 v4 v5 v6 g (w) := by
  exact { b := h.b
          f1 := fun h0 => by rw [Vs.upd_ne _ _ (by decide)]; exact (h.f1 (Dn.set_back (by decide) h0))
          f5 := fun h0 => by rw [Vs.upd_ne _ _ (by decide)]; exact (h.f5 (Dn.set_back (by decide) h0))
          f9 := fun h0 => by rw [Vs.upd_ne _ _ (by decide)]; exact (h.f9 (Dn.set_back (by decide) h0))
          f2 := fun h0 => by rw [Vs.upd_ne _ _ (by decide)]; exact (h.f2 (Dn.set_back (by decide) h0))
          f6 := fun h0 => by rw [Vs.upd_ne _ _ (by decide)]; exact (h.f6 (Dn.set_back (by decide) h0))
          f10 := fun h0 => by rw [Vs.upd_ne _ _ (by decide)]; exact (h.f10 (Dn.set_back (by decide) h0))
          f3 := fun h0 => by rw [Vs.upd_ne _ _ (by decide)]; exact (h.f3 (Dn.set_back (by decide) h0))
          f7 := fun h0 => by rw [Vs.upd_ne _ _ (by decide)]; exact (h.f7 (Dn.set_back (by decide) h0))
          f11 := fun h0 => by rw [Vs.upd_ne _ _ (by decide)]; exact (h.f11 (Dn.set_back (by decide) h0))
          f12 := fun h0 => Vs.upd_same _ _ _
          f0 := fun h0 => by rw [Vs.upd_ne _ _ (by decide)]; exact (h.f0 (Dn.set_back (by decide) h0))
          o0 := fun h0 h1 => (h.o0 (Dn.set_back (by decide) h0) (Dn.set_back' (by decide) h1))
          f4 := fun h0 => by rw [Vs.upd_ne _ _ (by decide)]; exact (h.f4 (Dn.set_back (by decide) h0))
          o4 := fun h0 h1 => (h.o4 (Dn.set_back (by decide) h0) (Dn.set_back' (by decide) h1))
          f8 := fun h0 => by rw [Vs.upd_ne _ _ (by decide)]; exact (h.f8 (Dn.set_back (by decide) h0))
          o8 := fun h0 h1 => (h.o8 (Dn.set_back (by decide) h0) (Dn.set_back' (by decide) h1))
          f13 := fun h0 => by rw [Vs.upd_ne _ _ (by decide)]; exact (h.f13 (Dn.set_back (by decide) h0))
          o13 := fun h0 => (h.o13 (Dn.set_back (by decide) h0))
          e0 := fun h0 h1 h2 => (h.e0 (Dn.set_back (by decide) h0) (Dn.set_back (by decide) h1) (Dn.set_back' (by decide) h2))
          e4 := fun h0 h1 h2 => (h.e4 (Dn.set_back (by decide) h0) (Dn.set_back (by decide) h1) (Dn.set_back' (by decide) h2))
          e8 := fun h0 h1 h2 => (h.e8 (Dn.set_back (by decide) h0) (Dn.set_back (by decide) h1) (Dn.set_back' (by decide) h2))
          f14 := fun h0 => by rw [Vs.upd_ne _ _ (by decide)]; exact (h.f14 (Dn.set_back (by decide) h0))
          o14 := fun h0 => (h.o14 (Dn.set_back (by decide) h0))
          f15 := fun h0 => by rw [Vs.upd_ne _ _ (by decide)]; exact (h.f15 (Dn.set_back (by decide) h0))
          c4 := fun h0 => by rw [Dn.set]; simp [(h.c4 (Dn.set_back (by decide) h0))]
          c8 := fun h0 => by rw [Dn.set]; simp [(h.c8 (Dn.set_back (by decide) h0))]
          c14 := fun h0 => ⟨by rw [Dn.set]; simp [(h.c14 (Dn.set_back (by decide) h0)).1], by rw [Dn.set]; simp [(h.c14 (Dn.set_back (by decide) h0)).2]⟩
          c15 := fun h0 => by rw [Dn.set]; simp [(h.c15 (Dn.set_back (by decide) h0))] }
theorem J8.s15 {W6 : World} {A A3 A7 A11 : Value} {k : Int} {x : Nv} {n4 n5 : Nat} {C4 C5 : List Value} {d : Dn} {vs : Vs} {v0 : Value} {v4 : Value} {v5 : Value} {v6 : Value} {g : Nat} {w : World} (h : J8 W6 A A3 A7 A11 k x n4 n5 C4 C5 d vs v0 v4 v5 v6 g w) (hd : d 15 = false) (h3 : d 14 = true) : J8 W6 A A3 A7 A11 k x n4 n5 C4 C5 (d.set 15) (vs.upd 15 (v6)) v0 v4 v5 v6 g (w) := by
  exact { b := h.b
          f1 := fun h0 => by rw [Vs.upd_ne _ _ (by decide)]; exact (h.f1 (Dn.set_back (by decide) h0))
          f5 := fun h0 => by rw [Vs.upd_ne _ _ (by decide)]; exact (h.f5 (Dn.set_back (by decide) h0))
          f9 := fun h0 => by rw [Vs.upd_ne _ _ (by decide)]; exact (h.f9 (Dn.set_back (by decide) h0))
          f2 := fun h0 => by rw [Vs.upd_ne _ _ (by decide)]; exact (h.f2 (Dn.set_back (by decide) h0))
          f6 := fun h0 => by rw [Vs.upd_ne _ _ (by decide)]; exact (h.f6 (Dn.set_back (by decide) h0))
          f10 := fun h0 => by rw [Vs.upd_ne _ _ (by decide)]; exact (h.f10 (Dn.set_back (by decide) h0))
          f3 := fun h0 => by rw [Vs.upd_ne _ _ (by decide)]; exact (h.f3 (Dn.set_back (by decide) h0))
          f7 := fun h0 => by rw [Vs.upd_ne _ _ (by decide)]; exact (h.f7 (Dn.set_back (by decide) h0))
          f11 := fun h0 => by rw [Vs.upd_ne _ _ (by decide)]; exact (h.f11 (Dn.set_back (by decide) h0))
          f12 := fun h0 => by rw [Vs.upd_ne _ _ (by decide)]; exact (h.f12 (Dn.set_back (by decide) h0))
          f0 := fun h0 => by rw [Vs.upd_ne _ _ (by decide)]; exact (h.f0 (Dn.set_back (by decide) h0))
          o0 := fun h0 h1 => (h.o0 (Dn.set_back (by decide) h0) (Dn.set_back' (by decide) h1))
          f4 := fun h0 => by rw [Vs.upd_ne _ _ (by decide)]; exact (h.f4 (Dn.set_back (by decide) h0))
          o4 := fun h0 h1 => (h.o4 (Dn.set_back (by decide) h0) (Dn.set_back' (by decide) h1))
          f8 := fun h0 => by rw [Vs.upd_ne _ _ (by decide)]; exact (h.f8 (Dn.set_back (by decide) h0))
          o8 := fun h0 h1 => (h.o8 (Dn.set_back (by decide) h0) (Dn.set_back' (by decide) h1))
          f13 := fun h0 => by rw [Vs.upd_ne _ _ (by decide)]; exact (h.f13 (Dn.set_back (by decide) h0))
          o13 := fun h0 => (h.o13 (Dn.set_back (by decide) h0))
          e0 := fun h0 h1 h2 => (h.e0 (Dn.set_back (by decide) h0) (Dn.set_back (by decide) h1) (Dn.set_back' (by decide) h2))
          e4 := fun h0 h1 h2 => (h.e4 (Dn.set_back (by decide) h0) (Dn.set_back (by decide) h1) (Dn.set_back' (by decide) h2))
          e8 := fun h0 h1 h2 => (h.e8 (Dn.set_back (by decide) h0) (Dn.set_back (by decide) h1) (Dn.set_back' (by decide) h2))
          f14 := fun h0 => by rw [Vs.upd_ne _ _ (by decide)]; exact (h.f14 (Dn.set_back (by decide) h0))
          o14 := fun h0 => (h.o14 (Dn.set_back (by decide) h0))
          f15 := fun h0 => Vs.upd_same _ _ _
          c4 := fun h0 => by rw [Dn.set]; simp [(h.c4 (Dn.set_back (by decide) h0))]
          c8 := fun h0 => by rw [Dn.set]; simp [(h.c8 (Dn.set_back (by decide) h0))]
          c14 := fun h0 => ⟨by rw [Dn.set]; simp [(h.c14 (Dn.set_back (by decide) h0)).1], by rw [Dn.set]; simp [(h.c14 (Dn.set_back (by decide) h0)).2]⟩
          c15 := fun h0 => by rw [Dn.set]; simp [h3] }
theorem J8.s0 {W6 : World} {A A3 A7 A11 : Value} {k : Int} {x : Nv} {n4 n5 : Nat} {C4 C5 : List Value} {d : Dn} {vs : Vs} {v0 : Value} {v4 : Value} {v5 : Value} {v6 : Value} {g : Nat} {w : World} (h : J8 W6 A A3 A7 A11 k x n4 n5 C4 C5 d vs v0 v4 v5 v6 g w) (hd : d 0 = false)  : J8 W6 A A3 A7 A11 k x n4 n5 C4 C5 (d.set 0) (vs.upd 0 (.slice (some ⟨w.heap.size, 0, none⟩) 0 0)) (.slice (some ⟨w.heap.size, 0, none⟩) 0 0) v4 v5 v6 g (w.alloc (.cells #[] 61)) := by
  have hb : Below w.heap.size w (w.alloc (.cells #[] 61)) := ball (Below.refl _ _) _
  exact { b := bstep h.b hb
          f1 := fun h0 => by rw [Vs.upd_ne _ _ (by decide)]; exact (h.f1 (Dn.set_back (by decide) h0))
          f5 := fun h0 => by rw [Vs.upd_ne _ _ (by decide)]; exact (h.f5 (Dn.set_back (by decide) h0))
          f9 := fun h0 => by rw [Vs.upd_ne _ _ (by decide)]; exact (h.f9 (Dn.set_back (by decide) h0))
          f2 := fun h0 => by rw [Vs.upd_ne _ _ (by decide)]; exact (h.f2 (Dn.set_back (by decide) h0))
          f6 := fun h0 => by rw [Vs.upd_ne _ _ (by decide)]; exact (h.f6 (Dn.set_back (by decide) h0))
          f10 := fun h0 => by rw [Vs.upd_ne _ _ (by decide)]; exact (h.f10 (Dn.set_back (by decide) h0))
          f3 := fun h0 => by rw [Vs.upd_ne _ _ (by decide)]; exact (h.f3 (Dn.set_back (by decide) h0))
          f7 := fun h0 => by rw [Vs.upd_ne _ _ (by decide)]; exact (h.f7 (Dn.set_back (by decide) h0))
          f11 := fun h0 => by rw [Vs.upd_ne _ _ (by decide)]; exact (h.f11 (Dn.set_back (by decide) h0))
          f12 := fun h0 => by rw [Vs.upd_ne _ _ (by decide)]; exact (h.f12 (Dn.set_back (by decide) h0))
          f0 := fun h0 => Vs.upd_same _ _ _
          o0 := fun h0 h1 => World.ownsRow_made w #[] 0 h.b.size (by decide) rfl
          f4 := fun h0 => by rw [Vs.upd_ne _ _ (by decide)]; exact (h.f4 (Dn.set_back (by decide) h0))
          o4 := fun h0 h1 => (h.o4 (Dn.set_back (by decide) h0) (Dn.set_back' (by decide) h1)).alloc _
          f8 := fun h0 => by rw [Vs.upd_ne _ _ (by decide)]; exact (h.f8 (Dn.set_back (by decide) h0))
          o8 := fun h0 h1 => (h.o8 (Dn.set_back (by decide) h0) (Dn.set_back' (by decide) h1)).alloc _
          f13 := fun h0 => by rw [Vs.upd_ne _ _ (by decide)]; exact (h.f13 (Dn.set_back (by decide) h0))
          o13 := fun h0 => ⟨(h.o13 (Dn.set_back (by decide) h0)).1.keep hb, Nat.lt_of_lt_of_le (h.o13 (Dn.set_back (by decide) h0)).2 hb.size⟩
          e0 := fun h0 h1 h2 => fun k hk e => by cases hk; exact absurd (h.o13 (Dn.set_back (by decide) h1)).2 (by rw [← e]; exact Nat.lt_irrefl _)
          e4 := fun h0 h1 h2 => (h.e4 (Dn.set_back (by decide) h0) (Dn.set_back (by decide) h1) (Dn.set_back' (by decide) h2))
          e8 := fun h0 h1 h2 => (h.e8 (Dn.set_back (by decide) h0) (Dn.set_back (by decide) h1) (Dn.set_back' (by decide) h2))
          f14 := fun h0 => by rw [Vs.upd_ne _ _ (by decide)]; exact (h.f14 (Dn.set_back (by decide) h0))
          o14 := fun h0 => (h.o14 (Dn.set_back (by decide) h0)).alloc _
          f15 := fun h0 => by rw [Vs.upd_ne _ _ (by decide)]; exact (h.f15 (Dn.set_back (by decide) h0))
          c4 := fun h0 => by rw [Dn.set]; simp [(h.c4 (Dn.set_back (by decide) h0))]
          c8 := fun h0 => by rw [Dn.set]; simp [(h.c8 (Dn.set_back (by decide) h0))]
          c14 := fun h0 => ⟨by rw [Dn.set]; simp [(h.c14 (Dn.set_back (by decide) h0)).1], by rw [Dn.set]; simp [(h.c14 (Dn.set_back (by decide) h0)).2]⟩
          c15 := fun h0 => by rw [Dn.set]; simp [(h.c15 (Dn.set_back (by decide) h0))] }
theorem J8.s13 {W6 : World} {A A3 A7 A11 : Value} {k : Int} {x : Nv} {n4 n5 : Nat} {C4 C5 : List Value} {d : Dn} {vs : Vs} {v0 : Value} {v4 : Value} {v5 : Value} {v6 : Value} {g : Nat} {w : World} (h : J8 W6 A A3 A7 A11 k x n4 n5 C4 C5 d vs v0 v4 v5 v6 g w) (hd : d 13 = false)  : J8 W6 A A3 A7 A11 k x n4 n5 C4 C5 (d.set 13) (vs.upd 13 (.slice (some ⟨w.heap.size, 0, none⟩) 1 1)) v0 v4 v5 v6 (w.heap.size) (w.alloc (.cells x.cs.toArray 61)) := by
  have hb : Below w.heap.size w (w.alloc (.cells x.cs.toArray 61)) := ball (Below.refl _ _) _
  exact { b := bstep h.b hb
          f1 := fun h0 => by rw [Vs.upd_ne _ _ (by decide)]; exact (h.f1 (Dn.set_back (by decide) h0))
          f5 := fun h0 => by rw [Vs.upd_ne _ _ (by decide)]; exact (h.f5 (Dn.set_back (by decide) h0))
          f9 := fun h0 => by rw [Vs.upd_ne _ _ (by decide)]; exact (h.f9 (Dn.set_back (by decide) h0))
          f2 := fun h0 => by rw [Vs.upd_ne _ _ (by decide)]; exact (h.f2 (Dn.set_back (by decide) h0))
          f6 := fun h0 => by rw [Vs.upd_ne _ _ (by decide)]; exact (h.f6 (Dn.set_back (by decide) h0))
          f10 := fun h0 => by rw [Vs.upd_ne _ _ (by decide)]; exact (h.f10 (Dn.set_back (by decide) h0))
          f3 := fun h0 => by rw [Vs.upd_ne _ _ (by decide)]; exact (h.f3 (Dn.set_back (by decide) h0))
          f7 := fun h0 => by rw [Vs.upd_ne _ _ (by decide)]; exact (h.f7 (Dn.set_back (by decide) h0))
          f11 := fun h0 => by rw [Vs.upd_ne _ _ (by decide)]; exact (h.f11 (Dn.set_back (by decide) h0))
          f12 := fun h0 => by rw [Vs.upd_ne _ _ (by decide)]; exact (h.f12 (Dn.set_back (by decide) h0))
          f0 := fun h0 => by rw [Vs.upd_ne _ _ (by decide)]; exact (h.f0 (Dn.set_back (by decide) h0))
          o0 := fun h0 h1 => (h.o0 (Dn.set_back (by decide) h0) (Dn.set_back' (by decide) h1)).alloc _
          f4 := fun h0 => by rw [Vs.upd_ne _ _ (by decide)]; exact (h.f4 (Dn.set_back (by decide) h0))
          o4 := fun h0 h1 => (h.o4 (Dn.set_back (by decide) h0) (Dn.set_back' (by decide) h1)).alloc _
          f8 := fun h0 => by rw [Vs.upd_ne _ _ (by decide)]; exact (h.f8 (Dn.set_back (by decide) h0))
          o8 := fun h0 h1 => (h.o8 (Dn.set_back (by decide) h0) (Dn.set_back' (by decide) h1)).alloc _
          f13 := fun h0 => Vs.upd_same _ _ _
          o13 := fun h0 => ⟨CellsAt.new w x.cs 61, by simp⟩
          e0 := fun h0 h1 h2 => row_ne (h.o0 (Dn.set_back (by decide) h0) (Dn.set_back' (by decide) h2))
          e4 := fun h0 h1 h2 => row_ne (h.o4 (Dn.set_back (by decide) h0) (Dn.set_back' (by decide) h2))
          e8 := fun h0 h1 h2 => row_ne (h.o8 (Dn.set_back (by decide) h0) (Dn.set_back' (by decide) h2))
          f14 := fun h0 => by rw [Vs.upd_ne _ _ (by decide)]; exact (h.f14 (Dn.set_back (by decide) h0))
          o14 := fun h0 => (h.o14 (Dn.set_back (by decide) h0)).alloc _
          f15 := fun h0 => by rw [Vs.upd_ne _ _ (by decide)]; exact (h.f15 (Dn.set_back (by decide) h0))
          c4 := fun h0 => by rw [Dn.set]; simp [(h.c4 (Dn.set_back (by decide) h0))]
          c8 := fun h0 => by rw [Dn.set]; simp [(h.c8 (Dn.set_back (by decide) h0))]
          c14 := fun h0 => ⟨by rw [Dn.set]; simp [(h.c14 (Dn.set_back (by decide) h0)).1], by rw [Dn.set]; simp [(h.c14 (Dn.set_back (by decide) h0)).2]⟩
          c15 := fun h0 => by rw [Dn.set]; simp [(h.c15 (Dn.set_back (by decide) h0))] }
theorem J8.s4 {W6 : World} {A A3 A7 A11 : Value} {k : Int} {x : Nv} {n4 n5 : Nat} {C4 C5 : List Value} {d : Dn} {vs : Vs} {v0 : Value} {v4 : Value} {v5 : Value} {v6 : Value} {g : Nat} {w : World} (h : J8 W6 A A3 A7 A11 k x n4 n5 C4 C5 d vs v0 v4 v5 v6 g w) (hd : d 4 = false) (h3 : d 0 = true) {v' : Value} {w' : World} (hb : Below W6.heap.size w w') (hg : w.grownBy w' v0.ownBlock) (hv : v'.ownBlock = v0.ownBlock ∨ v'.ownBlock = some w.heap.size) (ho : Row31 W6 w' v' n4 C4) : J8 W6 A A3 A7 A11 k x n4 n5 C4 C5 (d.set 4) (vs.upd 4 (v')) v0 (v') v5 v6 g (w') := by
  exact { b := h.b.trans hb
          f1 := fun h0 => by rw [Vs.upd_ne _ _ (by decide)]; exact (h.f1 (Dn.set_back (by decide) h0))
          f5 := fun h0 => by rw [Vs.upd_ne _ _ (by decide)]; exact (h.f5 (Dn.set_back (by decide) h0))
          f9 := fun h0 => by rw [Vs.upd_ne _ _ (by decide)]; exact (h.f9 (Dn.set_back (by decide) h0))
          f2 := fun h0 => by rw [Vs.upd_ne _ _ (by decide)]; exact (h.f2 (Dn.set_back (by decide) h0))
          f6 := fun h0 => by rw [Vs.upd_ne _ _ (by decide)]; exact (h.f6 (Dn.set_back (by decide) h0))
          f10 := fun h0 => by rw [Vs.upd_ne _ _ (by decide)]; exact (h.f10 (Dn.set_back (by decide) h0))
          f3 := fun h0 => by rw [Vs.upd_ne _ _ (by decide)]; exact (h.f3 (Dn.set_back (by decide) h0))
          f7 := fun h0 => by rw [Vs.upd_ne _ _ (by decide)]; exact (h.f7 (Dn.set_back (by decide) h0))
          f11 := fun h0 => by rw [Vs.upd_ne _ _ (by decide)]; exact (h.f11 (Dn.set_back (by decide) h0))
          f12 := fun h0 => by rw [Vs.upd_ne _ _ (by decide)]; exact (h.f12 (Dn.set_back (by decide) h0))
          f0 := fun h0 => by rw [Vs.upd_ne _ _ (by decide)]; exact (h.f0 (Dn.set_back (by decide) h0))
          o0 := fun h0 h1 => absurd (Dn.set_same d 4) (by rw [h1]; simp)
          f4 := fun h0 => Vs.upd_same _ _ _
          o4 := fun h0 h1 => ho
          f8 := fun h0 => by rw [Vs.upd_ne _ _ (by decide)]; exact (h.f8 (Dn.set_back (by decide) h0))
          o8 := fun h0 h1 => absurd (h.c8 (Dn.set_back (by decide) h0)) (by rw [hd]; simp)
          f13 := fun h0 => by rw [Vs.upd_ne _ _ (by decide)]; exact (h.f13 (Dn.set_back (by decide) h0))
          o13 := fun h0 => ⟨(h.o13 (Dn.set_back (by decide) h0)).1.grown hg (h.e0 h3 (Dn.set_back (by decide) h0) hd), Nat.lt_of_lt_of_le (h.o13 (Dn.set_back (by decide) h0)).2 hg.size⟩
          e0 := fun h0 h1 h2 => absurd (Dn.set_same d 4) (by rw [h2]; simp)
          e4 := fun h0 h1 h2 => fun k hk e => by
            rcases hv with hv | hv
            · exact h.e0 h3 (Dn.set_back (by decide) h1) hd k (hv ▸ hk) e
            · rw [hv] at hk; cases hk; exact absurd (h.o13 (Dn.set_back (by decide) h1)).2 (by rw [← e]; exact Nat.lt_irrefl _)
          e8 := fun h0 h1 h2 => absurd (h.c8 (Dn.set_back (by decide) h0)) (by rw [hd]; simp)
          f14 := fun h0 => by rw [Vs.upd_ne _ _ (by decide)]; exact (h.f14 (Dn.set_back (by decide) h0))
          o14 := fun h0 => absurd (h.c8 (h.c14 (Dn.set_back (by decide) h0)).1) (by rw [hd]; simp)
          f15 := fun h0 => by rw [Vs.upd_ne _ _ (by decide)]; exact (h.f15 (Dn.set_back (by decide) h0))
          c4 := fun h0 => by rw [Dn.set]; simp [h3]
          c8 := fun h0 => by rw [Dn.set]; simp [(h.c8 (Dn.set_back (by decide) h0))]
          c14 := fun h0 => ⟨by rw [Dn.set]; simp [(h.c14 (Dn.set_back (by decide) h0)).1], by rw [Dn.set]; simp [(h.c14 (Dn.set_back (by decide) h0)).2]⟩
          c15 := fun h0 => by rw [Dn.set]; simp [(h.c15 (Dn.set_back (by decide) h0))] }
theorem J8.s8 {W6 : World} {A A3 A7 A11 : Value} {k : Int} {x : Nv} {n4 n5 : Nat} {C4 C5 : List Value} {d : Dn} {vs : Vs} {v0 : Value} {v4 : Value} {v5 : Value} {v6 : Value} {g : Nat} {w : World} (h : J8 W6 A A3 A7 A11 k x n4 n5 C4 C5 d vs v0 v4 v5 v6 g w) (hd : d 8 = false) (h3 : d 4 = true) {v' : Value} {w' : World} (hb : Below W6.heap.size w w') (hg : w.grownBy w' v4.ownBlock) (hv : v'.ownBlock = v4.ownBlock ∨ v'.ownBlock = some w.heap.size) (ho : Row31 W6 w' v' n5 C5) : J8 W6 A A3 A7 A11 k x n4 n5 C4 C5 (d.set 8) (vs.upd 8 (v')) v0 v4 (v') v6 g (w') := by
  exact { b := h.b.trans hb
          f1 := fun h0 => by rw [Vs.upd_ne _ _ (by decide)]; exact (h.f1 (Dn.set_back (by decide) h0))
          f5 := fun h0 => by rw [Vs.upd_ne _ _ (by decide)]; exact (h.f5 (Dn.set_back (by decide) h0))
          f9 := fun h0 => by rw [Vs.upd_ne _ _ (by decide)]; exact (h.f9 (Dn.set_back (by decide) h0))
          f2 := fun h0 => by rw [Vs.upd_ne _ _ (by decide)]; exact (h.f2 (Dn.set_back (by decide) h0))
          f6 := fun h0 => by rw [Vs.upd_ne _ _ (by decide)]; exact (h.f6 (Dn.set_back (by decide) h0))
          f10 := fun h0 => by rw [Vs.upd_ne _ _ (by decide)]; exact (h.f10 (Dn.set_back (by decide) h0))
          f3 := fun h0 => by rw [Vs.upd_ne _ _ (by decide)]; exact (h.f3 (Dn.set_back (by decide) h0))
          f7 := fun h0 => by rw [Vs.upd_ne _ _ (by decide)]; exact (h.f7 (Dn.set_back (by decide) h0))
          f11 := fun h0 => by rw [Vs.upd_ne _ _ (by decide)]; exact (h.f11 (Dn.set_back (by decide) h0))
          f12 := fun h0 => by rw [Vs.upd_ne _ _ (by decide)]; exact (h.f12 (Dn.set_back (by decide) h0))
          f0 := fun h0 => by rw [Vs.upd_ne _ _ (by decide)]; exact (h.f0 (Dn.set_back (by decide) h0))
          o0 := fun h0 h1 => absurd (Dn.set_back' (i := 8) (by decide) h1) (by rw [h3]; simp)
          f4 := fun h0 => by rw [Vs.upd_ne _ _ (by decide)]; exact (h.f4 (Dn.set_back (by decide) h0))
          o4 := fun h0 h1 => absurd (Dn.set_same d 8) (by rw [h1]; simp)
          f8 := fun h0 => Vs.upd_same _ _ _
          o8 := fun h0 h1 => ho
          f13 := fun h0 => by rw [Vs.upd_ne _ _ (by decide)]; exact (h.f13 (Dn.set_back (by decide) h0))
          o13 := fun h0 => ⟨(h.o13 (Dn.set_back (by decide) h0)).1.grown hg (h.e4 h3 (Dn.set_back (by decide) h0) hd), Nat.lt_of_lt_of_le (h.o13 (Dn.set_back (by decide) h0)).2 hg.size⟩
          e0 := fun h0 h1 h2 => absurd (Dn.set_back' (i := 8) (by decide) h2) (by rw [h3]; simp)
          e4 := fun h0 h1 h2 => absurd (Dn.set_same d 8) (by rw [h2]; simp)
          e8 := fun h0 h1 h2 => fun k hk e => by
            rcases hv with hv | hv
            · exact h.e4 h3 (Dn.set_back (by decide) h1) hd k (hv ▸ hk) e
            · rw [hv] at hk; cases hk; exact absurd (h.o13 (Dn.set_back (by decide) h1)).2 (by rw [← e]; exact Nat.lt_irrefl _)
          f14 := fun h0 => by rw [Vs.upd_ne _ _ (by decide)]; exact (h.f14 (Dn.set_back (by decide) h0))
          o14 := fun h0 => absurd (h.c14 (Dn.set_back (by decide) h0)).1 (by rw [hd]; simp)
          f15 := fun h0 => by rw [Vs.upd_ne _ _ (by decide)]; exact (h.f15 (Dn.set_back (by decide) h0))
          c4 := fun h0 => by rw [Dn.set]; simp [(h.c4 (Dn.set_back (by decide) h0))]
          c8 := fun h0 => by rw [Dn.set]; simp [h3]
          c14 := fun h0 => ⟨by rw [Dn.set]; simp [(h.c14 (Dn.set_back (by decide) h0)).1], by rw [Dn.set]; simp [(h.c14 (Dn.set_back (by decide) h0)).2]⟩
          c15 := fun h0 => by rw [Dn.set]; simp [(h.c15 (Dn.set_back (by decide) h0))] }
theorem J8.s14 {W6 : World} {A A3 A7 A11 : Value} {k : Int} {x : Nv} {n4 n5 : Nat} {C4 C5 : List Value} {d : Dn} {vs : Vs} {v0 : Value} {v4 : Value} {v5 : Value} {v6 : Value} {g : Nat} {w : World} (h : J8 W6 A A3 A7 A11 k x n4 n5 C4 C5 d vs v0 v4 v5 v6 g w) (hd : d 14 = false) (h3 : d 8 = true) (h5 : d 13 = true) {v' : Value} {w' : World} (hb : Below W6.heap.size w w') (hg : w.grownBy w' v5.ownBlock) (hv : v'.ownBlock = v5.ownBlock ∨ v'.ownBlock = some w.heap.size) (ho : Row31 W6 w' v' (n5 + 1) (C5 ++ x.cs)) : J8 W6 A A3 A7 A11 k x n4 n5 C4 C5 (d.set 14) (vs.upd 14 (v')) v0 v4 v5 (v') g (w') := by
  exact { b := h.b.trans hb
          f1 := fun h0 => by rw [Vs.upd_ne _ _ (by decide)]; exact (h.f1 (Dn.set_back (by decide) h0))
          f5 := fun h0 => by rw [Vs.upd_ne _ _ (by decide)]; exact (h.f5 (Dn.set_back (by decide) h0))
          f9 := fun h0 => by rw [Vs.upd_ne _ _ (by decide)]; exact (h.f9 (Dn.set_back (by decide) h0))
          f2 := fun h0 => by rw [Vs.upd_ne _ _ (by decide)]; exact (h.f2 (Dn.set_back (by decide) h0))
          f6 := fun h0 => by rw [Vs.upd_ne _ _ (by decide)]; exact (h.f6 (Dn.set_back (by decide) h0))
          f10 := fun h0 => by rw [Vs.upd_ne _ _ (by decide)]; exact (h.f10 (Dn.set_back (by decide) h0))
          f3 := fun h0 => by rw [Vs.upd_ne _ _ (by decide)]; exact (h.f3 (Dn.set_back (by decide) h0))
          f7 := fun h0 => by rw [Vs.upd_ne _ _ (by decide)]; exact (h.f7 (Dn.set_back (by decide) h0))
          f11 := fun h0 => by rw [Vs.upd_ne _ _ (by decide)]; exact (h.f11 (Dn.set_back (by decide) h0))
          f12 := fun h0 => by rw [Vs.upd_ne _ _ (by decide)]; exact (h.f12 (Dn.set_back (by decide) h0))
          f0 := fun h0 => by rw [Vs.upd_ne _ _ (by decide)]; exact (h.f0 (Dn.set_back (by decide) h0))
          o0 := fun h0 h1 => absurd (Dn.set_back' (i := 14) (by decide) h1) (by rw [(h.c8 h3)]; simp)
          f4 := fun h0 => by rw [Vs.upd_ne _ _ (by decide)]; exact (h.f4 (Dn.set_back (by decide) h0))
          o4 := fun h0 h1 => absurd (Dn.set_back' (i := 14) (by decide) h1) (by rw [h3]; simp)
          f8 := fun h0 => by rw [Vs.upd_ne _ _ (by decide)]; exact (h.f8 (Dn.set_back (by decide) h0))
          o8 := fun h0 h1 => absurd (Dn.set_same d 14) (by rw [h1]; simp)
          f13 := fun h0 => by rw [Vs.upd_ne _ _ (by decide)]; exact (h.f13 (Dn.set_back (by decide) h0))
          o13 := fun h0 => ⟨(h.o13 (Dn.set_back (by decide) h0)).1.grown hg (h.e8 h3 (Dn.set_back (by decide) h0) hd), Nat.lt_of_lt_of_le (h.o13 (Dn.set_back (by decide) h0)).2 hg.size⟩
          e0 := fun h0 h1 h2 => absurd (Dn.set_back' (i := 14) (by decide) h2) (by rw [(h.c8 h3)]; simp)
          e4 := fun h0 h1 h2 => absurd (Dn.set_back' (i := 14) (by decide) h2) (by rw [h3]; simp)
          e8 := fun h0 h1 h2 => absurd (Dn.set_same d 14) (by rw [h2]; simp)
          f14 := fun h0 => Vs.upd_same _ _ _
          o14 := fun h0 => ho
          f15 := fun h0 => absurd (h.c15 (Dn.set_back (by decide) h0)) (by rw [hd]; simp)
          c4 := fun h0 => by rw [Dn.set]; simp [(h.c4 (Dn.set_back (by decide) h0))]
          c8 := fun h0 => by rw [Dn.set]; simp [(h.c8 (Dn.set_back (by decide) h0))]
          c14 := fun h0 => ⟨by rw [Dn.set]; simp [h3], by rw [Dn.set]; simp [h5]⟩
          c15 := fun h0 => by rw [Dn.set]; simp [(h.c15 (Dn.set_back (by decide) h0))] }
end Go.Proofs.Ytleenbfldkmcaaa
