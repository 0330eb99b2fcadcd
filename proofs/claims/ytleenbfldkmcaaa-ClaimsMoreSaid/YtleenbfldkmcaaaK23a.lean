/- Proved: what holds while two tables are made beside each other, whichever comes first: for the law that what remains after more beacons remains after some of them. Conditions: those that each theorem names. -/
import Derived.Test.YtleenbfldkmcaaaK22b
import Derived.Test.YtleenbfldkmcaaaSteps
namespace Go.Proofs.Ytleenbfldkmcaaa
open Go.RowKit Go.Sort Go.BigFrame
set_option linter.unusedVariables false
set_option linter.unusedSimpArgs false
abbrev N3 : List Value := [.slice none 0 0, .slice none 0 0, .slice none 0 0]

structure J6 (W6 : World) (t : Tv) (me fr : Int) (a : Option Addr) (n cap : Nat) (a5 : Option Addr) (m5 c5 : Nat) (Y1 Y2 : Tb) (d : Dn) (vs : Vs) (r1 : Tv) (r2 : Tv) (p : Nat) (q : Nat) (w : World) : Prop where
  b : Below W6.heap.size W6 w
  f0 : d 0 = true → vs 0 = t.v
  f5 : d 5 = true → vs 5 = t.v
  f1 : d 1 = true → vs 1 = .int .i64 me
  f6 : d 6 = true → vs 6 = .int .i64 me
  f2 : d 2 = true → vs 2 = .slice a n cap
  f7 : d 7 = true → vs 7 = .slice a5 m5 c5
  f3 : d 3 = true → vs 3 = .int .i64 fr
  f8 : d 8 = true → vs 8 = .int .i64 fr
  f4 : d 4 = true → vs 4 = r1.v
  o4 : d 4 = true → r1.ok w ∧ r1.T = Y1
  f9 : d 9 = true → vs 9 = r2.v
  o9 : d 9 = true → r2.ok w ∧ r2.T = Y2
  f10 : d 10 = true → vs 10 = .pointer (some ⟨p, 0, none⟩)
  o10 : d 10 = true → W6.heap.size ≤ p ∧ Bx w p ∧ Fz w p
  f11 : d 11 = true → vs 11 = .pointer (some ⟨q, 0, none⟩)
  o11 : d 11 = true → W6.heap.size ≤ q ∧ Bx w q ∧ Fz w q
  pq : d 10 = true → d 11 = true → p ≠ q
  z12 : d 10 = true → d 12 = false → CAt w p N3
  z13 : d 11 = true → d 13 = false → CAt w q N3
  f12 : d 12 = true → CAt w p r1.cs
  f13 : d 13 = true → CAt w q r2.cs
  c12 : d 12 = true → d 4 = true ∧ d 10 = true
  c13 : d 13 = true → d 9 = true ∧ d 11 = true
theorem J6.start {W6 : World} {t : Tv} {me fr : Int} {a : Option Addr} {n cap : Nat} {a5 : Option Addr} {m5 c5 : Nat} {Y1 Y2 : Tb} {r1 : Tv} {r2 : Tv} {p : Nat} {q : Nat} {vs : Vs} : J6 W6 t me fr a n cap a5 m5 c5 Y1 Y2 (fun _ => false) vs r1 r2 p q W6.drew where
  b := Below.drew (Below.refl _ _)
  f0 := fun h => absurd h Bool.false_ne_true
  f5 := fun h => absurd h Bool.false_ne_true
  f1 := fun h => absurd h Bool.false_ne_true
  f6 := fun h => absurd h Bool.false_ne_true
  f2 := fun h => absurd h Bool.false_ne_true
  f7 := fun h => absurd h Bool.false_ne_true
  f3 := fun h => absurd h Bool.false_ne_true
  f8 := fun h => absurd h Bool.false_ne_true
  f4 := fun h => absurd h Bool.false_ne_true
  o4 := fun h => absurd h Bool.false_ne_true
  f9 := fun h => absurd h Bool.false_ne_true
  o9 := fun h => absurd h Bool.false_ne_true
  f10 := fun h => absurd h Bool.false_ne_true
  o10 := fun h => absurd h Bool.false_ne_true
  f11 := fun h => absurd h Bool.false_ne_true
  o11 := fun h => absurd h Bool.false_ne_true
  pq := fun h => absurd h Bool.false_ne_true
  z12 := fun h => absurd h Bool.false_ne_true
  z13 := fun h => absurd h Bool.false_ne_true
  f12 := fun h => absurd h Bool.false_ne_true
  f13 := fun h => absurd h Bool.false_ne_true
  c12 := fun h => absurd h Bool.false_ne_true
  c13 := fun h => absurd h Bool.false_ne_true
theorem J6.keep {W6 : World} {t : Tv} {me fr : Int} {a : Option Addr} {n cap : Nat} {a5 : Option Addr} {m5 c5 : Nat} {Y1 Y2 : Tb} {d : Dn} {vs : Vs} {r1 : Tv} {r2 : Tv} {p : Nat} {q : Nat} {w w' : World} (h : J6 W6 t me fr a n cap a5 m5 c5 Y1 Y2 d vs r1 r2 p q w) (hb : Below w.heap.size w w') : J6 W6 t me fr a n cap a5 m5 c5 Y1 Y2 d vs r1 r2 p q w' where
  b := bstep h.b hb
  f0 := h.f0
  f5 := h.f5
  f1 := h.f1
  f6 := h.f6
  f2 := h.f2
  f7 := h.f7
  f3 := h.f3
  f8 := h.f8
  f4 := h.f4
  o4 h0 := ⟨(h.o4 h0).1.keep hb, (h.o4 h0).2⟩
  f9 := h.f9
  o9 h0 := ⟨(h.o9 h0).1.keep hb, (h.o9 h0).2⟩
  f10 := h.f10
  o10 h0 := ⟨(h.o10 h0).1, (h.o10 h0).2.1.keep hb, (h.o10 h0).2.2.keep hb⟩
  f11 := h.f11
  o11 h0 := ⟨(h.o11 h0).1, (h.o11 h0).2.1.keep hb, (h.o11 h0).2.2.keep hb⟩
  pq := h.pq
  z12 h0 h1 := (h.z12 h0 h1).keep hb
  z13 h0 h1 := (h.z13 h0 h1).keep hb
  f12 h0 := (h.f12 h0).keep hb
  f13 h0 := (h.f13 h0).keep hb
  c12 := h.c12
  c13 := h.c13
theorem J6.s0 {W6 : World} {t : Tv} {me fr : Int} {a : Option Addr} {n cap : Nat} {a5 : Option Addr} {m5 c5 : Nat} {Y1 Y2 : Tb} {d : Dn} {vs : Vs} {r1 : Tv} {r2 : Tv} {p : Nat} {q : Nat} {w : World} (h : J6 W6 t me fr a n cap a5 m5 c5 Y1 Y2 d vs r1 r2 p q w) (hd : d 0 = false)  : J6 W6 t me fr a n cap a5 m5 c5 Y1 Y2 (d.set 0) (vs.upd 0 (t.v)) r1 r2 p q (w) := by
  exact { b := h.b
          f0 := fun h0 => Vs.upd_same _ _ _
          f5 := fun h0 => by rw [Vs.upd_ne _ _ (by decide)]; exact (h.f5 (Dn.set_back (by decide) h0))
          f1 := fun h0 => by rw [Vs.upd_ne _ _ (by decide)]; exact (h.f1 (Dn.set_back (by decide) h0))
          f6 := fun h0 => by rw [Vs.upd_ne _ _ (by decide)]; exact (h.f6 (Dn.set_back (by decide) h0))
          f2 := fun h0 => by rw [Vs.upd_ne _ _ (by decide)]; exact (h.f2 (Dn.set_back (by decide) h0))
          f7 := fun h0 => by rw [Vs.upd_ne _ _ (by decide)]; exact (h.f7 (Dn.set_back (by decide) h0))
          f3 := fun h0 => by rw [Vs.upd_ne _ _ (by decide)]; exact (h.f3 (Dn.set_back (by decide) h0))
          f8 := fun h0 => by rw [Vs.upd_ne _ _ (by decide)]; exact (h.f8 (Dn.set_back (by decide) h0))
          f4 := fun h0 => by rw [Vs.upd_ne _ _ (by decide)]; exact (h.f4 (Dn.set_back (by decide) h0))
          o4 := fun h0 => (h.o4 (Dn.set_back (by decide) h0))
          f9 := fun h0 => by rw [Vs.upd_ne _ _ (by decide)]; exact (h.f9 (Dn.set_back (by decide) h0))
          o9 := fun h0 => (h.o9 (Dn.set_back (by decide) h0))
          f10 := fun h0 => by rw [Vs.upd_ne _ _ (by decide)]; exact (h.f10 (Dn.set_back (by decide) h0))
          o10 := fun h0 => (h.o10 (Dn.set_back (by decide) h0))
          f11 := fun h0 => by rw [Vs.upd_ne _ _ (by decide)]; exact (h.f11 (Dn.set_back (by decide) h0))
          o11 := fun h0 => (h.o11 (Dn.set_back (by decide) h0))
          pq := fun h0 h1 => (h.pq (Dn.set_back (by decide) h0) (Dn.set_back (by decide) h1))
          z12 := fun h0 h1 => (h.z12 (Dn.set_back (by decide) h0) (Dn.set_back' (by decide) h1))
          z13 := fun h0 h1 => (h.z13 (Dn.set_back (by decide) h0) (Dn.set_back' (by decide) h1))
          f12 := fun h0 => (h.f12 (Dn.set_back (by decide) h0))
          f13 := fun h0 => (h.f13 (Dn.set_back (by decide) h0))
          c12 := fun h0 => ⟨by rw [Dn.set]; simp [(h.c12 (Dn.set_back (by decide) h0)).1], by rw [Dn.set]; simp [(h.c12 (Dn.set_back (by decide) h0)).2]⟩
          c13 := fun h0 => ⟨by rw [Dn.set]; simp [(h.c13 (Dn.set_back (by decide) h0)).1], by rw [Dn.set]; simp [(h.c13 (Dn.set_back (by decide) h0)).2]⟩ }
theorem J6.s5 {W6 : World} {t : Tv} {me fr : Int} {a : Option Addr} {n cap : Nat} {a5 : Option Addr} {m5 c5 : Nat} {Y1 Y2 : Tb} {d : Dn} {vs : Vs} {r1 : Tv} {r2 : Tv} {p : Nat} {q : Nat} {w : World} (h : J6 W6 t me fr a n cap a5 m5 c5 Y1 Y2 d vs r1 r2 p q w) (hd : d 5 = false)  : J6 W6 t me fr a n cap a5 m5 c5 Y1 Y2 (d.set 5) (vs.upd 5 (t.v)) r1 r2 p q (w) := by
  exact { b := h.b
          f0 := fun h0 => by rw [Vs.upd_ne _ _ (by decide)]; exact (h.f0 (Dn.set_back (by decide) h0))
          f5 := fun h0 => Vs.upd_same _ _ _
          f1 := fun h0 => by rw [Vs.upd_ne _ _ (by decide)]; exact (h.f1 (Dn.set_back (by decide) h0))
          f6 := fun h0 => by rw [Vs.upd_ne _ _ (by decide)]; exact (h.f6 (Dn.set_back (by decide) h0))
          f2 := fun h0 => by rw [Vs.upd_ne _ _ (by decide)]; exact (h.f2 (Dn.set_back (by decide) h0))
          f7 := fun h0 => by rw [Vs.upd_ne _ _ (by decide)]; exact (h.f7 (Dn.set_back (by decide) h0))
          f3 := fun h0 => by rw [Vs.upd_ne _ _ (by decide)]; exact (h.f3 (Dn.set_back (by decide) h0))
          f8 := fun h0 => by rw [Vs.upd_ne _ _ (by decide)]; exact (h.f8 (Dn.set_back (by decide) h0))
          f4 := fun h0 => by rw [Vs.upd_ne _ _ (by decide)]; exact (h.f4 (Dn.set_back (by decide) h0))
          o4 := fun h0 => (h.o4 (Dn.set_back (by decide) h0))
          f9 := fun h0 => by rw [Vs.upd_ne _ _ (by decide)]; exact (h.f9 (Dn.set_back (by decide) h0))
          o9 := fun h0 => (h.o9 (Dn.set_back (by decide) h0))
          f10 := fun h0 => by rw [Vs.upd_ne _ _ (by decide)]; exact (h.f10 (Dn.set_back (by decide) h0))
          o10 := fun h0 => (h.o10 (Dn.set_back (by decide) h0))
          f11 := fun h0 => by rw [Vs.upd_ne _ _ (by decide)]; exact (h.f11 (Dn.set_back (by decide) h0))
          o11 := fun h0 => (h.o11 (Dn.set_back (by decide) h0))
          pq := fun h0 h1 => (h.pq (Dn.set_back (by decide) h0) (Dn.set_back (by decide) h1))
          z12 := fun h0 h1 => (h.z12 (Dn.set_back (by decide) h0) (Dn.set_back' (by decide) h1))
          z13 := fun h0 h1 => (h.z13 (Dn.set_back (by decide) h0) (Dn.set_back' (by decide) h1))
          f12 := fun h0 => (h.f12 (Dn.set_back (by decide) h0))
          f13 := fun h0 => (h.f13 (Dn.set_back (by decide) h0))
          c12 := fun h0 => ⟨by rw [Dn.set]; simp [(h.c12 (Dn.set_back (by decide) h0)).1], by rw [Dn.set]; simp [(h.c12 (Dn.set_back (by decide) h0)).2]⟩
          c13 := fun h0 => ⟨by rw [Dn.set]; simp [(h.c13 (Dn.set_back (by decide) h0)).1], by rw [Dn.set]; simp [(h.c13 (Dn.set_back (by decide) h0)).2]⟩ }
theorem J6.s1 {W6 : World} {t : Tv} {me fr : Int} {a : Option Addr} {n cap : Nat} {a5 : Option Addr} {m5 c5 : Nat} {Y1 Y2 : Tb} {d : Dn} {vs : Vs} {r1 : Tv} {r2 : Tv} {p : Nat} {q : Nat} {w : World} (h : J6 W6 t me fr a n cap a5 m5 c5 Y1 Y2 d vs r1 r2 p q w) (hd : d 1 = false)  : J6 W6 t me fr a n cap a5 m5 c5 Y1 Y2 (d.set 1) (vs.upd 1 (.int .i64 me)) r1 r2 p q (w) := by
  exact { b := h.b
          f0 := fun h0 => by rw [Vs.upd_ne _ _ (by decide)]; exact (h.f0 (Dn.set_back (by decide) h0))
          f5 := fun h0 => by rw [Vs.upd_ne _ _ (by decide)]; exact (h.f5 (Dn.set_back (by decide) h0))
          f1 := fun h0 => Vs.upd_same _ _ _
          f6 := fun h0 => by rw [Vs.upd_ne _ _ (by decide)]; exact (h.f6 (Dn.set_back (by decide) h0))
          f2 := fun h0 => by rw [Vs.upd_ne _ _ (by decide)]; exact (h.f2 (Dn.set_back (by decide) h0))
          f7 := fun h0 => by rw [Vs.upd_ne _ _ (by decide)]; exact (h.f7 (Dn.set_back (by decide) h0))
          f3 := fun h0 => by rw [Vs.upd_ne _ _ (by decide)]; exact (h.f3 (Dn.set_back (by decide) h0))
          f8 := fun h0 => by rw [Vs.upd_ne _ _ (by decide)]; exact (h.f8 (Dn.set_back (by decide) h0))
          f4 := fun h0 => by rw [Vs.upd_ne _ _ (by decide)]; exact (h.f4 (Dn.set_back (by decide) h0))
          o4 := fun h0 => (h.o4 (Dn.set_back (by decide) h0))
          f9 := fun h0 => by rw [Vs.upd_ne _ _ (by decide)]; exact (h.f9 (Dn.set_back (by decide) h0))
          o9 := fun h0 => (h.o9 (Dn.set_back (by decide) h0))
          f10 := fun h0 => by rw [Vs.upd_ne _ _ (by decide)]; exact (h.f10 (Dn.set_back (by decide) h0))
          o10 := fun h0 => (h.o10 (Dn.set_back (by decide) h0))
          f11 := fun h0 => by rw [Vs.upd_ne _ _ (by decide)]; exact (h.f11 (Dn.set_back (by decide) h0))
          o11 := fun h0 => (h.o11 (Dn.set_back (by decide) h0))
          pq := fun h0 h1 => (h.pq (Dn.set_back (by decide) h0) (Dn.set_back (by decide) h1))
          z12 := fun h0 h1 => (h.z12 (Dn.set_back (by decide) h0) (Dn.set_back' (by decide) h1))
          z13 := fun h0 h1 => (h.z13 (Dn.set_back (by decide) h0) (Dn.set_back' (by decide) h1))
          f12 := fun h0 => (h.f12 (Dn.set_back (by decide) h0))
          f13 := fun h0 => (h.f13 (Dn.set_back (by decide) h0))
          c12 := fun h0 => ⟨by rw [Dn.set]; simp [(h.c12 (Dn.set_back (by decide) h0)).1], by rw [Dn.set]; simp [(h.c12 (Dn.set_back (by decide) h0)).2]⟩
          c13 := fun h0 => ⟨by rw [Dn.set]; simp [(h.c13 (Dn.set_back (by decide) h0)).1], by rw [Dn.set]; simp [(h.c13 (Dn.set_back (by decide) h0)).2]⟩ }
theorem J6.s6 {W6 : World} {t : Tv} {me fr : Int} {a : Option Addr} {n cap : Nat} {a5 : Option Addr} {m5 c5 : Nat} {Y1 Y2 : Tb} {d : Dn} {vs : Vs} {r1 : Tv} {r2 : Tv} {p : Nat} {q : Nat} {w : World} (h : J6 W6 t me fr a n cap a5 m5 c5 Y1 Y2 d vs r1 r2 p q w) (hd : d 6 = false)  : J6 W6 t me fr a n cap a5 m5 c5 Y1 Y2 (d.set 6) (vs.upd 6 (.int .i64 me)) r1 r2 p q (w) := by
  exact { b := h.b
          f0 := fun h0 => by rw [Vs.upd_ne _ _ (by decide)]; exact (h.f0 (Dn.set_back (by decide) h0))
          f5 := fun h0 => by rw [Vs.upd_ne _ _ (by decide)]; exact (h.f5 (Dn.set_back (by decide) h0))
          f1 := fun h0 => by rw [Vs.upd_ne _ _ (by decide)]; exact (h.f1 (Dn.set_back (by decide) h0))
          f6 := fun h0 => Vs.upd_same _ _ _
          f2 := fun h0 => by rw [Vs.upd_ne _ _ (by decide)]; exact (h.f2 (Dn.set_back (by decide) h0))
          f7 := fun h0 => by rw [Vs.upd_ne _ _ (by decide)]; exact (h.f7 (Dn.set_back (by decide) h0))
          f3 := fun h0 => by rw [Vs.upd_ne _ _ (by decide)]; exact (h.f3 (Dn.set_back (by decide) h0))
          f8 := fun h0 => by rw [Vs.upd_ne _ _ (by decide)]; exact (h.f8 (Dn.set_back (by decide) h0))
          f4 := fun h0 => by rw [Vs.upd_ne _ _ (by decide)]; exact (h.f4 (Dn.set_back (by decide) h0))
          o4 := fun h0 => (h.o4 (Dn.set_back (by decide) h0))
          f9 := fun h0 => by rw [Vs.upd_ne _ _ (by decide)]; exact (h.f9 (Dn.set_back (by decide) h0))
          o9 := fun h0 => (h.o9 (Dn.set_back (by decide) h0))
          f10 := fun h0 => by rw [Vs.upd_ne _ _ (by decide)]; exact (h.f10 (Dn.set_back (by decide) h0))
          o10 := fun h0 => (h.o10 (Dn.set_back (by decide) h0))
          f11 := fun h0 => by rw [Vs.upd_ne _ _ (by decide)]; exact (h.f11 (Dn.set_back (by decide) h0))
          o11 := fun h0 => (h.o11 (Dn.set_back (by decide) h0))
          pq := fun h0 h1 => (h.pq (Dn.set_back (by decide) h0) (Dn.set_back (by decide) h1))
          z12 := fun h0 h1 => (h.z12 (Dn.set_back (by decide) h0) (Dn.set_back' (by decide) h1))
          z13 := fun h0 h1 => (h.z13 (Dn.set_back (by decide) h0) (Dn.set_back' (by decide) h1))
          f12 := fun h0 => (h.f12 (Dn.set_back (by decide) h0))
          f13 := fun h0 => (h.f13 (Dn.set_back (by decide) h0))
          c12 := fun h0 => ⟨by rw [Dn.set]; simp [(h.c12 (Dn.set_back (by decide) h0)).1], by rw [Dn.set]; simp [(h.c12 (Dn.set_back (by decide) h0)).2]⟩
          c13 := fun h0 => ⟨by rw [Dn.set]; simp [(h.c13 (Dn.set_back (by decide) h0)).1], by rw [Dn.set]; simp [(h.c13 (Dn.set_back (by decide) h0)).2]⟩ }
theorem J6.s2 {W6 : World} {t : Tv} {me fr : Int} {a : Option Addr} {n cap : Nat} {a5 : Option Addr} {m5 c5 : Nat} {Y1 Y2 : Tb} {d : Dn} {vs : Vs} {r1 : Tv} {r2 : Tv} {p : Nat} {q : Nat} {w : World} (h : J6 W6 t me fr a n cap a5 m5 c5 Y1 Y2 d vs r1 r2 p q w) (hd : d 2 = false)  : J6 W6 t me fr a n cap a5 m5 c5 Y1 Y2 (d.set 2) (vs.upd 2 (.slice a n cap)) r1 r2 p q (w) := by
  exact { b := h.b
          f0 := fun h0 => by rw [Vs.upd_ne _ _ (by decide)]; exact (h.f0 (Dn.set_back (by decide) h0))
          f5 := fun h0 => by rw [Vs.upd_ne _ _ (by decide)]; exact (h.f5 (Dn.set_back (by decide) h0))
          f1 := fun h0 => by rw [Vs.upd_ne _ _ (by decide)]; exact (h.f1 (Dn.set_back (by decide) h0))
          f6 := fun h0 => by rw [Vs.upd_ne _ _ (by decide)]; exact (h.f6 (Dn.set_back (by decide) h0))
          f2 := fun h0 => Vs.upd_same _ _ _
          f7 := fun h0 => by rw [Vs.upd_ne _ _ (by decide)]; exact (h.f7 (Dn.set_back (by decide) h0))
          f3 := fun h0 => by rw [Vs.upd_ne _ _ (by decide)]; exact (h.f3 (Dn.set_back (by decide) h0))
          f8 := fun h0 => by rw [Vs.upd_ne _ _ (by decide)]; exact (h.f8 (Dn.set_back (by decide) h0))
          f4 := fun h0 => by rw [Vs.upd_ne _ _ (by decide)]; exact (h.f4 (Dn.set_back (by decide) h0))
          o4 := fun h0 => (h.o4 (Dn.set_back (by decide) h0))
          f9 := fun h0 => by rw [Vs.upd_ne _ _ (by decide)]; exact (h.f9 (Dn.set_back (by decide) h0))
          o9 := fun h0 => (h.o9 (Dn.set_back (by decide) h0))
          f10 := fun h0 => by rw [Vs.upd_ne _ _ (by decide)]; exact (h.f10 (Dn.set_back (by decide) h0))
          o10 := fun h0 => (h.o10 (Dn.set_back (by decide) h0))
          f11 := fun h0 => by rw [Vs.upd_ne _ _ (by decide)]; exact (h.f11 (Dn.set_back (by decide) h0))
          o11 := fun h0 => (h.o11 (Dn.set_back (by decide) h0))
          pq := fun h0 h1 => (h.pq (Dn.set_back (by decide) h0) (Dn.set_back (by decide) h1))
          z12 := fun h0 h1 => (h.z12 (Dn.set_back (by decide) h0) (Dn.set_back' (by decide) h1))
          z13 := fun h0 h1 => (h.z13 (Dn.set_back (by decide) h0) (Dn.set_back' (by decide) h1))
          f12 := fun h0 => (h.f12 (Dn.set_back (by decide) h0))
          f13 := fun h0 => (h.f13 (Dn.set_back (by decide) h0))
          c12 := fun h0 => ⟨by rw [Dn.set]; simp [(h.c12 (Dn.set_back (by decide) h0)).1], by rw [Dn.set]; simp [(h.c12 (Dn.set_back (by decide) h0)).2]⟩
          c13 := fun h0 => ⟨by rw [Dn.set]; simp [(h.c13 (Dn.set_back (by decide) h0)).1], by rw [Dn.set]; simp [(h.c13 (Dn.set_back (by decide) h0)).2]⟩ }
theorem J6.s7 {W6 : World} {t : Tv} {me fr : Int} {a : Option Addr} {n cap : Nat} {a5 : Option Addr} {m5 c5 : Nat} {Y1 Y2 : Tb} {d : Dn} {vs : Vs} {r1 : Tv} {r2 : Tv} {p : Nat} {q : Nat} {w : World} (h : J6 W6 t me fr a n cap a5 m5 c5 Y1 Y2 d vs r1 r2 p q w) (hd : d 7 = false)  : J6 W6 t me fr a n cap a5 m5 c5 Y1 Y2 (d.set 7) (vs.upd 7 (.slice a5 m5 c5)) r1 r2 p q (w) := by
  exact { b := h.b
          f0 := fun h0 => by rw [Vs.upd_ne _ _ (by decide)]; exact (h.f0 (Dn.set_back (by decide) h0))
          f5 := fun h0 => by rw [Vs.upd_ne _ _ (by decide)]; exact (h.f5 (Dn.set_back (by decide) h0))
          f1 := fun h0 => by rw [Vs.upd_ne _ _ (by decide)]; exact (h.f1 (Dn.set_back (by decide) h0))
          f6 := fun h0 => by rw [Vs.upd_ne _ _ (by decide)]; exact (h.f6 (Dn.set_back (by decide) h0))
          f2 := fun h0 => by rw [Vs.upd_ne _ _ (by decide)]; exact (h.f2 (Dn.set_back (by decide) h0))
          f7 := fun h0 => Vs.upd_same _ _ _
          f3 := fun h0 => by rw [Vs.upd_ne _ _ (by decide)]; exact (h.f3 (Dn.set_back (by decide) h0))
          f8 := fun h0 => by rw [Vs.upd_ne _ _ (by decide)]; exact (h.f8 (Dn.set_back (by decide) h0))
          f4 := fun h0 => by rw [Vs.upd_ne _ _ (by decide)]; exact (h.f4 (Dn.set_back (by decide) h0))
          o4 := fun h0 => (h.o4 (Dn.set_back (by decide) h0))
          f9 := fun h0 => by rw [Vs.upd_ne _ _ (by decide)]; exact (h.f9 (Dn.set_back (by decide) h0))
          o9 := fun h0 => (h.o9 (Dn.set_back (by decide) h0))
          f10 := fun h0 => by rw [Vs.upd_ne _ _ (by decide)]; exact (h.f10 (Dn.set_back (by decide) h0))
          o10 := fun h0 => (h.o10 (Dn.set_back (by decide) h0))
          f11 := fun h0 => by rw [Vs.upd_ne _ _ (by decide)]; exact (h.f11 (Dn.set_back (by decide) h0))
          o11 := fun h0 => (h.o11 (Dn.set_back (by decide) h0))
          pq := fun h0 h1 => (h.pq (Dn.set_back (by decide) h0) (Dn.set_back (by decide) h1))
          z12 := fun h0 h1 => (h.z12 (Dn.set_back (by decide) h0) (Dn.set_back' (by decide) h1))
          z13 := fun h0 h1 => (h.z13 (Dn.set_back (by decide) h0) (Dn.set_back' (by decide) h1))
          f12 := fun h0 => (h.f12 (Dn.set_back (by decide) h0))
          f13 := fun h0 => (h.f13 (Dn.set_back (by decide) h0))
          c12 := fun h0 => ⟨by rw [Dn.set]; simp [(h.c12 (Dn.set_back (by decide) h0)).1], by rw [Dn.set]; simp [(h.c12 (Dn.set_back (by decide) h0)).2]⟩
          c13 := fun h0 => ⟨by rw [Dn.set]; simp [(h.c13 (Dn.set_back (by decide) h0)).1], by rw [Dn.set]; simp [(h.c13 (Dn.set_back (by decide) h0)).2]⟩ }
theorem J6.s3 {W6 : World} {t : Tv} {me fr : Int} {a : Option Addr} {n cap : Nat} {a5 : Option Addr} {m5 c5 : Nat} {Y1 Y2 : Tb} {d : Dn} {vs : Vs} {r1 : Tv} {r2 : Tv} {p : Nat} {q : Nat} {w : World} (h : J6 W6 t me fr a n cap a5 m5 c5 Y1 Y2 d vs r1 r2 p q w) (hd : d 3 = false)  : J6 W6 t me fr a n cap a5 m5 c5 Y1 Y2 (d.set 3) (vs.upd 3 (.int .i64 fr)) r1 r2 p q (w) := by
  exact { b := h.b
          f0 := fun h0 => by rw [Vs.upd_ne _ _ (by decide)]; exact (h.f0 (Dn.set_back (by decide) h0))
          f5 := fun h0 => by rw [Vs.upd_ne _ _ (by decide)]; exact (h.f5 (Dn.set_back (by decide) h0))
          f1 := fun h0 => by rw [Vs.upd_ne _ _ (by decide)]; exact (h.f1 (Dn.set_back (by decide) h0))
          f6 := fun h0 => by rw [Vs.upd_ne _ _ (by decide)]; exact (h.f6 (Dn.set_back (by decide) h0))
          f2 := fun h0 => by rw [Vs.upd_ne _ _ (by decide)]; exact (h.f2 (Dn.set_back (by decide) h0))
          f7 := fun h0 => by rw [Vs.upd_ne _ _ (by decide)]; exact (h.f7 (Dn.set_back (by decide) h0))
          f3 := fun h0 => Vs.upd_same _ _ _
          f8 := fun h0 => by rw [Vs.upd_ne _ _ (by decide)]; exact (h.f8 (Dn.set_back (by decide) h0))
          f4 := fun h0 => by rw [Vs.upd_ne _ _ (by decide)]; exact (h.f4 (Dn.set_back (by decide) h0))
          o4 := fun h0 => (h.o4 (Dn.set_back (by decide) h0))
          f9 := fun h0 => by rw [Vs.upd_ne _ _ (by decide)]; exact (h.f9 (Dn.set_back (by decide) h0))
          o9 := fun h0 => (h.o9 (Dn.set_back (by decide) h0))
          f10 := fun h0 => by rw [Vs.upd_ne _ _ (by decide)]; exact (h.f10 (Dn.set_back (by decide) h0))
          o10 := fun h0 => (h.o10 (Dn.set_back (by decide) h0))
          f11 := fun h0 => by rw [Vs.upd_ne _ _ (by decide)]; exact (h.f11 (Dn.set_back (by decide) h0))
          o11 := fun h0 => (h.o11 (Dn.set_back (by decide) h0))
          pq := fun h0 h1 => (h.pq (Dn.set_back (by decide) h0) (Dn.set_back (by decide) h1))
          z12 := fun h0 h1 => (h.z12 (Dn.set_back (by decide) h0) (Dn.set_back' (by decide) h1))
          z13 := fun h0 h1 => (h.z13 (Dn.set_back (by decide) h0) (Dn.set_back' (by decide) h1))
          f12 := fun h0 => (h.f12 (Dn.set_back (by decide) h0))
          f13 := fun h0 => (h.f13 (Dn.set_back (by decide) h0))
          c12 := fun h0 => ⟨by rw [Dn.set]; simp [(h.c12 (Dn.set_back (by decide) h0)).1], by rw [Dn.set]; simp [(h.c12 (Dn.set_back (by decide) h0)).2]⟩
          c13 := fun h0 => ⟨by rw [Dn.set]; simp [(h.c13 (Dn.set_back (by decide) h0)).1], by rw [Dn.set]; simp [(h.c13 (Dn.set_back (by decide) h0)).2]⟩ }
theorem J6.s8 {W6 : World} {t : Tv} {me fr : Int} {a : Option Addr} {n cap : Nat} {a5 : Option Addr} {m5 c5 : Nat} {Y1 Y2 : Tb} {d : Dn} {vs : Vs} {r1 : Tv} {r2 : Tv} {p : Nat} {q : Nat} {w : World} (h : J6 W6 t me fr a n cap a5 m5 c5 Y1 Y2 d vs r1 r2 p q w) (hd : d 8 = false)  : J6 W6 t me fr a n cap a5 m5 c5 Y1 Y2 (d.set 8) (vs.upd 8 (.int .i64 fr)) r1 r2 p q (w) := by
  exact { b := h.b
          f0 := fun h0 => by rw [Vs.upd_ne _ _ (by decide)]; exact (h.f0 (Dn.set_back (by decide) h0))
          f5 := fun h0 => by rw [Vs.upd_ne _ _ (by decide)]; exact (h.f5 (Dn.set_back (by decide) h0))
          f1 := fun h0 => by rw [Vs.upd_ne _ _ (by decide)]; exact (h.f1 (Dn.set_back (by decide) h0))
          f6 := fun h0 => by rw [Vs.upd_ne _ _ (by decide)]; exact (h.f6 (Dn.set_back (by decide) h0))
          f2 := fun h0 => by rw [Vs.upd_ne _ _ (by decide)]; exact (h.f2 (Dn.set_back (by decide) h0))
          f7 := fun h0 => by rw [Vs.upd_ne _ _ (by decide)]; exact (h.f7 (Dn.set_back (by decide) h0))
          f3 := fun h0 => by rw [Vs.upd_ne _ _ (by decide)]; exact (h.f3 (Dn.set_back (by decide) h0))
          f8 := fun h0 => Vs.upd_same _ _ _
          f4 := fun h0 => by rw [Vs.upd_ne _ _ (by decide)]; exact (h.f4 (Dn.set_back (by decide) h0))
          o4 := fun h0 => (h.o4 (Dn.set_back (by decide) h0))
          f9 := fun h0 => by rw [Vs.upd_ne _ _ (by decide)]; exact (h.f9 (Dn.set_back (by decide) h0))
          o9 := fun h0 => (h.o9 (Dn.set_back (by decide) h0))
          f10 := fun h0 => by rw [Vs.upd_ne _ _ (by decide)]; exact (h.f10 (Dn.set_back (by decide) h0))
          o10 := fun h0 => (h.o10 (Dn.set_back (by decide) h0))
          f11 := fun h0 => by rw [Vs.upd_ne _ _ (by decide)]; exact (h.f11 (Dn.set_back (by decide) h0))
          o11 := fun h0 => (h.o11 (Dn.set_back (by decide) h0))
          pq := fun h0 h1 => (h.pq (Dn.set_back (by decide) h0) (Dn.set_back (by decide) h1))
          z12 := fun h0 h1 => (h.z12 (Dn.set_back (by decide) h0) (Dn.set_back' (by decide) h1))
          z13 := fun h0 h1 => (h.z13 (Dn.set_back (by decide) h0) (Dn.set_back' (by decide) h1))
          f12 := fun h0 => (h.f12 (Dn.set_back (by decide) h0))
          f13 := fun h0 => (h.f13 (Dn.set_back (by decide) h0))
          c12 := fun h0 => ⟨by rw [Dn.set]; simp [(h.c12 (Dn.set_back (by decide) h0)).1], by rw [Dn.set]; simp [(h.c12 (Dn.set_back (by decide) h0)).2]⟩
          c13 := fun h0 => ⟨by rw [Dn.set]; simp [(h.c13 (Dn.set_back (by decide) h0)).1], by rw [Dn.set]; simp [(h.c13 (Dn.set_back (by decide) h0)).2]⟩ }
theorem J6.s4 {W6 : World} {t : Tv} {me fr : Int} {a : Option Addr} {n cap : Nat} {a5 : Option Addr} {m5 c5 : Nat} {Y1 Y2 : Tb} {d : Dn} {vs : Vs} {r1 : Tv} {r2 : Tv} {p : Nat} {q : Nat} {w : World} (h : J6 W6 t me fr a n cap a5 m5 c5 Y1 Y2 d vs r1 r2 p q w) (hd : d 4 = false) {r : Tv} (hr : r.ok w) (ht : r.T = Y1) : J6 W6 t me fr a n cap a5 m5 c5 Y1 Y2 (d.set 4) (vs.upd 4 (r.v)) (r) r2 p q (w) := by
  exact { b := h.b
          f0 := fun h0 => by rw [Vs.upd_ne _ _ (by decide)]; exact (h.f0 (Dn.set_back (by decide) h0))
          f5 := fun h0 => by rw [Vs.upd_ne _ _ (by decide)]; exact (h.f5 (Dn.set_back (by decide) h0))
          f1 := fun h0 => by rw [Vs.upd_ne _ _ (by decide)]; exact (h.f1 (Dn.set_back (by decide) h0))
          f6 := fun h0 => by rw [Vs.upd_ne _ _ (by decide)]; exact (h.f6 (Dn.set_back (by decide) h0))
          f2 := fun h0 => by rw [Vs.upd_ne _ _ (by decide)]; exact (h.f2 (Dn.set_back (by decide) h0))
          f7 := fun h0 => by rw [Vs.upd_ne _ _ (by decide)]; exact (h.f7 (Dn.set_back (by decide) h0))
          f3 := fun h0 => by rw [Vs.upd_ne _ _ (by decide)]; exact (h.f3 (Dn.set_back (by decide) h0))
          f8 := fun h0 => by rw [Vs.upd_ne _ _ (by decide)]; exact (h.f8 (Dn.set_back (by decide) h0))
          f4 := fun h0 => Vs.upd_same _ _ _
          o4 := fun h0 => ⟨hr, ht⟩
          f9 := fun h0 => by rw [Vs.upd_ne _ _ (by decide)]; exact (h.f9 (Dn.set_back (by decide) h0))
          o9 := fun h0 => (h.o9 (Dn.set_back (by decide) h0))
          f10 := fun h0 => by rw [Vs.upd_ne _ _ (by decide)]; exact (h.f10 (Dn.set_back (by decide) h0))
          o10 := fun h0 => (h.o10 (Dn.set_back (by decide) h0))
          f11 := fun h0 => by rw [Vs.upd_ne _ _ (by decide)]; exact (h.f11 (Dn.set_back (by decide) h0))
          o11 := fun h0 => (h.o11 (Dn.set_back (by decide) h0))
          pq := fun h0 h1 => (h.pq (Dn.set_back (by decide) h0) (Dn.set_back (by decide) h1))
          z12 := fun h0 h1 => (h.z12 (Dn.set_back (by decide) h0) (Dn.set_back' (by decide) h1))
          z13 := fun h0 h1 => (h.z13 (Dn.set_back (by decide) h0) (Dn.set_back' (by decide) h1))
          f12 := fun h0 => absurd (h.c12 (Dn.set_back (by decide) h0)).1 (by rw [hd]; simp)
          f13 := fun h0 => (h.f13 (Dn.set_back (by decide) h0))
          c12 := fun h0 => ⟨by rw [Dn.set]; simp [(h.c12 (Dn.set_back (by decide) h0)).1], by rw [Dn.set]; simp [(h.c12 (Dn.set_back (by decide) h0)).2]⟩
          c13 := fun h0 => ⟨by rw [Dn.set]; simp [(h.c13 (Dn.set_back (by decide) h0)).1], by rw [Dn.set]; simp [(h.c13 (Dn.set_back (by decide) h0)).2]⟩ }
theorem J6.s9 {W6 : World} {t : Tv} {me fr : Int} {a : Option Addr} {n cap : Nat} {a5 : Option Addr} {m5 c5 : Nat} {Y1 Y2 : Tb} {d : Dn} {vs : Vs} {r1 : Tv} {r2 : Tv} {p : Nat} {q : Nat} {w : World} (h : J6 W6 t me fr a n cap a5 m5 c5 Y1 Y2 d vs r1 r2 p q w) (hd : d 9 = false) {r : Tv} (hr : r.ok w) (ht : r.T = Y2) : J6 W6 t me fr a n cap a5 m5 c5 Y1 Y2 (d.set 9) (vs.upd 9 (r.v)) r1 (r) p q (w) := by
  exact { b := h.b
          f0 := fun h0 => by rw [Vs.upd_ne _ _ (by decide)]; exact (h.f0 (Dn.set_back (by decide) h0))
          f5 := fun h0 => by rw [Vs.upd_ne _ _ (by decide)]; exact (h.f5 (Dn.set_back (by decide) h0))
          f1 := fun h0 => by rw [Vs.upd_ne _ _ (by decide)]; exact (h.f1 (Dn.set_back (by decide) h0))
          f6 := fun h0 => by rw [Vs.upd_ne _ _ (by decide)]; exact (h.f6 (Dn.set_back (by decide) h0))
          f2 := fun h0 => by rw [Vs.upd_ne _ _ (by decide)]; exact (h.f2 (Dn.set_back (by decide) h0))
          f7 := fun h0 => by rw [Vs.upd_ne _ _ (by decide)]; exact (h.f7 (Dn.set_back (by decide) h0))
          f3 := fun h0 => by rw [Vs.upd_ne _ _ (by decide)]; exact (h.f3 (Dn.set_back (by decide) h0))
          f8 := fun h0 => by rw [Vs.upd_ne _ _ (by decide)]; exact (h.f8 (Dn.set_back (by decide) h0))
          f4 := fun h0 => by rw [Vs.upd_ne _ _ (by decide)]; exact (h.f4 (Dn.set_back (by decide) h0))
          o4 := fun h0 => (h.o4 (Dn.set_back (by decide) h0))
          f9 := fun h0 => Vs.upd_same _ _ _
          o9 := fun h0 => ⟨hr, ht⟩
          f10 := fun h0 => by rw [Vs.upd_ne _ _ (by decide)]; exact (h.f10 (Dn.set_back (by decide) h0))
          o10 := fun h0 => (h.o10 (Dn.set_back (by decide) h0))
          f11 := fun h0 => by rw [Vs.upd_ne _ _ (by decide)]; exact (h.f11 (Dn.set_back (by decide) h0))
          o11 := fun h0 => (h.o11 (Dn.set_back (by decide) h0))
          pq := fun h0 h1 => (h.pq (Dn.set_back (by decide) h0) (Dn.set_back (by decide) h1))
          z12 := fun h0 h1 => (h.z12 (Dn.set_back (by decide) h0) (Dn.set_back' (by decide) h1))
          z13 := fun h0 h1 => (h.z13 (Dn.set_back (by decide) h0) (Dn.set_back' (by decide) h1))
          f12 := fun h0 => (h.f12 (Dn.set_back (by decide) h0))
          f13 := fun h0 => absurd (h.c13 (Dn.set_back (by decide) h0)).1 (by rw [hd]; simp)
          c12 := fun h0 => ⟨by rw [Dn.set]; simp [(h.c12 (Dn.set_back (by decide) h0)).1], by rw [Dn.set]; simp [(h.c12 (Dn.set_back (by decide) h0)).2]⟩
          c13 := fun h0 => ⟨by rw [Dn.set]; simp [(h.c13 (Dn.set_back (by decide) h0)).1], by rw [Dn.set]; simp [(h.c13 (Dn.set_back (by decide) h0)).2]⟩ }
theorem J6.s10 {W6 : World} {t : Tv} {me fr : Int} {a : Option Addr} {n cap : Nat} {a5 : Option Addr} {m5 c5 : Nat} {Y1 Y2 : Tb} {d : Dn} {vs : Vs} {r1 : Tv} {r2 : Tv} {p : Nat} {q : Nat} {w : World} (h : J6 W6 t me fr a n cap a5 m5 c5 Y1 Y2 d vs r1 r2 p q w) (hd : d 10 = false)  : J6 W6 t me fr a n cap a5 m5 c5 Y1 Y2 (d.set 10) (vs.upd 10 (.pointer (some ⟨w.heap.size, 0, none⟩))) r1 r2 (w.heap.size) q (w.alloc (.cells #[.slice none 0 0, .slice none 0 0, .slice none 0 0] 26)) := by
  have hb : Below w.heap.size w (w.alloc (.cells #[.slice none 0 0, .slice none 0 0, .slice none 0 0] 26)) := ball (Below.refl _ _) _
  exact { b := bstep h.b hb
          f0 := fun h0 => by rw [Vs.upd_ne _ _ (by decide)]; exact (h.f0 (Dn.set_back (by decide) h0))
          f5 := fun h0 => by rw [Vs.upd_ne _ _ (by decide)]; exact (h.f5 (Dn.set_back (by decide) h0))
          f1 := fun h0 => by rw [Vs.upd_ne _ _ (by decide)]; exact (h.f1 (Dn.set_back (by decide) h0))
          f6 := fun h0 => by rw [Vs.upd_ne _ _ (by decide)]; exact (h.f6 (Dn.set_back (by decide) h0))
          f2 := fun h0 => by rw [Vs.upd_ne _ _ (by decide)]; exact (h.f2 (Dn.set_back (by decide) h0))
          f7 := fun h0 => by rw [Vs.upd_ne _ _ (by decide)]; exact (h.f7 (Dn.set_back (by decide) h0))
          f3 := fun h0 => by rw [Vs.upd_ne _ _ (by decide)]; exact (h.f3 (Dn.set_back (by decide) h0))
          f8 := fun h0 => by rw [Vs.upd_ne _ _ (by decide)]; exact (h.f8 (Dn.set_back (by decide) h0))
          f4 := fun h0 => by rw [Vs.upd_ne _ _ (by decide)]; exact (h.f4 (Dn.set_back (by decide) h0))
          o4 := fun h0 => ⟨(h.o4 (Dn.set_back (by decide) h0)).1.keep hb, (h.o4 (Dn.set_back (by decide) h0)).2⟩
          f9 := fun h0 => by rw [Vs.upd_ne _ _ (by decide)]; exact (h.f9 (Dn.set_back (by decide) h0))
          o9 := fun h0 => ⟨(h.o9 (Dn.set_back (by decide) h0)).1.keep hb, (h.o9 (Dn.set_back (by decide) h0)).2⟩
          f10 := fun h0 => Vs.upd_same _ _ _
          o10 := fun h0 => ⟨h.b.size, Bx.new w N3 26 sl3, Fz.new w _ 26⟩
          f11 := fun h0 => by rw [Vs.upd_ne _ _ (by decide)]; exact (h.f11 (Dn.set_back (by decide) h0))
          o11 := fun h0 => ⟨(h.o11 (Dn.set_back (by decide) h0)).1, (h.o11 (Dn.set_back (by decide) h0)).2.1.keep hb, (h.o11 (Dn.set_back (by decide) h0)).2.2.keep hb⟩
          pq := fun h0 h1 => fun e => absurd (h.o11 (Dn.set_back (by decide) h1)).2.2.2 (by rw [← e]; exact Nat.lt_irrefl _)
          z12 := fun h0 h1 => CAt.new w N3 26
          z13 := fun h0 h1 => (h.z13 (Dn.set_back (by decide) h0) (Dn.set_back' (by decide) h1)).keep hb
          f12 := fun h0 => absurd (h.c12 (Dn.set_back (by decide) h0)).2 (by rw [hd]; simp)
          f13 := fun h0 => (h.f13 (Dn.set_back (by decide) h0)).keep hb
          c12 := fun h0 => ⟨by rw [Dn.set]; simp [(h.c12 (Dn.set_back (by decide) h0)).1], by rw [Dn.set]; simp [(h.c12 (Dn.set_back (by decide) h0)).2]⟩
          c13 := fun h0 => ⟨by rw [Dn.set]; simp [(h.c13 (Dn.set_back (by decide) h0)).1], by rw [Dn.set]; simp [(h.c13 (Dn.set_back (by decide) h0)).2]⟩ }
theorem J6.s11 {W6 : World} {t : Tv} {me fr : Int} {a : Option Addr} {n cap : Nat} {a5 : Option Addr} {m5 c5 : Nat} {Y1 Y2 : Tb} {d : Dn} {vs : Vs} {r1 : Tv} {r2 : Tv} {p : Nat} {q : Nat} {w : World} (h : J6 W6 t me fr a n cap a5 m5 c5 Y1 Y2 d vs r1 r2 p q w) (hd : d 11 = false)  : J6 W6 t me fr a n cap a5 m5 c5 Y1 Y2 (d.set 11) (vs.upd 11 (.pointer (some ⟨w.heap.size, 0, none⟩))) r1 r2 p (w.heap.size) (w.alloc (.cells #[.slice none 0 0, .slice none 0 0, .slice none 0 0] 26)) := by
  have hb : Below w.heap.size w (w.alloc (.cells #[.slice none 0 0, .slice none 0 0, .slice none 0 0] 26)) := ball (Below.refl _ _) _
  exact { b := bstep h.b hb
          f0 := fun h0 => by rw [Vs.upd_ne _ _ (by decide)]; exact (h.f0 (Dn.set_back (by decide) h0))
          f5 := fun h0 => by rw [Vs.upd_ne _ _ (by decide)]; exact (h.f5 (Dn.set_back (by decide) h0))
          f1 := fun h0 => by rw [Vs.upd_ne _ _ (by decide)]; exact (h.f1 (Dn.set_back (by decide) h0))
          f6 := fun h0 => by rw [Vs.upd_ne _ _ (by decide)]; exact (h.f6 (Dn.set_back (by decide) h0))
          f2 := fun h0 => by rw [Vs.upd_ne _ _ (by decide)]; exact (h.f2 (Dn.set_back (by decide) h0))
          f7 := fun h0 => by rw [Vs.upd_ne _ _ (by decide)]; exact (h.f7 (Dn.set_back (by decide) h0))
          f3 := fun h0 => by rw [Vs.upd_ne _ _ (by decide)]; exact (h.f3 (Dn.set_back (by decide) h0))
          f8 := fun h0 => by rw [Vs.upd_ne _ _ (by decide)]; exact (h.f8 (Dn.set_back (by decide) h0))
          f4 := fun h0 => by rw [Vs.upd_ne _ _ (by decide)]; exact (h.f4 (Dn.set_back (by decide) h0))
          o4 := fun h0 => ⟨(h.o4 (Dn.set_back (by decide) h0)).1.keep hb, (h.o4 (Dn.set_back (by decide) h0)).2⟩
          f9 := fun h0 => by rw [Vs.upd_ne _ _ (by decide)]; exact (h.f9 (Dn.set_back (by decide) h0))
          o9 := fun h0 => ⟨(h.o9 (Dn.set_back (by decide) h0)).1.keep hb, (h.o9 (Dn.set_back (by decide) h0)).2⟩
          f10 := fun h0 => by rw [Vs.upd_ne _ _ (by decide)]; exact (h.f10 (Dn.set_back (by decide) h0))
          o10 := fun h0 => ⟨(h.o10 (Dn.set_back (by decide) h0)).1, (h.o10 (Dn.set_back (by decide) h0)).2.1.keep hb, (h.o10 (Dn.set_back (by decide) h0)).2.2.keep hb⟩
          f11 := fun h0 => Vs.upd_same _ _ _
          o11 := fun h0 => ⟨h.b.size, Bx.new w N3 26 sl3, Fz.new w _ 26⟩
          pq := fun h0 h1 => fun e => absurd (h.o10 (Dn.set_back (by decide) h0)).2.2.2 (by rw [e]; exact Nat.lt_irrefl _)
          z12 := fun h0 h1 => (h.z12 (Dn.set_back (by decide) h0) (Dn.set_back' (by decide) h1)).keep hb
          z13 := fun h0 h1 => CAt.new w N3 26
          f12 := fun h0 => (h.f12 (Dn.set_back (by decide) h0)).keep hb
          f13 := fun h0 => absurd (h.c13 (Dn.set_back (by decide) h0)).2 (by rw [hd]; simp)
          c12 := fun h0 => ⟨by rw [Dn.set]; simp [(h.c12 (Dn.set_back (by decide) h0)).1], by rw [Dn.set]; simp [(h.c12 (Dn.set_back (by decide) h0)).2]⟩
          c13 := fun h0 => ⟨by rw [Dn.set]; simp [(h.c13 (Dn.set_back (by decide) h0)).1], by rw [Dn.set]; simp [(h.c13 (Dn.set_back (by decide) h0)).2]⟩ }
theorem bx3 {w : World} {k j : Nat} {a1 a2 a3 : Option Addr} {n1 n2 n3 c1 c2 c3 : Nat} (h : Bx w j) : Bx (((w.setCell ⟨k, 0, none⟩ (.slice a1 n1 c1)).setCell ⟨k, 1, none⟩ (.slice a2 n2 c2)).setCell ⟨k, 2, none⟩ (.slice a3 n3 c3)) j :=
  ((h.set _ _ ⟨_, _, _, rfl⟩).set _ _ ⟨_, _, _, rfl⟩).set _ _ ⟨_, _, _, rfl⟩
theorem ok3 {r : Tv} {w : World} {k : Nat} {a1 a2 a3 : Option Addr} {n1 n2 n3 c1 c2 c3 : Nat} (h : r.ok w) (hx : Bx w k) : r.ok (((w.setCell ⟨k, 0, none⟩ (.slice a1 n1 c1)).setCell ⟨k, 1, none⟩ (.slice a2 n2 c2)).setCell ⟨k, 2, none⟩ (.slice a3 n3 c3)) :=
  ok_set (ok_set (ok_set h _ _ hx) _ _ (hx.set _ _ ⟨_, _, _, rfl⟩)) _ _ ((hx.set _ _ ⟨_, _, _, rfl⟩).set _ _ ⟨_, _, _, rfl⟩)
theorem J6.s12 {W6 : World} {t : Tv} {me fr : Int} {a : Option Addr} {n cap : Nat} {a5 : Option Addr} {m5 c5 : Nat} {Y1 Y2 : Tb} {d : Dn} {vs : Vs} {r1 : Tv} {r2 : Tv} {p : Nat} {q : Nat} {w : World} (h : J6 W6 t me fr a n cap a5 m5 c5 Y1 Y2 d vs r1 r2 p q w) (hd : d 12 = false) (h3 : d 4 = true) (h4 : d 10 = true) : J6 W6 t me fr a n cap a5 m5 c5 Y1 Y2 (d.set 12) (vs.upd 12 (undef)) r1 r2 p q (((w.setCell ⟨p, 0, none⟩ (.slice r1.ua r1.nu r1.uc)).setCell ⟨p, 1, none⟩ (.slice r1.ga r1.ng r1.gc)).setCell ⟨p, 2, none⟩ (.slice r1.aa r1.na r1.ac)) := by
  have hx := (h.o10 h4).2.1
  exact { b := bset (bset (bset h.b (h.o10 h4).1 _ _) (h.o10 h4).1 _ _) (h.o10 h4).1 _ _
          f0 := fun h0 => by rw [Vs.upd_ne _ _ (by decide)]; exact (h.f0 (Dn.set_back (by decide) h0))
          f5 := fun h0 => by rw [Vs.upd_ne _ _ (by decide)]; exact (h.f5 (Dn.set_back (by decide) h0))
          f1 := fun h0 => by rw [Vs.upd_ne _ _ (by decide)]; exact (h.f1 (Dn.set_back (by decide) h0))
          f6 := fun h0 => by rw [Vs.upd_ne _ _ (by decide)]; exact (h.f6 (Dn.set_back (by decide) h0))
          f2 := fun h0 => by rw [Vs.upd_ne _ _ (by decide)]; exact (h.f2 (Dn.set_back (by decide) h0))
          f7 := fun h0 => by rw [Vs.upd_ne _ _ (by decide)]; exact (h.f7 (Dn.set_back (by decide) h0))
          f3 := fun h0 => by rw [Vs.upd_ne _ _ (by decide)]; exact (h.f3 (Dn.set_back (by decide) h0))
          f8 := fun h0 => by rw [Vs.upd_ne _ _ (by decide)]; exact (h.f8 (Dn.set_back (by decide) h0))
          f4 := fun h0 => by rw [Vs.upd_ne _ _ (by decide)]; exact (h.f4 (Dn.set_back (by decide) h0))
          o4 := fun h0 => ⟨ok3 (h.o4 (Dn.set_back (by decide) h0)).1 hx, (h.o4 (Dn.set_back (by decide) h0)).2⟩
          f9 := fun h0 => by rw [Vs.upd_ne _ _ (by decide)]; exact (h.f9 (Dn.set_back (by decide) h0))
          o9 := fun h0 => ⟨ok3 (h.o9 (Dn.set_back (by decide) h0)).1 hx, (h.o9 (Dn.set_back (by decide) h0)).2⟩
          f10 := fun h0 => by rw [Vs.upd_ne _ _ (by decide)]; exact (h.f10 (Dn.set_back (by decide) h0))
          o10 := fun h0 => ⟨(h.o10 (Dn.set_back (by decide) h0)).1, bx3 (h.o10 (Dn.set_back (by decide) h0)).2.1, (((h.o10 (Dn.set_back (by decide) h0)).2.2.set _ _).set _ _).set _ _⟩
          f11 := fun h0 => by rw [Vs.upd_ne _ _ (by decide)]; exact (h.f11 (Dn.set_back (by decide) h0))
          o11 := fun h0 => ⟨(h.o11 (Dn.set_back (by decide) h0)).1, bx3 (h.o11 (Dn.set_back (by decide) h0)).2.1, (((h.o11 (Dn.set_back (by decide) h0)).2.2.set _ _).set _ _).set _ _⟩
          pq := fun h0 h1 => (h.pq (Dn.set_back (by decide) h0) (Dn.set_back (by decide) h1))
          z12 := fun h0 h1 => absurd (Dn.set_same d 12) (by rw [h1]; simp)
          z13 := fun h0 h1 => (((h.z13 (Dn.set_back (by decide) h0) (Dn.set_back' (by decide) h1)).other (h.pq h4 (Dn.set_back (by decide) h0)) _ _).other (h.pq h4 (Dn.set_back (by decide) h0)) _ _).other (h.pq h4 (Dn.set_back (by decide) h0)) _ _
          f12 := fun h0 => setB3 (h.z12 h4 hd)
          f13 := fun h0 => (((h.f13 (Dn.set_back (by decide) h0)).other (h.pq h4 (h.c13 (Dn.set_back (by decide) h0)).2) _ _).other (h.pq h4 (h.c13 (Dn.set_back (by decide) h0)).2) _ _).other (h.pq h4 (h.c13 (Dn.set_back (by decide) h0)).2) _ _
          c12 := fun h0 => ⟨by rw [Dn.set]; simp [h3], by rw [Dn.set]; simp [h4]⟩
          c13 := fun h0 => ⟨by rw [Dn.set]; simp [(h.c13 (Dn.set_back (by decide) h0)).1], by rw [Dn.set]; simp [(h.c13 (Dn.set_back (by decide) h0)).2]⟩ }
theorem J6.s13 {W6 : World} {t : Tv} {me fr : Int} {a : Option Addr} {n cap : Nat} {a5 : Option Addr} {m5 c5 : Nat} {Y1 Y2 : Tb} {d : Dn} {vs : Vs} {r1 : Tv} {r2 : Tv} {p : Nat} {q : Nat} {w : World} (h : J6 W6 t me fr a n cap a5 m5 c5 Y1 Y2 d vs r1 r2 p q w) (hd : d 13 = false) (h3 : d 9 = true) (h4 : d 11 = true) : J6 W6 t me fr a n cap a5 m5 c5 Y1 Y2 (d.set 13) (vs.upd 13 (undef)) r1 r2 p q (((w.setCell ⟨q, 0, none⟩ (.slice r2.ua r2.nu r2.uc)).setCell ⟨q, 1, none⟩ (.slice r2.ga r2.ng r2.gc)).setCell ⟨q, 2, none⟩ (.slice r2.aa r2.na r2.ac)) := by
  have hx := (h.o11 h4).2.1
  exact { b := bset (bset (bset h.b (h.o11 h4).1 _ _) (h.o11 h4).1 _ _) (h.o11 h4).1 _ _
          f0 := fun h0 => by rw [Vs.upd_ne _ _ (by decide)]; exact (h.f0 (Dn.set_back (by decide) h0))
          f5 := fun h0 => by rw [Vs.upd_ne _ _ (by decide)]; exact (h.f5 (Dn.set_back (by decide) h0))
          f1 := fun h0 => by rw [Vs.upd_ne _ _ (by decide)]; exact (h.f1 (Dn.set_back (by decide) h0))
          f6 := fun h0 => by rw [Vs.upd_ne _ _ (by decide)]; exact (h.f6 (Dn.set_back (by decide) h0))
          f2 := fun h0 => by rw [Vs.upd_ne _ _ (by decide)]; exact (h.f2 (Dn.set_back (by decide) h0))
          f7 := fun h0 => by rw [Vs.upd_ne _ _ (by decide)]; exact (h.f7 (Dn.set_back (by decide) h0))
          f3 := fun h0 => by rw [Vs.upd_ne _ _ (by decide)]; exact (h.f3 (Dn.set_back (by decide) h0))
          f8 := fun h0 => by rw [Vs.upd_ne _ _ (by decide)]; exact (h.f8 (Dn.set_back (by decide) h0))
          f4 := fun h0 => by rw [Vs.upd_ne _ _ (by decide)]; exact (h.f4 (Dn.set_back (by decide) h0))
          o4 := fun h0 => ⟨ok3 (h.o4 (Dn.set_back (by decide) h0)).1 hx, (h.o4 (Dn.set_back (by decide) h0)).2⟩
          f9 := fun h0 => by rw [Vs.upd_ne _ _ (by decide)]; exact (h.f9 (Dn.set_back (by decide) h0))
          o9 := fun h0 => ⟨ok3 (h.o9 (Dn.set_back (by decide) h0)).1 hx, (h.o9 (Dn.set_back (by decide) h0)).2⟩
          f10 := fun h0 => by rw [Vs.upd_ne _ _ (by decide)]; exact (h.f10 (Dn.set_back (by decide) h0))
          o10 := fun h0 => ⟨(h.o10 (Dn.set_back (by decide) h0)).1, bx3 (h.o10 (Dn.set_back (by decide) h0)).2.1, (((h.o10 (Dn.set_back (by decide) h0)).2.2.set _ _).set _ _).set _ _⟩
          f11 := fun h0 => by rw [Vs.upd_ne _ _ (by decide)]; exact (h.f11 (Dn.set_back (by decide) h0))
          o11 := fun h0 => ⟨(h.o11 (Dn.set_back (by decide) h0)).1, bx3 (h.o11 (Dn.set_back (by decide) h0)).2.1, (((h.o11 (Dn.set_back (by decide) h0)).2.2.set _ _).set _ _).set _ _⟩
          pq := fun h0 h1 => (h.pq (Dn.set_back (by decide) h0) (Dn.set_back (by decide) h1))
          z12 := fun h0 h1 => (((h.z12 (Dn.set_back (by decide) h0) (Dn.set_back' (by decide) h1)).other ((h.pq (Dn.set_back (by decide) h0) h4).symm) _ _).other ((h.pq (Dn.set_back (by decide) h0) h4).symm) _ _).other ((h.pq (Dn.set_back (by decide) h0) h4).symm) _ _
          z13 := fun h0 h1 => absurd (Dn.set_same d 13) (by rw [h1]; simp)
          f12 := fun h0 => (((h.f12 (Dn.set_back (by decide) h0)).other ((h.pq (h.c12 (Dn.set_back (by decide) h0)).2 h4).symm) _ _).other ((h.pq (h.c12 (Dn.set_back (by decide) h0)).2 h4).symm) _ _).other ((h.pq (h.c12 (Dn.set_back (by decide) h0)).2 h4).symm) _ _
          f13 := fun h0 => setB3 (h.z13 h4 hd)
          c12 := fun h0 => ⟨by rw [Dn.set]; simp [(h.c12 (Dn.set_back (by decide) h0)).1], by rw [Dn.set]; simp [(h.c12 (Dn.set_back (by decide) h0)).2]⟩
          c13 := fun h0 => ⟨by rw [Dn.set]; simp [h3], by rw [Dn.set]; simp [h4]⟩ }
end Go.Proofs.Ytleenbfldkmcaaa
