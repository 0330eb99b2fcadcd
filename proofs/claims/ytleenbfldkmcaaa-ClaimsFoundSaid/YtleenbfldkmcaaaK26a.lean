/- Proved: what holds while what remains is worked out for two lists of beacons and compared, whichever comes first: for the law on old beacons; and plain facts on the beacons that are kept. Conditions: those that each theorem names. -/
import Derived.Test.YtleenbfldkmcaaaK24a
import Derived.Test.YtleenbfldkmcaaaSteps
namespace Go.Proofs.Ytleenbfldkmcaaa
open Go.RowKit Go.Sort Go.BigFrame
set_option linter.unusedVariables false
set_option linter.unusedSimpArgs false

structure J19 (W6 : World) (t : Tv) (me fr : Int) (AV LV : Value) (Y : Tb) (d : Dn) (vs : Vs) (r1 : Tv) (r2 : Tv) (w : World) : Prop where
  b : Below W6.heap.size W6 w
  f0 : d 0 = true → vs 0 = .bool true
  f1 : d 1 = true → vs 1 = .bool true
  f2 : d 2 = true → vs 2 = t.v
  f7 : d 7 = true → vs 7 = t.v
  f3 : d 3 = true → vs 3 = .int .i64 me
  f8 : d 8 = true → vs 8 = .int .i64 me
  f4 : d 4 = true → vs 4 = AV
  f9 : d 9 = true → vs 9 = LV
  f5 : d 5 = true → vs 5 = .int .i64 fr
  f10 : d 10 = true → vs 10 = .int .i64 fr
  f6 : d 6 = true → vs 6 = r1.v
  o6 : d 6 = true → r1.ok w ∧ r1.T = Y
  f11 : d 11 = true → vs 11 = r2.v
  o11 : d 11 = true → r2.ok w ∧ r2.T = Y
  f12 : d 12 = true → vs 12 = .bool true
  f13 : d 13 = true → vs 13 = .bool true
  f14 : d 14 = true → vs 14 = .bool true
theorem J19.start {W6 : World} {t : Tv} {me fr : Int} {AV LV : Value} {Y : Tb} {r1 : Tv} {r2 : Tv} {vs : Vs} : J19 W6 t me fr AV LV Y (fun _ => false) vs r1 r2 W6.drew where
  b := Below.drew (Below.refl _ _)
  f0 := fun h => absurd h Bool.false_ne_true
  f1 := fun h => absurd h Bool.false_ne_true
  f2 := fun h => absurd h Bool.false_ne_true
  f7 := fun h => absurd h Bool.false_ne_true
  f3 := fun h => absurd h Bool.false_ne_true
  f8 := fun h => absurd h Bool.false_ne_true
  f4 := fun h => absurd h Bool.false_ne_true
  f9 := fun h => absurd h Bool.false_ne_true
  f5 := fun h => absurd h Bool.false_ne_true
  f10 := fun h => absurd h Bool.false_ne_true
  f6 := fun h => absurd h Bool.false_ne_true
  o6 := fun h => absurd h Bool.false_ne_true
  f11 := fun h => absurd h Bool.false_ne_true
  o11 := fun h => absurd h Bool.false_ne_true
  f12 := fun h => absurd h Bool.false_ne_true
  f13 := fun h => absurd h Bool.false_ne_true
  f14 := fun h => absurd h Bool.false_ne_true
theorem J19.keep {W6 : World} {t : Tv} {me fr : Int} {AV LV : Value} {Y : Tb} {d : Dn} {vs : Vs} {r1 : Tv} {r2 : Tv} {w w' : World} (h : J19 W6 t me fr AV LV Y d vs r1 r2 w) (hb : Below w.heap.size w w') : J19 W6 t me fr AV LV Y d vs r1 r2 w' where
  b := bstep h.b hb
  f0 := h.f0
  f1 := h.f1
  f2 := h.f2
  f7 := h.f7
  f3 := h.f3
  f8 := h.f8
  f4 := h.f4
  f9 := h.f9
  f5 := h.f5
  f10 := h.f10
  f6 := h.f6
  o6 h0 := ⟨(h.o6 h0).1.keep hb, (h.o6 h0).2⟩
  f11 := h.f11
  o11 h0 := ⟨(h.o11 h0).1.keep hb, (h.o11 h0).2⟩
  f12 := h.f12
  f13 := h.f13
  f14 := h.f14
theorem J19.s0 {W6 : World} {t : Tv} {me fr : Int} {AV LV : Value} {Y : Tb} {d : Dn} {vs : Vs} {r1 : Tv} {r2 : Tv} {w : World} (h : J19 W6 t me fr AV LV Y d vs r1 r2 w) (hd : d 0 = false)  : J19 W6 t me fr AV LV Y (d.set 0) (vs.upd 0 (.bool true)) r1 r2 (w) := by
  exact { b := h.b
          f0 := fun h0 => Vs.upd_same _ _ _
          f1 := fun h0 => by rw [Vs.upd_ne _ _ (by decide)]; exact (h.f1 (Dn.set_back (by decide) h0))
          f2 := fun h0 => by rw [Vs.upd_ne _ _ (by decide)]; exact (h.f2 (Dn.set_back (by decide) h0))
          f7 := fun h0 => by rw [Vs.upd_ne _ _ (by decide)]; exact (h.f7 (Dn.set_back (by decide) h0))
          f3 := fun h0 => by rw [Vs.upd_ne _ _ (by decide)]; exact (h.f3 (Dn.set_back (by decide) h0))
          f8 := fun h0 => by rw [Vs.upd_ne _ _ (by decide)]; exact (h.f8 (Dn.set_back (by decide) h0))
          f4 := fun h0 => by rw [Vs.upd_ne _ _ (by decide)]; exact (h.f4 (Dn.set_back (by decide) h0))
          f9 := fun h0 => by rw [Vs.upd_ne _ _ (by decide)]; exact (h.f9 (Dn.set_back (by decide) h0))
          f5 := fun h0 => by rw [Vs.upd_ne _ _ (by decide)]; exact (h.f5 (Dn.set_back (by decide) h0))
          f10 := fun h0 => by rw [Vs.upd_ne _ _ (by decide)]; exact (h.f10 (Dn.set_back (by decide) h0))
          f6 := fun h0 => by rw [Vs.upd_ne _ _ (by decide)]; exact (h.f6 (Dn.set_back (by decide) h0))
          o6 := fun h0 => (h.o6 (Dn.set_back (by decide) h0))
          f11 := fun h0 => by rw [Vs.upd_ne _ _ (by decide)]; exact (h.f11 (Dn.set_back (by decide) h0))
          o11 := fun h0 => (h.o11 (Dn.set_back (by decide) h0))
          f12 := fun h0 => by rw [Vs.upd_ne _ _ (by decide)]; exact (h.f12 (Dn.set_back (by decide) h0))
          f13 := fun h0 => by rw [Vs.upd_ne _ _ (by decide)]; exact (h.f13 (Dn.set_back (by decide) h0))
          f14 := fun h0 => by rw [Vs.upd_ne _ _ (by decide)]; exact (h.f14 (Dn.set_back (by decide) h0)) }
theorem J19.s1 {W6 : World} {t : Tv} {me fr : Int} {AV LV : Value} {Y : Tb} {d : Dn} {vs : Vs} {r1 : Tv} {r2 : Tv} {w : World} (h : J19 W6 t me fr AV LV Y d vs r1 r2 w) (hd : d 1 = false)  : J19 W6 t me fr AV LV Y (d.set 1) (vs.upd 1 (.bool true)) r1 r2 (w) := by
  exact { b := h.b
          f0 := fun h0 => by rw [Vs.upd_ne _ _ (by decide)]; exact (h.f0 (Dn.set_back (by decide) h0))
          f1 := fun h0 => Vs.upd_same _ _ _
          f2 := fun h0 => by rw [Vs.upd_ne _ _ (by decide)]; exact (h.f2 (Dn.set_back (by decide) h0))
          f7 := fun h0 => by rw [Vs.upd_ne _ _ (by decide)]; exact (h.f7 (Dn.set_back (by decide) h0))
          f3 := fun h0 => by rw [Vs.upd_ne _ _ (by decide)]; exact (h.f3 (Dn.set_back (by decide) h0))
          f8 := fun h0 => by rw [Vs.upd_ne _ _ (by decide)]; exact (h.f8 (Dn.set_back (by decide) h0))
          f4 := fun h0 => by rw [Vs.upd_ne _ _ (by decide)]; exact (h.f4 (Dn.set_back (by decide) h0))
          f9 := fun h0 => by rw [Vs.upd_ne _ _ (by decide)]; exact (h.f9 (Dn.set_back (by decide) h0))
          f5 := fun h0 => by rw [Vs.upd_ne _ _ (by decide)]; exact (h.f5 (Dn.set_back (by decide) h0))
          f10 := fun h0 => by rw [Vs.upd_ne _ _ (by decide)]; exact (h.f10 (Dn.set_back (by decide) h0))
          f6 := fun h0 => by rw [Vs.upd_ne _ _ (by decide)]; exact (h.f6 (Dn.set_back (by decide) h0))
          o6 := fun h0 => (h.o6 (Dn.set_back (by decide) h0))
          f11 := fun h0 => by rw [Vs.upd_ne _ _ (by decide)]; exact (h.f11 (Dn.set_back (by decide) h0))
          o11 := fun h0 => (h.o11 (Dn.set_back (by decide) h0))
          f12 := fun h0 => by rw [Vs.upd_ne _ _ (by decide)]; exact (h.f12 (Dn.set_back (by decide) h0))
          f13 := fun h0 => by rw [Vs.upd_ne _ _ (by decide)]; exact (h.f13 (Dn.set_back (by decide) h0))
          f14 := fun h0 => by rw [Vs.upd_ne _ _ (by decide)]; exact (h.f14 (Dn.set_back (by decide) h0)) }
theorem J19.s2 {W6 : World} {t : Tv} {me fr : Int} {AV LV : Value} {Y : Tb} {d : Dn} {vs : Vs} {r1 : Tv} {r2 : Tv} {w : World} (h : J19 W6 t me fr AV LV Y d vs r1 r2 w) (hd : d 2 = false)  : J19 W6 t me fr AV LV Y (d.set 2) (vs.upd 2 (t.v)) r1 r2 (w) := by
  exact { b := h.b
          f0 := fun h0 => by rw [Vs.upd_ne _ _ (by decide)]; exact (h.f0 (Dn.set_back (by decide) h0))
          f1 := fun h0 => by rw [Vs.upd_ne _ _ (by decide)]; exact (h.f1 (Dn.set_back (by decide) h0))
          f2 := fun h0 => Vs.upd_same _ _ _
          f7 := fun h0 => by rw [Vs.upd_ne _ _ (by decide)]; exact (h.f7 (Dn.set_back (by decide) h0))
          f3 := fun h0 => by rw [Vs.upd_ne _ _ (by decide)]; exact (h.f3 (Dn.set_back (by decide) h0))
          f8 := fun h0 => by rw [Vs.upd_ne _ _ (by decide)]; exact (h.f8 (Dn.set_back (by decide) h0))
          f4 := fun h0 => by rw [Vs.upd_ne _ _ (by decide)]; exact (h.f4 (Dn.set_back (by decide) h0))
          f9 := fun h0 => by rw [Vs.upd_ne _ _ (by decide)]; exact (h.f9 (Dn.set_back (by decide) h0))
          f5 := fun h0 => by rw [Vs.upd_ne _ _ (by decide)]; exact (h.f5 (Dn.set_back (by decide) h0))
          f10 := fun h0 => by rw [Vs.upd_ne _ _ (by decide)]; exact (h.f10 (Dn.set_back (by decide) h0))
          f6 := fun h0 => by rw [Vs.upd_ne _ _ (by decide)]; exact (h.f6 (Dn.set_back (by decide) h0))
          o6 := fun h0 => (h.o6 (Dn.set_back (by decide) h0))
          f11 := fun h0 => by rw [Vs.upd_ne _ _ (by decide)]; exact (h.f11 (Dn.set_back (by decide) h0))
          o11 := fun h0 => (h.o11 (Dn.set_back (by decide) h0))
          f12 := fun h0 => by rw [Vs.upd_ne _ _ (by decide)]; exact (h.f12 (Dn.set_back (by decide) h0))
          f13 := fun h0 => by rw [Vs.upd_ne _ _ (by decide)]; exact (h.f13 (Dn.set_back (by decide) h0))
          f14 := fun h0 => by rw [Vs.upd_ne _ _ (by decide)]; exact (h.f14 (Dn.set_back (by decide) h0)) }
theorem J19.s7 {W6 : World} {t : Tv} {me fr : Int} {AV LV : Value} {Y : Tb} {d : Dn} {vs : Vs} {r1 : Tv} {r2 : Tv} {w : World} (h : J19 W6 t me fr AV LV Y d vs r1 r2 w) (hd : d 7 = false)  : J19 W6 t me fr AV LV Y (d.set 7) (vs.upd 7 (t.v)) r1 r2 (w) := by
  exact { b := h.b
          f0 := fun h0 => by rw [Vs.upd_ne _ _ (by decide)]; exact (h.f0 (Dn.set_back (by decide) h0))
          f1 := fun h0 => by rw [Vs.upd_ne _ _ (by decide)]; exact (h.f1 (Dn.set_back (by decide) h0))
          f2 := fun h0 => by rw [Vs.upd_ne _ _ (by decide)]; exact (h.f2 (Dn.set_back (by decide) h0))
          f7 := fun h0 => Vs.upd_same _ _ _
          f3 := fun h0 => by rw [Vs.upd_ne _ _ (by decide)]; exact (h.f3 (Dn.set_back (by decide) h0))
          f8 := fun h0 => by rw [Vs.upd_ne _ _ (by decide)]; exact (h.f8 (Dn.set_back (by decide) h0))
          f4 := fun h0 => by rw [Vs.upd_ne _ _ (by decide)]; exact (h.f4 (Dn.set_back (by decide) h0))
          f9 := fun h0 => by rw [Vs.upd_ne _ _ (by decide)]; exact (h.f9 (Dn.set_back (by decide) h0))
          f5 := fun h0 => by rw [Vs.upd_ne _ _ (by decide)]; exact (h.f5 (Dn.set_back (by decide) h0))
          f10 := fun h0 => by rw [Vs.upd_ne _ _ (by decide)]; exact (h.f10 (Dn.set_back (by decide) h0))
          f6 := fun h0 => by rw [Vs.upd_ne _ _ (by decide)]; exact (h.f6 (Dn.set_back (by decide) h0))
          o6 := fun h0 => (h.o6 (Dn.set_back (by decide) h0))
          f11 := fun h0 => by rw [Vs.upd_ne _ _ (by decide)]; exact (h.f11 (Dn.set_back (by decide) h0))
          o11 := fun h0 => (h.o11 (Dn.set_back (by decide) h0))
          f12 := fun h0 => by rw [Vs.upd_ne _ _ (by decide)]; exact (h.f12 (Dn.set_back (by decide) h0))
          f13 := fun h0 => by rw [Vs.upd_ne _ _ (by decide)]; exact (h.f13 (Dn.set_back (by decide) h0))
          f14 := fun h0 => by rw [Vs.upd_ne _ _ (by decide)]; exact (h.f14 (Dn.set_back (by decide) h0)) }
theorem J19.s3 {W6 : World} {t : Tv} {me fr : Int} {AV LV : Value} {Y : Tb} {d : Dn} {vs : Vs} {r1 : Tv} {r2 : Tv} {w : World} (h : J19 W6 t me fr AV LV Y d vs r1 r2 w) (hd : d 3 = false)  : J19 W6 t me fr AV LV Y (d.set 3) (vs.upd 3 (.int .i64 me)) r1 r2 (w) := by
  exact { b := h.b
          f0 := fun h0 => by rw [Vs.upd_ne _ _ (by decide)]; exact (h.f0 (Dn.set_back (by decide) h0))
          f1 := fun h0 => by rw [Vs.upd_ne _ _ (by decide)]; exact (h.f1 (Dn.set_back (by decide) h0))
          f2 := fun h0 => by rw [Vs.upd_ne _ _ (by decide)]; exact (h.f2 (Dn.set_back (by decide) h0))
          f7 := fun h0 => by rw [Vs.upd_ne _ _ (by decide)]; exact (h.f7 (Dn.set_back (by decide) h0))
          f3 := fun h0 => Vs.upd_same _ _ _
          f8 := fun h0 => by rw [Vs.upd_ne _ _ (by decide)]; exact (h.f8 (Dn.set_back (by decide) h0))
          f4 := fun h0 => by rw [Vs.upd_ne _ _ (by decide)]; exact (h.f4 (Dn.set_back (by decide) h0))
          f9 := fun h0 => by rw [Vs.upd_ne _ _ (by decide)]; exact (h.f9 (Dn.set_back (by decide) h0))
          f5 := fun h0 => by rw [Vs.upd_ne _ _ (by decide)]; exact (h.f5 (Dn.set_back (by decide) h0))
          f10 := fun h0 => by rw [Vs.upd_ne _ _ (by decide)]; exact (h.f10 (Dn.set_back (by decide) h0))
          f6 := fun h0 => by rw [Vs.upd_ne _ _ (by decide)]; exact (h.f6 (Dn.set_back (by decide) h0))
          o6 := fun h0 => (h.o6 (Dn.set_back (by decide) h0))
          f11 := fun h0 => by rw [Vs.upd_ne _ _ (by decide)]; exact (h.f11 (Dn.set_back (by decide) h0))
          o11 := fun h0 => (h.o11 (Dn.set_back (by decide) h0))
          f12 := fun h0 => by rw [Vs.upd_ne _ _ (by decide)]; exact (h.f12 (Dn.set_back (by decide) h0))
          f13 := fun h0 => by rw [Vs.upd_ne _ _ (by decide)]; exact (h.f13 (Dn.set_back (by decide) h0))
          f14 := fun h0 => by rw [Vs.upd_ne _ _ (by decide)]; exact (h.f14 (Dn.set_back (by decide) h0)) }
theorem J19.s8 {W6 : World} {t : Tv} {me fr : Int} {AV LV : Value} {Y : Tb} {d : Dn} {vs : Vs} {r1 : Tv} {r2 : Tv} {w : World} (h : J19 W6 t me fr AV LV Y d vs r1 r2 w) (hd : d 8 = false)  : J19 W6 t me fr AV LV Y (d.set 8) (vs.upd 8 (.int .i64 me)) r1 r2 (w) := by
  exact { b := h.b
          f0 := fun h0 => by rw [Vs.upd_ne _ _ (by decide)]; exact (h.f0 (Dn.set_back (by decide) h0))
          f1 := fun h0 => by rw [Vs.upd_ne _ _ (by decide)]; exact (h.f1 (Dn.set_back (by decide) h0))
          f2 := fun h0 => by rw [Vs.upd_ne _ _ (by decide)]; exact (h.f2 (Dn.set_back (by decide) h0))
          f7 := fun h0 => by rw [Vs.upd_ne _ _ (by decide)]; exact (h.f7 (Dn.set_back (by decide) h0))
          f3 := fun h0 => by rw [Vs.upd_ne _ _ (by decide)]; exact (h.f3 (Dn.set_back (by decide) h0))
          f8 := fun h0 => Vs.upd_same _ _ _
          f4 := fun h0 => by rw [Vs.upd_ne _ _ (by decide)]; exact (h.f4 (Dn.set_back (by decide) h0))
          f9 := fun h0 => by rw [Vs.upd_ne _ _ (by decide)]; exact (h.f9 (Dn.set_back (by decide) h0))
          f5 := fun h0 => by rw [Vs.upd_ne _ _ (by decide)]; exact (h.f5 (Dn.set_back (by decide) h0))
          f10 := fun h0 => by rw [Vs.upd_ne _ _ (by decide)]; exact (h.f10 (Dn.set_back (by decide) h0))
          f6 := fun h0 => by rw [Vs.upd_ne _ _ (by decide)]; exact (h.f6 (Dn.set_back (by decide) h0))
          o6 := fun h0 => (h.o6 (Dn.set_back (by decide) h0))
          f11 := fun h0 => by rw [Vs.upd_ne _ _ (by decide)]; exact (h.f11 (Dn.set_back (by decide) h0))
          o11 := fun h0 => (h.o11 (Dn.set_back (by decide) h0))
          f12 := fun h0 => by rw [Vs.upd_ne _ _ (by decide)]; exact (h.f12 (Dn.set_back (by decide) h0))
          f13 := fun h0 => by rw [Vs.upd_ne _ _ (by decide)]; exact (h.f13 (Dn.set_back (by decide) h0))
          f14 := fun h0 => by rw [Vs.upd_ne _ _ (by decide)]; exact (h.f14 (Dn.set_back (by decide) h0)) }
theorem J19.s4 {W6 : World} {t : Tv} {me fr : Int} {AV LV : Value} {Y : Tb} {d : Dn} {vs : Vs} {r1 : Tv} {r2 : Tv} {w : World} (h : J19 W6 t me fr AV LV Y d vs r1 r2 w) (hd : d 4 = false)  : J19 W6 t me fr AV LV Y (d.set 4) (vs.upd 4 (AV)) r1 r2 (w) := by
  exact { b := h.b
          f0 := fun h0 => by rw [Vs.upd_ne _ _ (by decide)]; exact (h.f0 (Dn.set_back (by decide) h0))
          f1 := fun h0 => by rw [Vs.upd_ne _ _ (by decide)]; exact (h.f1 (Dn.set_back (by decide) h0))
          f2 := fun h0 => by rw [Vs.upd_ne _ _ (by decide)]; exact (h.f2 (Dn.set_back (by decide) h0))
          f7 := fun h0 => by rw [Vs.upd_ne _ _ (by decide)]; exact (h.f7 (Dn.set_back (by decide) h0))
          f3 := fun h0 => by rw [Vs.upd_ne _ _ (by decide)]; exact (h.f3 (Dn.set_back (by decide) h0))
          f8 := fun h0 => by rw [Vs.upd_ne _ _ (by decide)]; exact (h.f8 (Dn.set_back (by decide) h0))
          f4 := fun h0 => Vs.upd_same _ _ _
          f9 := fun h0 => by rw [Vs.upd_ne _ _ (by decide)]; exact (h.f9 (Dn.set_back (by decide) h0))
          f5 := fun h0 => by rw [Vs.upd_ne _ _ (by decide)]; exact (h.f5 (Dn.set_back (by decide) h0))
          f10 := fun h0 => by rw [Vs.upd_ne _ _ (by decide)]; exact (h.f10 (Dn.set_back (by decide) h0))
          f6 := fun h0 => by rw [Vs.upd_ne _ _ (by decide)]; exact (h.f6 (Dn.set_back (by decide) h0))
          o6 := fun h0 => (h.o6 (Dn.set_back (by decide) h0))
          f11 := fun h0 => by rw [Vs.upd_ne _ _ (by decide)]; exact (h.f11 (Dn.set_back (by decide) h0))
          o11 := fun h0 => (h.o11 (Dn.set_back (by decide) h0))
          f12 := fun h0 => by rw [Vs.upd_ne _ _ (by decide)]; exact (h.f12 (Dn.set_back (by decide) h0))
          f13 := fun h0 => by rw [Vs.upd_ne _ _ (by decide)]; exact (h.f13 (Dn.set_back (by decide) h0))
          f14 := fun h0 => by rw [Vs.upd_ne _ _ (by decide)]; exact (h.f14 (Dn.set_back (by decide) h0)) }
theorem J19.s9 {W6 : World} {t : Tv} {me fr : Int} {AV LV : Value} {Y : Tb} {d : Dn} {vs : Vs} {r1 : Tv} {r2 : Tv} {w : World} (h : J19 W6 t me fr AV LV Y d vs r1 r2 w) (hd : d 9 = false)  : J19 W6 t me fr AV LV Y (d.set 9) (vs.upd 9 (LV)) r1 r2 (w) := by
  exact { b := h.b
          f0 := fun h0 => by rw [Vs.upd_ne _ _ (by decide)]; exact (h.f0 (Dn.set_back (by decide) h0))
          f1 := fun h0 => by rw [Vs.upd_ne _ _ (by decide)]; exact (h.f1 (Dn.set_back (by decide) h0))
          f2 := fun h0 => by rw [Vs.upd_ne _ _ (by decide)]; exact (h.f2 (Dn.set_back (by decide) h0))
          f7 := fun h0 => by rw [Vs.upd_ne _ _ (by decide)]; exact (h.f7 (Dn.set_back (by decide) h0))
          f3 := fun h0 => by rw [Vs.upd_ne _ _ (by decide)]; exact (h.f3 (Dn.set_back (by decide) h0))
          f8 := fun h0 => by rw [Vs.upd_ne _ _ (by decide)]; exact (h.f8 (Dn.set_back (by decide) h0))
          f4 := fun h0 => by rw [Vs.upd_ne _ _ (by decide)]; exact (h.f4 (Dn.set_back (by decide) h0))
          f9 := fun h0 => Vs.upd_same _ _ _
          f5 := fun h0 => by rw [Vs.upd_ne _ _ (by decide)]; exact (h.f5 (Dn.set_back (by decide) h0))
          f10 := fun h0 => by rw [Vs.upd_ne _ _ (by decide)]; exact (h.f10 (Dn.set_back (by decide) h0))
          f6 := fun h0 => by rw [Vs.upd_ne _ _ (by decide)]; exact (h.f6 (Dn.set_back (by decide) h0))
          o6 := fun h0 => (h.o6 (Dn.set_back (by decide) h0))
          f11 := fun h0 => by rw [Vs.upd_ne _ _ (by decide)]; exact (h.f11 (Dn.set_back (by decide) h0))
          o11 := fun h0 => (h.o11 (Dn.set_back (by decide) h0))
          f12 := fun h0 => by rw [Vs.upd_ne _ _ (by decide)]; exact (h.f12 (Dn.set_back (by decide) h0))
          f13 := fun h0 => by rw [Vs.upd_ne _ _ (by decide)]; exact (h.f13 (Dn.set_back (by decide) h0))
          f14 := fun h0 => by rw [Vs.upd_ne _ _ (by decide)]; exact (h.f14 (Dn.set_back (by decide) h0)) }
theorem J19.s5 {W6 : World} {t : Tv} {me fr : Int} {AV LV : Value} {Y : Tb} {d : Dn} {vs : Vs} {r1 : Tv} {r2 : Tv} {w : World} (h : J19 W6 t me fr AV LV Y d vs r1 r2 w) (hd : d 5 = false)  : J19 W6 t me fr AV LV Y (d.set 5) (vs.upd 5 (.int .i64 fr)) r1 r2 (w) := by
  exact { b := h.b
          f0 := fun h0 => by rw [Vs.upd_ne _ _ (by decide)]; exact (h.f0 (Dn.set_back (by decide) h0))
          f1 := fun h0 => by rw [Vs.upd_ne _ _ (by decide)]; exact (h.f1 (Dn.set_back (by decide) h0))
          f2 := fun h0 => by rw [Vs.upd_ne _ _ (by decide)]; exact (h.f2 (Dn.set_back (by decide) h0))
          f7 := fun h0 => by rw [Vs.upd_ne _ _ (by decide)]; exact (h.f7 (Dn.set_back (by decide) h0))
          f3 := fun h0 => by rw [Vs.upd_ne _ _ (by decide)]; exact (h.f3 (Dn.set_back (by decide) h0))
          f8 := fun h0 => by rw [Vs.upd_ne _ _ (by decide)]; exact (h.f8 (Dn.set_back (by decide) h0))
          f4 := fun h0 => by rw [Vs.upd_ne _ _ (by decide)]; exact (h.f4 (Dn.set_back (by decide) h0))
          f9 := fun h0 => by rw [Vs.upd_ne _ _ (by decide)]; exact (h.f9 (Dn.set_back (by decide) h0))
          f5 := fun h0 => Vs.upd_same _ _ _
          f10 := fun h0 => by rw [Vs.upd_ne _ _ (by decide)]; exact (h.f10 (Dn.set_back (by decide) h0))
          f6 := fun h0 => by rw [Vs.upd_ne _ _ (by decide)]; exact (h.f6 (Dn.set_back (by decide) h0))
          o6 := fun h0 => (h.o6 (Dn.set_back (by decide) h0))
          f11 := fun h0 => by rw [Vs.upd_ne _ _ (by decide)]; exact (h.f11 (Dn.set_back (by decide) h0))
          o11 := fun h0 => (h.o11 (Dn.set_back (by decide) h0))
          f12 := fun h0 => by rw [Vs.upd_ne _ _ (by decide)]; exact (h.f12 (Dn.set_back (by decide) h0))
          f13 := fun h0 => by rw [Vs.upd_ne _ _ (by decide)]; exact (h.f13 (Dn.set_back (by decide) h0))
          f14 := fun h0 => by rw [Vs.upd_ne _ _ (by decide)]; exact (h.f14 (Dn.set_back (by decide) h0)) }
theorem J19.s10 {W6 : World} {t : Tv} {me fr : Int} {AV LV : Value} {Y : Tb} {d : Dn} {vs : Vs} {r1 : Tv} {r2 : Tv} {w : World} (h : J19 W6 t me fr AV LV Y d vs r1 r2 w) (hd : d 10 = false)  : J19 W6 t me fr AV LV Y (d.set 10) (vs.upd 10 (.int .i64 fr)) r1 r2 (w) := by
  exact { b := h.b
          f0 := fun h0 => by rw [Vs.upd_ne _ _ (by decide)]; exact (h.f0 (Dn.set_back (by decide) h0))
          f1 := fun h0 => by rw [Vs.upd_ne _ _ (by decide)]; exact (h.f1 (Dn.set_back (by decide) h0))
          f2 := fun h0 => by rw [Vs.upd_ne _ _ (by decide)]; exact (h.f2 (Dn.set_back (by decide) h0))
          f7 := fun h0 => by rw [Vs.upd_ne _ _ (by decide)]; exact (h.f7 (Dn.set_back (by decide) h0))
          f3 := fun h0 => by rw [Vs.upd_ne _ _ (by decide)]; exact (h.f3 (Dn.set_back (by decide) h0))
          f8 := fun h0 => by rw [Vs.upd_ne _ _ (by decide)]; exact (h.f8 (Dn.set_back (by decide) h0))
          f4 := fun h0 => by rw [Vs.upd_ne _ _ (by decide)]; exact (h.f4 (Dn.set_back (by decide) h0))
          f9 := fun h0 => by rw [Vs.upd_ne _ _ (by decide)]; exact (h.f9 (Dn.set_back (by decide) h0))
          f5 := fun h0 => by rw [Vs.upd_ne _ _ (by decide)]; exact (h.f5 (Dn.set_back (by decide) h0))
          f10 := fun h0 => Vs.upd_same _ _ _
          f6 := fun h0 => by rw [Vs.upd_ne _ _ (by decide)]; exact (h.f6 (Dn.set_back (by decide) h0))
          o6 := fun h0 => (h.o6 (Dn.set_back (by decide) h0))
          f11 := fun h0 => by rw [Vs.upd_ne _ _ (by decide)]; exact (h.f11 (Dn.set_back (by decide) h0))
          o11 := fun h0 => (h.o11 (Dn.set_back (by decide) h0))
          f12 := fun h0 => by rw [Vs.upd_ne _ _ (by decide)]; exact (h.f12 (Dn.set_back (by decide) h0))
          f13 := fun h0 => by rw [Vs.upd_ne _ _ (by decide)]; exact (h.f13 (Dn.set_back (by decide) h0))
          f14 := fun h0 => by rw [Vs.upd_ne _ _ (by decide)]; exact (h.f14 (Dn.set_back (by decide) h0)) }
theorem J19.s12 {W6 : World} {t : Tv} {me fr : Int} {AV LV : Value} {Y : Tb} {d : Dn} {vs : Vs} {r1 : Tv} {r2 : Tv} {w : World} (h : J19 W6 t me fr AV LV Y d vs r1 r2 w) (hd : d 12 = false)  : J19 W6 t me fr AV LV Y (d.set 12) (vs.upd 12 (.bool true)) r1 r2 (w) := by
  exact { b := h.b
          f0 := fun h0 => by rw [Vs.upd_ne _ _ (by decide)]; exact (h.f0 (Dn.set_back (by decide) h0))
          f1 := fun h0 => by rw [Vs.upd_ne _ _ (by decide)]; exact (h.f1 (Dn.set_back (by decide) h0))
          f2 := fun h0 => by rw [Vs.upd_ne _ _ (by decide)]; exact (h.f2 (Dn.set_back (by decide) h0))
          f7 := fun h0 => by rw [Vs.upd_ne _ _ (by decide)]; exact (h.f7 (Dn.set_back (by decide) h0))
          f3 := fun h0 => by rw [Vs.upd_ne _ _ (by decide)]; exact (h.f3 (Dn.set_back (by decide) h0))
          f8 := fun h0 => by rw [Vs.upd_ne _ _ (by decide)]; exact (h.f8 (Dn.set_back (by decide) h0))
          f4 := fun h0 => by rw [Vs.upd_ne _ _ (by decide)]; exact (h.f4 (Dn.set_back (by decide) h0))
          f9 := fun h0 => by rw [Vs.upd_ne _ _ (by decide)]; exact (h.f9 (Dn.set_back (by decide) h0))
          f5 := fun h0 => by rw [Vs.upd_ne _ _ (by decide)]; exact (h.f5 (Dn.set_back (by decide) h0))
          f10 := fun h0 => by rw [Vs.upd_ne _ _ (by decide)]; exact (h.f10 (Dn.set_back (by decide) h0))
          f6 := fun h0 => by rw [Vs.upd_ne _ _ (by decide)]; exact (h.f6 (Dn.set_back (by decide) h0))
          o6 := fun h0 => (h.o6 (Dn.set_back (by decide) h0))
          f11 := fun h0 => by rw [Vs.upd_ne _ _ (by decide)]; exact (h.f11 (Dn.set_back (by decide) h0))
          o11 := fun h0 => (h.o11 (Dn.set_back (by decide) h0))
          f12 := fun h0 => Vs.upd_same _ _ _
          f13 := fun h0 => by rw [Vs.upd_ne _ _ (by decide)]; exact (h.f13 (Dn.set_back (by decide) h0))
          f14 := fun h0 => by rw [Vs.upd_ne _ _ (by decide)]; exact (h.f14 (Dn.set_back (by decide) h0)) }
theorem J19.s13 {W6 : World} {t : Tv} {me fr : Int} {AV LV : Value} {Y : Tb} {d : Dn} {vs : Vs} {r1 : Tv} {r2 : Tv} {w : World} (h : J19 W6 t me fr AV LV Y d vs r1 r2 w) (hd : d 13 = false)  : J19 W6 t me fr AV LV Y (d.set 13) (vs.upd 13 (.bool true)) r1 r2 (w) := by
  exact { b := h.b
          f0 := fun h0 => by rw [Vs.upd_ne _ _ (by decide)]; exact (h.f0 (Dn.set_back (by decide) h0))
          f1 := fun h0 => by rw [Vs.upd_ne _ _ (by decide)]; exact (h.f1 (Dn.set_back (by decide) h0))
          f2 := fun h0 => by rw [Vs.upd_ne _ _ (by decide)]; exact (h.f2 (Dn.set_back (by decide) h0))
          f7 := fun h0 => by rw [Vs.upd_ne _ _ (by decide)]; exact (h.f7 (Dn.set_back (by decide) h0))
          f3 := fun h0 => by rw [Vs.upd_ne _ _ (by decide)]; exact (h.f3 (Dn.set_back (by decide) h0))
          f8 := fun h0 => by rw [Vs.upd_ne _ _ (by decide)]; exact (h.f8 (Dn.set_back (by decide) h0))
          f4 := fun h0 => by rw [Vs.upd_ne _ _ (by decide)]; exact (h.f4 (Dn.set_back (by decide) h0))
          f9 := fun h0 => by rw [Vs.upd_ne _ _ (by decide)]; exact (h.f9 (Dn.set_back (by decide) h0))
          f5 := fun h0 => by rw [Vs.upd_ne _ _ (by decide)]; exact (h.f5 (Dn.set_back (by decide) h0))
          f10 := fun h0 => by rw [Vs.upd_ne _ _ (by decide)]; exact (h.f10 (Dn.set_back (by decide) h0))
          f6 := fun h0 => by rw [Vs.upd_ne _ _ (by decide)]; exact (h.f6 (Dn.set_back (by decide) h0))
          o6 := fun h0 => (h.o6 (Dn.set_back (by decide) h0))
          f11 := fun h0 => by rw [Vs.upd_ne _ _ (by decide)]; exact (h.f11 (Dn.set_back (by decide) h0))
          o11 := fun h0 => (h.o11 (Dn.set_back (by decide) h0))
          f12 := fun h0 => by rw [Vs.upd_ne _ _ (by decide)]; exact (h.f12 (Dn.set_back (by decide) h0))
          f13 := fun h0 => Vs.upd_same _ _ _
          f14 := fun h0 => by rw [Vs.upd_ne _ _ (by decide)]; exact (h.f14 (Dn.set_back (by decide) h0)) }
theorem J19.s14 {W6 : World} {t : Tv} {me fr : Int} {AV LV : Value} {Y : Tb} {d : Dn} {vs : Vs} {r1 : Tv} {r2 : Tv} {w : World} (h : J19 W6 t me fr AV LV Y d vs r1 r2 w) (hd : d 14 = false)  : J19 W6 t me fr AV LV Y (d.set 14) (vs.upd 14 (.bool true)) r1 r2 (w) := by
  exact { b := h.b
          f0 := fun h0 => by rw [Vs.upd_ne _ _ (by decide)]; exact (h.f0 (Dn.set_back (by decide) h0))
          f1 := fun h0 => by rw [Vs.upd_ne _ _ (by decide)]; exact (h.f1 (Dn.set_back (by decide) h0))
          f2 := fun h0 => by rw [Vs.upd_ne _ _ (by decide)]; exact (h.f2 (Dn.set_back (by decide) h0))
          f7 := fun h0 => by rw [Vs.upd_ne _ _ (by decide)]; exact (h.f7 (Dn.set_back (by decide) h0))
          f3 := fun h0 => by rw [Vs.upd_ne _ _ (by decide)]; exact (h.f3 (Dn.set_back (by decide) h0))
          f8 := fun h0 => by rw [Vs.upd_ne _ _ (by decide)]; exact (h.f8 (Dn.set_back (by decide) h0))
          f4 := fun h0 => by rw [Vs.upd_ne _ _ (by decide)]; exact (h.f4 (Dn.set_back (by decide) h0))
          f9 := fun h0 => by rw [Vs.upd_ne _ _ (by decide)]; exact (h.f9 (Dn.set_back (by decide) h0))
          f5 := fun h0 => by rw [Vs.upd_ne _ _ (by decide)]; exact (h.f5 (Dn.set_back (by decide) h0))
          f10 := fun h0 => by rw [Vs.upd_ne _ _ (by decide)]; exact (h.f10 (Dn.set_back (by decide) h0))
          f6 := fun h0 => by rw [Vs.upd_ne _ _ (by decide)]; exact (h.f6 (Dn.set_back (by decide) h0))
          o6 := fun h0 => (h.o6 (Dn.set_back (by decide) h0))
          f11 := fun h0 => by rw [Vs.upd_ne _ _ (by decide)]; exact (h.f11 (Dn.set_back (by decide) h0))
          o11 := fun h0 => (h.o11 (Dn.set_back (by decide) h0))
          f12 := fun h0 => by rw [Vs.upd_ne _ _ (by decide)]; exact (h.f12 (Dn.set_back (by decide) h0))
          f13 := fun h0 => by rw [Vs.upd_ne _ _ (by decide)]; exact (h.f13 (Dn.set_back (by decide) h0))
          f14 := fun h0 => Vs.upd_same _ _ _ }
theorem J19.s6 {W6 : World} {t : Tv} {me fr : Int} {AV LV : Value} {Y : Tb} {d : Dn} {vs : Vs} {r1 : Tv} {r2 : Tv} {w : World} (h : J19 W6 t me fr AV LV Y d vs r1 r2 w) (hd : d 6 = false) {r : Tv} (hr : r.ok w) (ht : r.T = Y) : J19 W6 t me fr AV LV Y (d.set 6) (vs.upd 6 (r.v)) (r) r2 (w) := by
  exact { b := h.b
          f0 := fun h0 => by rw [Vs.upd_ne _ _ (by decide)]; exact (h.f0 (Dn.set_back (by decide) h0))
          f1 := fun h0 => by rw [Vs.upd_ne _ _ (by decide)]; exact (h.f1 (Dn.set_back (by decide) h0))
          f2 := fun h0 => by rw [Vs.upd_ne _ _ (by decide)]; exact (h.f2 (Dn.set_back (by decide) h0))
          f7 := fun h0 => by rw [Vs.upd_ne _ _ (by decide)]; exact (h.f7 (Dn.set_back (by decide) h0))
          f3 := fun h0 => by rw [Vs.upd_ne _ _ (by decide)]; exact (h.f3 (Dn.set_back (by decide) h0))
          f8 := fun h0 => by rw [Vs.upd_ne _ _ (by decide)]; exact (h.f8 (Dn.set_back (by decide) h0))
          f4 := fun h0 => by rw [Vs.upd_ne _ _ (by decide)]; exact (h.f4 (Dn.set_back (by decide) h0))
          f9 := fun h0 => by rw [Vs.upd_ne _ _ (by decide)]; exact (h.f9 (Dn.set_back (by decide) h0))
          f5 := fun h0 => by rw [Vs.upd_ne _ _ (by decide)]; exact (h.f5 (Dn.set_back (by decide) h0))
          f10 := fun h0 => by rw [Vs.upd_ne _ _ (by decide)]; exact (h.f10 (Dn.set_back (by decide) h0))
          f6 := fun h0 => Vs.upd_same _ _ _
          o6 := fun h0 => ⟨hr, ht⟩
          f11 := fun h0 => by rw [Vs.upd_ne _ _ (by decide)]; exact (h.f11 (Dn.set_back (by decide) h0))
          o11 := fun h0 => (h.o11 (Dn.set_back (by decide) h0))
          f12 := fun h0 => by rw [Vs.upd_ne _ _ (by decide)]; exact (h.f12 (Dn.set_back (by decide) h0))
          f13 := fun h0 => by rw [Vs.upd_ne _ _ (by decide)]; exact (h.f13 (Dn.set_back (by decide) h0))
          f14 := fun h0 => by rw [Vs.upd_ne _ _ (by decide)]; exact (h.f14 (Dn.set_back (by decide) h0)) }
theorem J19.s11 {W6 : World} {t : Tv} {me fr : Int} {AV LV : Value} {Y : Tb} {d : Dn} {vs : Vs} {r1 : Tv} {r2 : Tv} {w : World} (h : J19 W6 t me fr AV LV Y d vs r1 r2 w) (hd : d 11 = false) {r : Tv} (hr : r.ok w) (ht : r.T = Y) : J19 W6 t me fr AV LV Y (d.set 11) (vs.upd 11 (r.v)) r1 (r) (w) := by
  exact { b := h.b
          f0 := fun h0 => by rw [Vs.upd_ne _ _ (by decide)]; exact (h.f0 (Dn.set_back (by decide) h0))
          f1 := fun h0 => by rw [Vs.upd_ne _ _ (by decide)]; exact (h.f1 (Dn.set_back (by decide) h0))
          f2 := fun h0 => by rw [Vs.upd_ne _ _ (by decide)]; exact (h.f2 (Dn.set_back (by decide) h0))
          f7 := fun h0 => by rw [Vs.upd_ne _ _ (by decide)]; exact (h.f7 (Dn.set_back (by decide) h0))
          f3 := fun h0 => by rw [Vs.upd_ne _ _ (by decide)]; exact (h.f3 (Dn.set_back (by decide) h0))
          f8 := fun h0 => by rw [Vs.upd_ne _ _ (by decide)]; exact (h.f8 (Dn.set_back (by decide) h0))
          f4 := fun h0 => by rw [Vs.upd_ne _ _ (by decide)]; exact (h.f4 (Dn.set_back (by decide) h0))
          f9 := fun h0 => by rw [Vs.upd_ne _ _ (by decide)]; exact (h.f9 (Dn.set_back (by decide) h0))
          f5 := fun h0 => by rw [Vs.upd_ne _ _ (by decide)]; exact (h.f5 (Dn.set_back (by decide) h0))
          f10 := fun h0 => by rw [Vs.upd_ne _ _ (by decide)]; exact (h.f10 (Dn.set_back (by decide) h0))
          f6 := fun h0 => by rw [Vs.upd_ne _ _ (by decide)]; exact (h.f6 (Dn.set_back (by decide) h0))
          o6 := fun h0 => (h.o6 (Dn.set_back (by decide) h0))
          f11 := fun h0 => Vs.upd_same _ _ _
          o11 := fun h0 => ⟨hr, ht⟩
          f12 := fun h0 => by rw [Vs.upd_ne _ _ (by decide)]; exact (h.f12 (Dn.set_back (by decide) h0))
          f13 := fun h0 => by rw [Vs.upd_ne _ _ (by decide)]; exact (h.f13 (Dn.set_back (by decide) h0))
          f14 := fun h0 => by rw [Vs.upd_ne _ _ (by decide)]; exact (h.f14 (Dn.set_back (by decide) h0)) }
/-- A beacon with other grants. -/
abbrev toldV (x : Nv) (G : List Gr) (a : Option Addr) (n c : Nat) : Nv := { x with B := { x.B with G := G }, ga := a, ng := n, gc := c }
theorem told_ok {x : Nv} {w : World} {G : List Gr} {a : Option Addr} {n c : Nat} (h : x.ok w) (hg : At 5 Gr.cs w a G) (hn : n = G.length) (hc : n ≤ c) (hm : c ≤ maxLen) : (toldV x G a n c).ok w := ⟨h.u, hg, h.un, hn, h.uc, hc, h.um, hm⟩
/-- What has been kept of the beacons: their uses lie where they lay; their grants lie in blocks of their own. -/
def KeptAt (w : World) (o : Value) (L : List Nv) : Prop := ∀ y ∈ L, y.ok w ∧ (y.B.G = [] ∨ ∃ b off, y.ga = some ⟨b, off, none⟩ ∧ b < w.heap.size ∧ o.ownBlock ≠ some b) ∧ (y.B.U = [] ∨ ∃ b off, y.ua = some ⟨b, off, none⟩ ∧ b < w.heap.size ∧ o.ownBlock ≠ some b)
theorem KeptAt.keep {w w' : World} {o : Value} {L : List Nv} (h : KeptAt w o L) (hb : Below w.heap.size w w') : KeptAt w' o L := fun y hy => by
  obtain ⟨h1, h2, h3⟩ := h y hy
  refine ⟨h1.keep hb, ?_, ?_⟩
  · rcases h2 with h2 | ⟨b, off, h2, h4, h5⟩
    · exact .inl h2
    · exact .inr ⟨b, off, h2, Nat.lt_of_lt_of_le h4 hb.size, h5⟩
  · rcases h3 with h2 | ⟨b, off, h2, h4, h5⟩
    · exact .inl h2
    · exact .inr ⟨b, off, h2, Nat.lt_of_lt_of_le h4 hb.size, h5⟩
theorem At.grown {α : Type} [Inhabited α] {s : Nat} {cs : α → List Value} {w w' : World} {a : Option Addr} {l : List α} {row : Option Nat} (h : At s cs w a l) (hg : w.grownBy w' row) (hne : l = [] ∨ ∃ b off, a = some ⟨b, off, none⟩ ∧ row ≠ some b) : At s cs w' a l := by
  rcases h with h | ⟨b, off, ha, h⟩
  · exact .inl h
  · refine .inr ⟨b, off, ha, fun i hi j u hj => hg.cell (h i hi j u hj) ?_⟩
    rcases hne with e | ⟨b', off', e, hr⟩
    · rw [e] at hi; simp at hi
    · rw [ha] at e; cases e; exact fun e => hr e.symm
/-- One more beacon appended to the row of those that are kept. -/
theorem KeptAt.app {w w' : World} {o o' : Value} {L : List Nv} (h : KeptAt w o L) (hg : w.grownBy w' o.ownBlock) (ho : o'.ownBlock = o.ownBlock ∨ o'.ownBlock = some w.heap.size) : KeptAt w' o' L := fun y hy => by
  obtain ⟨h1, h2, h3⟩ := h y hy
  have hne : ∀ b, b < w.heap.size → o.ownBlock ≠ some b → o'.ownBlock ≠ some b := fun b hb hn e => by
    rcases ho with ho | ho
    · rw [ho] at e; exact hn e
    · rw [ho] at e; cases e; exact Nat.lt_irrefl _ hb
  refine ⟨⟨h1.u.grown hg ?_, h1.g.grown hg ?_, h1.un, h1.gn, h1.uc, h1.gc, h1.um, h1.gm⟩, ?_, ?_⟩
  · rcases h3 with h2 | ⟨b, off, h2, h4, h5⟩
    · exact .inl h2
    · exact .inr ⟨b, off, h2, h5⟩
  · rcases h2 with h2 | ⟨b, off, h2, h4, h5⟩
    · exact .inl h2
    · exact .inr ⟨b, off, h2, h5⟩
  · rcases h2 with h2 | ⟨b, off, h2, h4, h5⟩
    · exact .inl h2
    · exact .inr ⟨b, off, h2, Nat.lt_of_lt_of_le h4 hg.size, hne b h4 h5⟩
  · rcases h3 with h2 | ⟨b, off, h2, h4, h5⟩
    · exact .inl h2
    · exact .inr ⟨b, off, h2, Nat.lt_of_lt_of_le h4 hg.size, hne b h4 h5⟩
theorem KeptAt.nil (w : World) (o : Value) : KeptAt w o [] := fun y hy => by cases hy
theorem KeptAt.snoc {w : World} {o : Value} {L : List Nv} {x : Nv} (h : KeptAt w o L) (hx : x.ok w ∧ (x.B.G = [] ∨ ∃ b off, x.ga = some ⟨b, off, none⟩ ∧ b < w.heap.size ∧ o.ownBlock ≠ some b) ∧ (x.B.U = [] ∨ ∃ b off, x.ua = some ⟨b, off, none⟩ ∧ b < w.heap.size ∧ o.ownBlock ≠ some b)) : KeptAt w o (L ++ [x]) := fun y hy => by
  rw [List.mem_append, List.mem_singleton] at hy
  rcases hy with hy | rfl
  · exact h y hy
  · exact hx
/-- Where a list that is not empty lies: below the world's size; and below a base if it lay there. -/
theorem At.where {α : Type} [Inhabited α] {s : Nat} {cs : α → List Value} {w : World} {a : Option Addr} {l : List α} (h : At s cs w a l) (hc : ∀ x, (cs x)[0]? ≠ none) : l = [] ∨ ∃ b off, a = some ⟨b, off, none⟩ ∧ b < w.heap.size := by
  rcases h with h | ⟨b, off, ha, h⟩
  · exact .inl h
  · by_cases hl : 0 < l.length
    · refine .inr ⟨b, off, ha, ?_⟩
      cases hv : (cs (l.getD 0 default))[0]? with
      | none => exact absurd hv (hc _)
      | some v => exact World.block_lt_of_cell? w ⟨b, off + 0 * s + 0, none⟩ (h 0 hl 0 v hv)
    · exact .inl (List.length_eq_zero_iff.1 (by omega))
theorem own_row_at {w : World} {base n : Nat} {v : Value} {l : List Gr} (h : w.ownsRow base 63 5 v n (flatL Gr.cs l)) (hn : n = l.length) : ∃ a cap, v = .slice a n cap ∧ At 5 Gr.cs w a l ∧ n ≤ cap ∧ cap ≤ maxLen ∧ (l = [] ∨ ∃ b off, a = some ⟨b, off, none⟩ ∧ base ≤ b ∧ b < w.heap.size) := by
  obtain ⟨a, cap, rfl, h1, h2, h3⟩ := own_at gr_size h hn
  refine ⟨a, cap, rfl, h1, h2, h3, ?_⟩
  rcases h1.where (by simp) with h4 | ⟨b, off, rfl, h5⟩
  · exact .inl h4
  · rcases h.2 with ⟨hv, -⟩ | ⟨g, cap', cur, hv, -⟩
    · cases hv
    · cases hv
      exact .inr ⟨_, _, rfl, (h.lt _ rfl).1, h5⟩
theorem lately_succ (N : List Nb) (fr : Int) {k : Nat} (hk : k < N.length) : latelyV (N.take (k + 1)) fr = latelyV (N.take k) fr ++ (if latB (N.getD k default).f fr = true then [{ N.getD k default with G := (N.getD k default).G.filter fun g => decide (fr ≤ g.u) }] else []) := by
  unfold latelyV
  rw [filter_snoc (fun n : Nb => latB n.f fr) hk, List.map_append]
  congr 1
  split <;> rfl
theorem nbs_take (N : List Nv) (k : Nat) : (nbs N).take k = nbs (N.take k) := by simp [nbs, List.map_take]

end Go.Proofs.Ytleenbfldkmcaaa
