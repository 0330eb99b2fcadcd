/- Proved: what the small functions of package rank and of its reference return: on distances, routes, offers. Conditions: offers and routes are valid where a theorem says so. -/
import Derived.Test.YtbonchnhngaicaaK0
import Derived.Test.YtbonchnhngaicaaBd
import Derived.Test.YtbonchnhngaicaaLate
namespace Go.Proofs.Ytbonchnhngaicaa
open Go.RowKit Go.Sort Go.BigFrame
set_option linter.unusedVariables false
set_option linter.unusedSimpArgs false
attribute [local go_sem] cell_alloc_old

abbrev Ds.v (d : Ds) : Value := .agg #[.int .i64 d.s, .int .i64 d.r]
abbrev Rt.v (r : Rt) : Value := .agg #[.int .i64 r.o.s, .int .i64 r.o.r, .int .i64 r.l.s, .int .i64 r.l.r, .int .i64 r.p]
abbrev Ofr.v (o : Ofr) : Value := .agg #[.int .i64 o.p, .int .i64 o.t.s, .int .i64 o.t.r, .int .i64 o.c]
abbrev Ds.cs (d : Ds) : List Value := [.int .i64 d.s, .int .i64 d.r]
abbrev Rt.cs (r : Rt) : List Value := [.int .i64 r.o.s, .int .i64 r.o.r, .int .i64 r.l.s, .int .i64 r.l.r, .int .i64 r.p]
abbrev Ofr.cs (o : Ofr) : List Value := [.int .i64 o.p, .int .i64 o.t.s, .int .i64 o.t.r, .int .i64 o.c]
abbrev Yes (y : Bool) (w : World) (e : Ending) (w' : World) : Prop := e = .returned (.bool y) ∧ Below w.heap.size w w'
abbrev Gives (v : Value) (w : World) (e : Ending) (w' : World) : Prop := e = .returned v ∧ Below w.heap.size w w'

set_option maxRecDepth 100000 in
theorem wvalid_any (d : Ds) (w : World) : Calls Try.prog 42 #[d.v] w (Yes (distB d) w) := by
  obtain ⟨s, r⟩ := d
  go_enter Try.func42, Try.ntmps42
  go_wp2_with fail
  all_goals
    go_ret
    exact ⟨by simp [distB, *] <;> omega, ball (Below.refl _ _) _⟩
theorem wvalid_at (d : Ds) (y : Bool) (w : World) (hy : distB d = y) : Calls Try.prog 42 #[d.v] w (Yes y w) := by rw [← hy]; exact wvalid_any d w
set_option maxRecDepth 100000 in
theorem rdist_any (d : Ds) (w : World) : Calls Try.prog 40 #[d.v] w (Yes (distB d) w) := by
  obtain ⟨s, r⟩ := d
  go_enter Try.func40, Try.ntmps40
  go_wp2_with fail
  all_goals
    go_ret
    exact ⟨by simp [distB, *] <;> omega, ball (Below.refl _ _) _⟩
theorem rdist_at (d : Ds) (y : Bool) (w : World) (hy : distB d = y) : Calls Try.prog 40 #[d.v] w (Yes y w) := by rw [← hy]; exact rdist_any d w
set_option maxRecDepth 100000 in
theorem wbetter_any (a b : Ds) (w : World) : Calls Try.prog 32 #[a.v, b.v] w (Yes (betterB a b) w) := by
  obtain ⟨s, r⟩ := a
  obtain ⟨t, q⟩ := b
  go_enter Try.func32, Try.ntmps32
  go_wp2_with fail
  all_goals
    go_ret
    exact ⟨by simp [betterB, *] <;> omega, ball (ball (Below.refl _ _) _) _⟩
theorem wbetter_at (a b : Ds) (y : Bool) (w : World) (hy : betterB a b = y) : Calls Try.prog 32 #[a.v, b.v] w (Yes y w) := by rw [← hy]; exact wbetter_any a b w
set_option maxRecDepth 100000 in
theorem rbetter_any (a b : Ds) (w : World) : Calls Try.prog 15 #[a.v, b.v] w (Yes (betterB a b) w) := by
  obtain ⟨s, r⟩ := a
  obtain ⟨t, q⟩ := b
  go_enter Try.func15, Try.ntmps15
  go_wp2_with fail
  all_goals
    go_ret
    exact ⟨by simp [betterB, *] <;> omega, ball (ball (Below.refl _ _) _) _⟩
theorem rbetter_at (a b : Ds) (y : Bool) (w : World) (hy : betterB a b = y) : Calls Try.prog 15 #[a.v, b.v] w (Yes y w) := by rw [← hy]; exact rbetter_any a b w
theorem better_any (a b : Ds) (w : World) : Calls Try.prog 14 #[a.v, b.v] w (Yes (betterB a b) w) := by
  obtain ⟨y, hy⟩ : ∃ y, betterB a b = y := ⟨_, rfl⟩
  rw [hy]
  have HY := Lib.hid hy; clear hy
  go_enter Try.func14, Try.ntmps14
  go_wp2_with fail
  refine (wbetter_at a b y _ HY.out).mono ?_
  rintro e w1 ⟨rfl, b1⟩
  have B := bstep (ball (ball (Below.refl _ _) _) _) b1
  go_wp2_with fail
  go_ret
  exact ⟨rfl, B⟩
theorem better_at (a b : Ds) (y : Bool) (w : World) (hy : betterB a b = y) : Calls Try.prog 14 #[a.v, b.v] w (Yes y w) := by rw [← hy]; exact better_any a b w
set_option maxRecDepth 100000 in
theorem through_any (o : Ofr) (w : World) (h0 : 0 ≤ o.t.r) (h1 : o.t.r ≤ 1000000) (c0 : 1 ≤ o.c) (c1 : o.c ≤ 4096) : Calls Try.prog 39 #[o.v] w (Gives (thr o).v w) := by
  obtain ⟨p, ⟨s, r⟩, c⟩ := o
  simp only at h0 h1 c0 c1
  go_enter Try.func39, Try.ntmps39
  go_wp2_with fail
  refine bodyPost_ret (v := (thr ⟨p, ⟨s, r⟩, c⟩).v) (by simp [results, Try.results39, go_sem, thr]) rfl ⟨rfl, ball (ball (Below.refl _ _) _) _⟩
theorem through_at (o : Ofr) (d : Ds) (w : World) (h0 : 0 ≤ o.t.r) (h1 : o.t.r ≤ 1000000) (c0 : 1 ≤ o.c) (c1 : o.c ≤ 4096) (hd : thr o = d) : Calls Try.prog 39 #[o.v] w (Gives d.v w) := by rw [← hd]; exact through_any o w h0 h1 c0 c1
end Go.Proofs.Ytbonchnhngaicaa
