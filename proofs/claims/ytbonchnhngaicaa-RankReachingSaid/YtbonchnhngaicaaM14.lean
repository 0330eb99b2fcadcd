/- Proved: that apply, a function of the statements, performs any move on a mesh in memory. Conditions: those that the theorem names. -/
import Derived.Test.YtbonchnhngaicaaN1
import Derived.Test.YtbonchnhngaicaaM4
import Derived.Test.YtbonchnhngaicaaM6
import Derived.Test.YtbonchnhngaicaaM7
import Derived.Test.YtbonchnhngaicaaM8
import Derived.Test.YtbonchnhngaicaaM9
import Derived.Test.YtbonchnhngaicaaM10
import Derived.Test.YtbonchnhngaicaaM13
namespace Go.Proofs.Ytbonchnhngaicaa
open Go.RowKit Go.Sort Go.BigFrame
set_option linter.unusedVariables false
set_option linter.unusedSimpArgs false
/-- A move, as the statements give it. -/
structure Mv where
  d : Int
  nd : Int
  fr : Int
  lt : Int
  co : Int
abbrev Mv.v (x : Mv) : Value := .agg #[.int .u8 x.d, .int .u8 x.nd, .int .u8 x.fr, .int .u8 x.lt, .int .u16 x.co]
structure Mv.ok (x : Mv) : Prop where
  d0 : 0 ≤ x.d
  d1 : x.d ≤ 255
  n0 : 0 ≤ x.nd
  n1 : x.nd ≤ 255
  f0 : 0 ≤ x.fr
  f1 : x.fr ≤ 255
  l0 : 0 ≤ x.lt
  l1 : x.lt ≤ 255
  c0 : 0 ≤ x.co
  c1 : x.co ≤ 65535
/-- A move of a mesh of n nodes. -/
def doM (n : Nat) (M : Msh) (x : Mv) : Msh := moveM M x.d x.lt x.co (x.nd.tmod n).toNat (x.fr.tmod n).toNat
theorem mod_nat {a : Int} {n : Nat} (h : 0 ≤ a) (hn : 0 < n) : a.tmod n = ((a.tmod n).toNat : Int) ∧ (a.tmod n).toNat < n := by
  rw [Int.tmod_eq_emod_of_nonneg h]
  have h1 := Int.emod_nonneg a (b := (n : Int)) (by omega)
  have h2 := Int.emod_lt_of_pos a (b := (n : Int)) (by omega)
  omega
theorem apply_any (K : Nat → Prop) (w0 w : World) (mb n : Nat) (M : Msh) (hM : MeshAt K w0 w mb n M) (hn : 2 ≤ n) (hn2 : n ≤ 100) (x : Mv) (hx : x.ok) (m : Nat) (hm : m ≤ 1000000) (hS : Short m M)
    (hT : ∀ k, k < n → 0 < (M.T k).length) (h0 : 0 ≤ (M.R 0).o.s ∧ (M.R 0).o.s ≤ 1000000000) :
    Calls Try.prog 27 #[.pointer (some ⟨mb, 0, none⟩), x.v] w fun e w' => e = .returned (.tuple #[]) ∧ MeshAt K w0 w' mb n (doM n M x) ∧ Below mb w w' := by
  obtain ⟨gr, cr, gt, ct, gh, ch, ts, hs, hM⟩ := hM
  obtain ⟨e1, e2⟩ := mod_nat (n := n) hx.n0 (by omega)
  obtain ⟨e3, e4⟩ := mod_nat (n := n) hx.f0 (by omega)
  have conv : ∀ {M' : Msh} {e : Ending} {w' : World}, Heard K w0 w mb n n n M' (.slice (some ⟨gr, 0, none⟩) n cr) (.slice (some ⟨gt, 0, none⟩) n ct) (.slice (some ⟨gh, 0, none⟩) n ch) e w' → e = .returned (.tuple #[]) ∧ MeshAt K w0 w' mb n M' ∧ Below mb w w' := fun ⟨h1, ⟨ts', hs', h2⟩, h3⟩ => ⟨h1, ⟨gr, cr, gt, ct, gh, ch, ts', hs', h2⟩, h3⟩
  have lt1 : Hid (∀ j, (M.T j).length ≤ 1000000) := Lib.hid fun j => Nat.le_trans (hS.t j) hm
  have lh1 : Hid (∀ j, (M.H j).length ≤ 1000000) := Lib.hid fun j => Nat.le_trans (hS.h j) hm
  obtain ⟨d, nd, fr, lt, co⟩ := x
  unfold doM
  simp only at e1 e2 e3 e4 ⊢
  generalize (nd.tmod n).toNat = i at *
  generalize (fr.tmod n).toNat = k at *
  obtain ⟨q1, q2, q3, q4, q5, q6, q7, q8, q9, q10⟩ := hx
  simp only at q1 q2 q3 q4 q5 q6 q7 q8 q9 q10
  cases hd : (d % 4 == 0)
  · cases hd1 : (d % 4 == 1)
    · cases hd2 : (d % 4 == 2)
      · refine (apply_3 K w0 w mb n M gr cr gt ct gh ch ts hs hM hn hn2 d nd fr lt co q1 q2 q3 q4 q5 q6 q7 q8 q9 q10 i k e1 e3 e2 e4 lt1 lh1 hd hd1 hd2 (by omega) h0.1 _ (Lib.hid rfl)).mono fun e w' h => ?_
        rw [show moveM M d lt co i k = _ from by unfold moveM; rw [hd, hd1, hd2]]
        exact conv h
      · refine (apply_2 K w0 w mb n M gr cr gt ct gh ch ts hs hM hn hn2 d nd fr lt co q1 q2 q3 q4 q5 q6 q7 q8 q9 q10 i k e1 e3 e2 e4 lt1 lh1 hd hd1 hd2 _ rfl _ (Lib.hid rfl)).mono fun e w' h => ?_
        rw [show moveM M d lt co i k = _ from by unfold moveM; rw [hd, hd1, hd2]]
        exact conv h
    · cases hik : ((i : Int) == (k : Int))
      · have hk := hT k e4
        refine (apply_1b K w0 w mb n M gr cr gt ct gh ch ts hs hM hn hn2 d nd fr lt co q1 q2 q3 q4 q5 q6 q7 q8 q9 q10 i k e1 e3 e2 e4 lt1 lh1 hd hd1 hik _ (max 0 (((M.T k).length : Int) - 1 - lt % 8)).toNat (Lib.hid rfl) (lt1.out k) (by omega) (late_lt hk q7) _ (Lib.hid rfl)).mono fun e w' h => ?_
        rw [show moveM M d lt co i k = _ from by unfold moveM; rw [hd, hd1, hik]]
        exact conv h
      · refine (apply_1a K w0 w mb n M gr cr gt ct gh ch ts hs hM hn hn2 d nd fr lt co q1 q2 q3 q4 q5 q6 q7 q8 q9 q10 i k e1 e3 e2 e4 lt1 lh1 hd hd1 hik).mono fun e w' h => ?_
        rw [show moveM M d lt co i k = _ from by unfold moveM; rw [hd, hd1, hik]]
        exact conv h
  · by_cases hi : (0 : Int) < i
    · refine (apply_0 K w0 w mb n M gr cr gt ct gh ch ts hs hM hn hn2 d nd fr lt co q1 q2 q3 q4 q5 q6 q7 q8 q9 q10 i k e1 e3 e2 e4 lt1 lh1 hd hi _ (Lib.hid rfl)).mono fun e w' h => ?_
      rw [show moveM M d lt co i k = _ from by unfold moveM; rw [hd, if_pos rfl, if_pos hi]]
      exact conv h
    · refine (apply_00 K w0 w mb n M gr cr gt ct gh ch ts hs hM hn hn2 d nd fr lt co q1 q2 q3 q4 q5 q6 q7 q8 q9 q10 i k e1 e3 e2 e4 lt1 lh1 hd hi).mono fun e w' h => ?_
      rw [show moveM M d lt co i k = _ from by unfold moveM; rw [hd, if_pos rfl, if_neg hi]]
      exact conv h
end Go.Proofs.Ytbonchnhngaicaa
