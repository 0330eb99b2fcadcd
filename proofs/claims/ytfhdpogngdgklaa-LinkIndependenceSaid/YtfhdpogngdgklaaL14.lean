/- Proved: that the laws LinkMatchesReference, LinkBounds, LinkBetter and LinkRecovery return true for every input. Conditions: the list lies in memory. -/
import Derived.Test.YtfhdpogngdgklaaL13
namespace Go.Proofs.Ytfhdpogngdgklaa
open Go.RowKit Go.Sort Go.BigFrame
set_option linter.unusedVariables false
set_option linter.unusedSimpArgs false
attribute [local go_sem] cell_alloc_old

theorem peq_bounds : ∀ s < 32, ∀ g < 32, g ≤ s → 128 ≤ priceV ⟨0, (s : Nat), (g : Nat)⟩ ∧ priceV ⟨0, (s : Nat), (g : Nat)⟩ ≤ 4096 ∧ (priceV ⟨0, (s : Nat), (g : Nat)⟩ = 128 ↔ s = g) := by decide +kernel
theorem peq_better : ∀ s < 32, ∀ g < 32, g ≤ s → priceV (cntV ⟨0, (s : Nat), (g : Nat)⟩ true) ≤ priceV (cntV ⟨0, (s : Nat), (g : Nat)⟩ false) ∧
    (s = 31 ∨ priceV (cntV ⟨0, (s : Nat), (g : Nat)⟩ true) ≤ priceV ⟨0, (s : Nat), (g : Nat)⟩ ∧ priceV ⟨0, (s : Nat), (g : Nat)⟩ ≤ priceV (cntV ⟨0, (s : Nat), (g : Nat)⟩ false)) := by decide +kernel
def cntN (x : Lk) (acked : Bool) : Nat → Lk
  | 0 => x
  | k + 1 => cntV (cntN x acked k) acked
theorem peq_recovery : ∀ s < 32, ∀ g < 32, g ≤ s → priceV (cntN ⟨0, (s : Nat), (g : Nat)⟩ true 5) ≤ 896 ∧ priceV (cntN ⟨0, (s : Nat), (g : Nat)⟩ true 96) ≤ 160 ∧ 2176 ≤ priceV (cntN ⟨0, (s : Nat), (g : Nat)⟩ false 160) := by decide +kernel
theorem price_p (p q s g : Int) : priceV ⟨p, s, g⟩ = priceV ⟨q, s, g⟩ := rfl
theorem cnt_sg (p q s g : Int) (acked : Bool) : (cntV ⟨p, s, g⟩ acked).s = (cntV ⟨q, s, g⟩ acked).s ∧ (cntV ⟨p, s, g⟩ acked).g = (cntV ⟨q, s, g⟩ acked).g := by
  unfold cntV; simp only []; split <;> exact ⟨rfl, rfl⟩
theorem cntN_sg (p q s g : Int) (acked : Bool) : ∀ k, (cntN ⟨p, s, g⟩ acked k).s = (cntN ⟨q, s, g⟩ acked k).s ∧ (cntN ⟨p, s, g⟩ acked k).g = (cntN ⟨q, s, g⟩ acked k).g
  | 0 => ⟨rfl, rfl⟩
  | k + 1 => by
    obtain ⟨h1, h2⟩ := cntN_sg p q s g acked k
    have e : ∀ z : Lk, z = ⟨z.p, z.s, z.g⟩ := fun _ => rfl
    have := cnt_sg (cntN ⟨p, s, g⟩ acked k).p (cntN ⟨q, s, g⟩ acked k).p (cntN ⟨q, s, g⟩ acked k).s (cntN ⟨q, s, g⟩ acked k).g acked
    have e1 : cntN ⟨p, s, g⟩ acked (k + 1) = cntV ⟨(cntN ⟨p, s, g⟩ acked k).p, (cntN ⟨q, s, g⟩ acked k).s, (cntN ⟨q, s, g⟩ acked k).g⟩ acked := by rw [← h1, ← h2]; rfl
    rw [e1]
    exact this
theorem price_sg {x y : Lk} (h : x.s = y.s ∧ x.g = y.g) : priceV x = priceV y := by unfold priceV; rw [h.1, h.2]
/-- A good link as two small numbers. -/
theorem nat_of {x : Lk} (hx : lkOk x = true) : ∃ s g : Nat, s < 32 ∧ g < 32 ∧ g ≤ s ∧ x.s = s ∧ x.g = g := by
  rw [lkOk_iff] at hx
  exact ⟨x.s.toNat, x.g.toNat, by omega, by omega, by omega, by omega, by omega⟩
theorem bounds_of {x : Lk} (hx : lkOk x = true) : 128 ≤ priceV x ∧ priceV x ≤ 4096 ∧ (priceV x = 128 ↔ x.s = x.g) := by
  obtain ⟨s, g, h1, h2, h3, h4, h5⟩ := nat_of hx
  have := peq_bounds s h1 g h2 h3
  rw [price_sg (x := x) (y := ⟨0, s, g⟩) ⟨h4, h5⟩, h4, h5]
  exact ⟨this.1, this.2.1, by rw [this.2.2]; omega⟩
theorem better_of {x : Lk} (hx : lkOk x = true) : priceV (cntV x true) ≤ priceV (cntV x false) ∧ (x.s = 31 ∨ priceV (cntV x true) ≤ priceV x ∧ priceV x ≤ priceV (cntV x false)) := by
  obtain ⟨s, g, h1, h2, h3, h4, h5⟩ := nat_of hx
  have := peq_better s h1 g h2 h3
  have e : ∀ b, priceV (cntV x b) = priceV (cntV ⟨0, s, g⟩ b) := fun b => price_sg (by
    have := cnt_sg x.p 0 x.s x.g b
    rw [h4, h5] at this
    have e2 : x = ⟨x.p, s, g⟩ := by rw [← h4, ← h5]
    rw [e2]; exact this)
  rw [e, e, price_sg (x := x) (y := ⟨0, s, g⟩) ⟨h4, h5⟩, h4]
  refine ⟨this.1, this.2.imp (fun h => by omega) id⟩
theorem of_after {ls : List Lk} (hv : validV ls = true) {peer : Int} (h0 : 0 ≤ peer) (h1 : peer ≤ 59) (acked : Bool) : ∀ k, ofV (afterV ls peer acked k) peer = cntN (ofV ls peer) acked k
  | 0 => rfl
  | k + 1 => by rw [afterV, of_count_same (after_valid hv h0 h1 acked k) h0 h1, of_after hv h0 h1 acked k]; rfl
theorem cost_after {ls : List Lk} (hv : validV ls = true) {peer : Int} (h0 : 0 ≤ peer) (h1 : peer ≤ 59) (acked : Bool) (k : Nat) : costV (afterV ls peer acked k) peer = priceV (cntN (ofV ls peer) acked k) := by
  unfold costV
  rw [if_pos ⟨after_valid hv h0 h1 acked k, h0, h1⟩, of_after hv h0 h1]
theorem recovery_of {x : Lk} (hx : lkOk x = true) : priceV (cntN x true 5) ≤ 896 ∧ priceV (cntN x true 96) ≤ 160 ∧ 2176 ≤ priceV (cntN x false 160) := by
  obtain ⟨s, g, h1, h2, h3, h4, h5⟩ := nat_of hx
  have := peq_recovery s h1 g h2 h3
  have e : ∀ b k, priceV (cntN x b k) = priceV (cntN ⟨0, s, g⟩ b k) := fun b k => price_sg (by
    have := cntN_sg x.p 0 x.s x.g b k
    rw [h4, h5] at this
    have e2 : x = ⟨x.p, s, g⟩ := by rw [← h4, ← h5]
    rw [e2]; exact this)
  rw [e, e, e]
  exact this

set_option maxRecDepth 100000 in
set_option maxHeartbeats 4000000 in
theorem lawMatches (a : Option Addr) (cap : Nat) (ls : List Lk) (peer : Int) (acked : Bool) (w : World) (hl : LkAt w a ls) (hcap : ls.length ≤ cap) (hcm : cap ≤ maxLen) :
    Calls Try.prog 3 #[.slice a ls.length cap, .int .i64 peer, .bool acked] w fun e w' => e = .returned (.bool true) ∧ Below w.heap.size w w' := by
  have hm : ls.length ≤ maxLen := Nat.le_trans hcap hcm
  obtain ⟨n, hn⟩ : ∃ n, n = ls.length := ⟨_, rfl⟩
  rw [← hn]
  have HN := Lib.hid hn; have HM := Lib.hid hm; have HC1 := Lib.hid hcap; have HC2 := Lib.hid hcm
  have hnm : n ≤ 9223372036854775807 := by rw [hn]; exact Nat.le_trans hm (by unfold maxLen; omega)
  clear hn hm hcap hcm
  by_cases h100 : 100 < n
  · have h100' : (100 : Int) < (n : Int) := by omega
    go_enter Try.func3, Try.ntmps3
    go_wp2_with fail
    refine (head_any _).mono ?_
    rintro e w1 ⟨rfl, b1⟩
    go_wp2_with fail
    go_ret
    exact ⟨rfl, b1⟩
  · have h100' : ¬ (100 : Int) < (n : Int) := by omega
    obtain ⟨zs, hzs⟩ : ∃ zs, cListV ls peer acked = zs := ⟨_, rfl⟩
    obtain ⟨er, her⟩ : ∃ er, errV ls peer = er := ⟨_, rfl⟩
    obtain ⟨v, hv⟩ : ∃ v, costV ls peer = v := ⟨_, rfl⟩
    have HV := Lib.hid hv; clear hv
    have hc := fun (w' : World) (h : LkAt w' a ls) => count_gen n a cap ls peer acked w' HN.out h HC1.out HC2.out
    have hrc := fun (w' : World) (h : LkAt w' a ls) => rcount_gen n a cap ls peer acked w' HN.out h HM.out
    rw [hzs, her] at hc hrc
    clear hzs her
    go_enter Try.func3, Try.ntmps3
    go_wp2_with fail
    refine (head_any _).mono ?_
    rintro e w1 ⟨rfl, b1⟩
    have hl := hl.keep b1
    go_wp2_with fail
    refine (hc _ hl).mono ?_
    rintro e w2 ⟨a1, c1, rfl, l1, x1, y1, b⟩
    have B := bstep b1 b
    have hl := hl.keep b
    clear b b1 hc
    have zm : zs.length ≤ maxLen := Nat.le_trans x1 y1
    have HZM := Lib.hid zm; clear zm x1
    obtain ⟨nz, hnz⟩ : ∃ nz, zs.length = nz := ⟨_, rfl⟩
    rw [hnz]
    have HNZ := Lib.hid hnz
    go_wp2_with fail
    refine (hrc _ hl).mono ?_
    rintro e w3 ⟨a2, c2, rfl, l2, x2, y2, b⟩
    have B := bstep B b
    have hl := hl.keep b
    have l1 := l1.keep b
    clear b hrc x2
    rw [hnz]
    clear hnz
    go_wp2_with fail
    refine (same_at nz nz a1 a2 c1 c2 zs _ HNZ.out.symm HNZ.out.symm l1 l2 HZM.out).mono ?_
    rintro e w4 ⟨rfl, b⟩
    have B := bstep B b
    have hl := hl.keep b
    clear b l1 l2
    go_wp2_with fail
    refine (cost_at n a cap ls peer v _ HN.out hl HM.out HV.out).mono ?_
    rintro e w5 ⟨rfl, b⟩
    have B := bstep B b
    have hl := hl.keep b
    clear b
    go_wp2_with fail
    refine (rcost_at n a cap ls peer v _ HN.out hl HM.out HV.out).mono ?_
    rintro e w6 ⟨rfl, b⟩
    have B := bstep B b
    clear b hl
    go_wp2_with fail
    go_ret
    exact ⟨by simp, B⟩
end Go.Proofs.Ytfhdpogngdgklaa
