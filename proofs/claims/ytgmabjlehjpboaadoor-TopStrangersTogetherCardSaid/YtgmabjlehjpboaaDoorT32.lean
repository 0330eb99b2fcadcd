/- Proved: a stranger with the root's ring opens what the root seals. Conditions: those that each theorem names; the table of steps lies where it lay. -/
import Derived.Test.YtgmabjlehjpboaaDoorT29
namespace Go.Proofs.YtgmabjlehjpboaaDoor
open Go.RowKit Go.Sort Go.BigFrame Go.Proofs.YtgmabjlehjpboaaDoor.K
set_option linter.unusedVariables false
set_option linter.unusedSimpArgs false
attribute [local go_sem] cell_alloc_old

open Go.Maps Go.Shelf
theorem root_in {a : Int} (h0 : 0 ≤ a) (h1 : a ≤ 1000000000) : rootF a = a / 2000 ∧ rootN a = a / 2000 + 2 := by
  have h : slotN a = true := by simp [slotN, h0, h1]
  simp [rootF, rootN, h]
theorem ep_in {a : Int} (h0 : 0 ≤ a) (h1 : a ≤ 1000000000) : epV a = a / 2000 ∧ epE a = 0 := by
  have h : slotN a = true := by simp [slotN, h0, h1]
  simp [epV, epE, h]
theorem kn_in {e x : Int} (h0 : 0 ≤ e) (h1 : e ≤ 500000) : knowsR e (e + 2) x = decide (e ≤ x ∧ x < e + 2) := by
  unfold knowsR validR
  have : (decide (0 ≤ e ∧ e ≤ 500000 ∧ e + 1 ≤ e + 2 ∧ e + 2 ≤ 500002)) = true := by simp only [decide_eq_true_eq]; omega
  rw [this]; simp
set_option maxRecDepth 100000 in
set_option maxHeartbeats 4000000 in
theorem keyd_e0 (id me boot tries fr asn lat : Int) (ab : Option Addr) (nb cb : Nat) (w : World) (hTab : Tab w) (h0 : fr < 0) :
    Calls Tryd.prog 6 #[.int .i64 id, .int .i64 me, .int .i64 boot, .int .i64 tries, .int .i64 fr, .int .i64 asn, .int .u16 lat, .slice ab nb cb] w (Ans (.bool true) w) := by
  go_enter Tryd.func6, Tryd.ntmps6
  go_wp2_with fail
  refine (head_any w hTab).mono ?_
  rintro e w1 ⟨rfl, b1⟩
  have BB := b1
  clear b1
  go_upto_region 3 with (fail)
  have bs2 : w.heap.size ≤ w1.heap.size := BB.size
  have Ts := CAt.new (w1) [.int .i64 id, .int .i64 0, .int .i64 (-1), .int .i64 0, .int .i64 0, .int .i64 tries] 30
  have Fs := Fz.new (w1) #[.int .i64 id, .int .i64 0, .int .i64 (-1), .int .i64 0, .int .i64 0, .int .i64 tries] 30
  replace BB := ball BB (.cells #[.int .i64 id, .int .i64 0, .int .i64 (-1), .int .i64 0, .int .i64 0, .int .i64 tries] 30)
  obtain ⟨V2, hV2⟩ : ∃ V2, w1.alloc (.cells #[.int .i64 id, .int .i64 0, .int .i64 (-1), .int .i64 0, .int .i64 0, .int .i64 tries] 30) = V2 := ⟨_, rfl⟩
  rw [hV2] at BB Ts Fs ⊢
  clear hV2
  obtain ⟨k2, hk2⟩ : ∃ k2, w1.heap.size = k2 := ⟨_, rfl⟩
  rw [hk2] at Ts Fs bs2 ⊢
  clear hk2
  go_wp2_with fail
  go_ret
  exact ⟨rfl, BB⟩
set_option maxRecDepth 100000 in
set_option maxHeartbeats 4000000 in
theorem keyd_e1 (id me boot tries fr asn lat : Int) (ab : Option Addr) (nb cb : Nat) (w : World) (hTab : Tab w) (h0 : ¬ fr < 0) (h1 : 999999980 < fr) :
    Calls Tryd.prog 6 #[.int .i64 id, .int .i64 me, .int .i64 boot, .int .i64 tries, .int .i64 fr, .int .i64 asn, .int .u16 lat, .slice ab nb cb] w (Ans (.bool true) w) := by
  go_enter Tryd.func6, Tryd.ntmps6
  go_wp2_with fail
  refine (head_any w hTab).mono ?_
  rintro e w1 ⟨rfl, b1⟩
  have BB := b1
  clear b1
  go_upto_region 3 with (fail)
  have bs2 : w.heap.size ≤ w1.heap.size := BB.size
  have Ts := CAt.new (w1) [.int .i64 id, .int .i64 0, .int .i64 (-1), .int .i64 0, .int .i64 0, .int .i64 tries] 30
  have Fs := Fz.new (w1) #[.int .i64 id, .int .i64 0, .int .i64 (-1), .int .i64 0, .int .i64 0, .int .i64 tries] 30
  replace BB := ball BB (.cells #[.int .i64 id, .int .i64 0, .int .i64 (-1), .int .i64 0, .int .i64 0, .int .i64 tries] 30)
  obtain ⟨V2, hV2⟩ : ∃ V2, w1.alloc (.cells #[.int .i64 id, .int .i64 0, .int .i64 (-1), .int .i64 0, .int .i64 0, .int .i64 tries] 30) = V2 := ⟨_, rfl⟩
  rw [hV2] at BB Ts Fs ⊢
  clear hV2
  obtain ⟨k2, hk2⟩ : ∃ k2, w1.heap.size = k2 := ⟨_, rfl⟩
  rw [hk2] at Ts Fs bs2 ⊢
  clear hk2
  go_wp2_with fail
  go_ret
  exact ⟨rfl, BB⟩
set_option maxRecDepth 100000 in
set_option maxHeartbeats 4000000 in
theorem keyd_e2 (id me boot tries fr asn lat : Int) (ab : Option Addr) (nb cb : Nat) (w : World) (hTab : Tab w) (h0 : ¬ fr < 0) (h1 : ¬ 999999980 < fr) (h2 : asn < 0) :
    Calls Tryd.prog 6 #[.int .i64 id, .int .i64 me, .int .i64 boot, .int .i64 tries, .int .i64 fr, .int .i64 asn, .int .u16 lat, .slice ab nb cb] w (Ans (.bool true) w) := by
  go_enter Tryd.func6, Tryd.ntmps6
  go_wp2_with fail
  refine (head_any w hTab).mono ?_
  rintro e w1 ⟨rfl, b1⟩
  have BB := b1
  clear b1
  go_upto_region 3 with (fail)
  have bs2 : w.heap.size ≤ w1.heap.size := BB.size
  have Ts := CAt.new (w1) [.int .i64 id, .int .i64 0, .int .i64 (-1), .int .i64 0, .int .i64 0, .int .i64 tries] 30
  have Fs := Fz.new (w1) #[.int .i64 id, .int .i64 0, .int .i64 (-1), .int .i64 0, .int .i64 0, .int .i64 tries] 30
  replace BB := ball BB (.cells #[.int .i64 id, .int .i64 0, .int .i64 (-1), .int .i64 0, .int .i64 0, .int .i64 tries] 30)
  obtain ⟨V2, hV2⟩ : ∃ V2, w1.alloc (.cells #[.int .i64 id, .int .i64 0, .int .i64 (-1), .int .i64 0, .int .i64 0, .int .i64 tries] 30) = V2 := ⟨_, rfl⟩
  rw [hV2] at BB Ts Fs ⊢
  clear hV2
  obtain ⟨k2, hk2⟩ : ∃ k2, w1.heap.size = k2 := ⟨_, rfl⟩
  rw [hk2] at Ts Fs bs2 ⊢
  clear hk2
  go_wp2_with fail
  go_ret
  exact ⟨rfl, BB⟩
set_option maxRecDepth 100000 in
set_option maxHeartbeats 4000000 in
theorem keyd_e3 (id me boot tries fr asn lat : Int) (ab : Option Addr) (nb cb : Nat) (w : World) (hTab : Tab w) (h0 : ¬ fr < 0) (h1 : ¬ 999999980 < fr) (h2 : ¬ asn < 0) (h3 : 999996000 < asn) :
    Calls Tryd.prog 6 #[.int .i64 id, .int .i64 me, .int .i64 boot, .int .i64 tries, .int .i64 fr, .int .i64 asn, .int .u16 lat, .slice ab nb cb] w (Ans (.bool true) w) := by
  go_enter Tryd.func6, Tryd.ntmps6
  go_wp2_with fail
  refine (head_any w hTab).mono ?_
  rintro e w1 ⟨rfl, b1⟩
  have BB := b1
  clear b1
  go_upto_region 3 with (fail)
  have bs2 : w.heap.size ≤ w1.heap.size := BB.size
  have Ts := CAt.new (w1) [.int .i64 id, .int .i64 0, .int .i64 (-1), .int .i64 0, .int .i64 0, .int .i64 tries] 30
  have Fs := Fz.new (w1) #[.int .i64 id, .int .i64 0, .int .i64 (-1), .int .i64 0, .int .i64 0, .int .i64 tries] 30
  replace BB := ball BB (.cells #[.int .i64 id, .int .i64 0, .int .i64 (-1), .int .i64 0, .int .i64 0, .int .i64 tries] 30)
  obtain ⟨V2, hV2⟩ : ∃ V2, w1.alloc (.cells #[.int .i64 id, .int .i64 0, .int .i64 (-1), .int .i64 0, .int .i64 0, .int .i64 tries] 30) = V2 := ⟨_, rfl⟩
  rw [hV2] at BB Ts Fs ⊢
  clear hV2
  obtain ⟨k2, hk2⟩ : ∃ k2, w1.heap.size = k2 := ⟨_, rfl⟩
  rw [hk2] at Ts Fs bs2 ⊢
  clear hk2
  go_wp2_with fail
  go_ret
  exact ⟨rfl, BB⟩
set_option maxRecDepth 100000 in
set_option maxHeartbeats 4000000 in
theorem keyd_e4 (id me boot tries fr asn lat : Int) (ab : Option Addr) (nb cb : Nat) (w : World) (hTab : Tab w) (h0 : ¬ fr < 0) (h1 : ¬ 999999980 < fr) (h2 : ¬ asn < 0) (h3 : ¬ 999996000 < asn) (h4 : 100 < (nb : Int)) :
    Calls Tryd.prog 6 #[.int .i64 id, .int .i64 me, .int .i64 boot, .int .i64 tries, .int .i64 fr, .int .i64 asn, .int .u16 lat, .slice ab nb cb] w (Ans (.bool true) w) := by
  go_enter Tryd.func6, Tryd.ntmps6
  go_wp2_with fail
  refine (head_any w hTab).mono ?_
  rintro e w1 ⟨rfl, b1⟩
  have BB := b1
  clear b1
  go_upto_region 3 with (fail)
  have bs2 : w.heap.size ≤ w1.heap.size := BB.size
  have Ts := CAt.new (w1) [.int .i64 id, .int .i64 0, .int .i64 (-1), .int .i64 0, .int .i64 0, .int .i64 tries] 30
  have Fs := Fz.new (w1) #[.int .i64 id, .int .i64 0, .int .i64 (-1), .int .i64 0, .int .i64 0, .int .i64 tries] 30
  replace BB := ball BB (.cells #[.int .i64 id, .int .i64 0, .int .i64 (-1), .int .i64 0, .int .i64 0, .int .i64 tries] 30)
  obtain ⟨V2, hV2⟩ : ∃ V2, w1.alloc (.cells #[.int .i64 id, .int .i64 0, .int .i64 (-1), .int .i64 0, .int .i64 0, .int .i64 tries] 30) = V2 := ⟨_, rfl⟩
  rw [hV2] at BB Ts Fs ⊢
  clear hV2
  obtain ⟨k2, hk2⟩ : ∃ k2, w1.heap.size = k2 := ⟨_, rfl⟩
  rw [hk2] at Ts Fs bs2 ⊢
  clear hk2
  go_wp2_with fail
  go_ret
  exact ⟨rfl, BB⟩
set_option maxRecDepth 100000 in
set_option maxHeartbeats 4000000 in
theorem keyd_no (id me boot tries fr asn lat : Int) (ab : Option Addr) (nb cb : Nat) (w : World) (hTab : Tab w) (h0 : ¬ fr < 0) (h1 : ¬ 999999980 < fr) (h2 : ¬ asn < 0) (h3 : ¬ 999996000 < asn) (h4 : ¬ 100 < (nb : Int)) (hA : askB tries id boot me fr = false) :
    Calls Tryd.prog 6 #[.int .i64 id, .int .i64 me, .int .i64 boot, .int .i64 tries, .int .i64 fr, .int .i64 asn, .int .u16 lat, .slice ab nb cb] w (Ans (.bool true) w) := by
  have HA := Lib.hid hA; clear hA
  go_enter Tryd.func6, Tryd.ntmps6
  go_wp2_with fail
  refine (head_any w hTab).mono ?_
  rintro e w1 ⟨rfl, b1⟩
  have BB := b1
  clear b1
  go_upto_region 3 with (fail)
  have bs2 : w.heap.size ≤ w1.heap.size := BB.size
  have Ts := CAt.new (w1) [.int .i64 id, .int .i64 0, .int .i64 (-1), .int .i64 0, .int .i64 0, .int .i64 tries] 30
  have Fs := Fz.new (w1) #[.int .i64 id, .int .i64 0, .int .i64 (-1), .int .i64 0, .int .i64 0, .int .i64 tries] 30
  replace BB := ball BB (.cells #[.int .i64 id, .int .i64 0, .int .i64 (-1), .int .i64 0, .int .i64 0, .int .i64 tries] 30)
  obtain ⟨V2, hV2⟩ : ∃ V2, w1.alloc (.cells #[.int .i64 id, .int .i64 0, .int .i64 (-1), .int .i64 0, .int .i64 0, .int .i64 tries] 30) = V2 := ⟨_, rfl⟩
  rw [hV2] at BB Ts Fs ⊢
  clear hV2
  obtain ⟨k2, hk2⟩ : ∃ k2, w1.heap.size = k2 := ⟨_, rfl⟩
  rw [hk2] at Ts Fs bs2 ⊢
  clear hk2
  go_wp2_with fail
  refine (ask8_no k2 0 id tries boot me fr none 0 0 V2 (CAt.sg (j := ⟨0, -1, 0, 0, tries⟩) Ts) HA.out).mono ?_
  rintro e w9 ⟨rfl, b9⟩
  replace BB := bstep BB b9
  go_wp2_with fail
  go_ret
  exact ⟨rfl, BB⟩
set_option maxRecDepth 100000 in
set_option maxHeartbeats 4000000 in
theorem keyd_yes (id me boot tries fr asn lat : Int) (ab : Option Addr) (nb cb : Nat) (w : World) (hTab : Tab w) (h0 : ¬ fr < 0) (h1 : ¬ 999999980 < fr) (h2 : ¬ asn < 0) (h3 : ¬ 999996000 < asn) (h4 : ¬ 100 < (nb : Int)) (hA : askB tries id boot me fr = true) (hl0 : 0 ≤ lat) (hl1 : lat ≤ 65535) (hid64 : True) :
    Calls Tryd.prog 6 #[.int .i64 id, .int .i64 me, .int .i64 boot, .int .i64 tries, .int .i64 fr, .int .i64 asn, .int .u16 lat, .slice ab nb cb] w (Ans (.bool true) w) := by
  have hN := askB_nodes hA
  have hT3 := askB_tries hA
  have hfr : inB fr 999999988 = true := by unfold inB; simp only [decide_eq_true_eq]; omega
  have hfr1 : inB (fr + 1) 999999988 = true := by unfold inB; simp only [decide_eq_true_eq]; omega
  have htr : triesB (tries + 1) = true := by unfold triesB; simp only [decide_eq_true_eq]; omega
  have hwf1 : IntKind.i64.wrap (fr + 1) = fr + 1 := IntWalk.i64_in _ (by omega)
  have hwf2 : IntKind.i64.wrap (fr + 2) = fr + 2 := IntWalk.i64_in _ (by omega)
  obtain ⟨e0, he0⟩ : ∃ e0, asn / 2000 = e0 := ⟨_, rfl⟩
  have hro : rootF asn = e0 ∧ rootN asn = e0 + 2 := by have := root_in (a := asn) (by omega) (by omega); rw [he0] at this; exact this
  have hep : epV asn = e0 ∧ epE asn = 0 := by have := ep_in (a := asn) (by omega) (by omega); rw [he0] at this; exact this
  have he1 : 0 ≤ e0 ∧ e0 ≤ 499998 := by omega
  have hwe2 : IntKind.i64.wrap (e0 + 2) = e0 + 2 := IntWalk.i64_in _ (by omega)
  have hwe1 : IntKind.i64.wrap (e0 + 1) = e0 + 1 := IntWalk.i64_in _ (by omega)
  have hwm : IntKind.i64.wrap (2000 * (e0 + 2)) = 2000 * (e0 + 2) := IntWalk.i64_in _ (by omega)
  have hws : IntKind.i64.wrap (2000 * (e0 + 2) - asn) = 2000 * (e0 + 2) - asn := IntWalk.i64_in _ (by omega)
  have hwl : IntKind.i64.wrap lat = lat := IntWalk.i64_in _ (by omega)
  have hmod : 0 ≤ lat.tmod (2000 * (e0 + 2) - asn) ∧ lat.tmod (2000 * (e0 + 2) - asn) < 2000 * (e0 + 2) - asn := by
    rw [Int.tmod_eq_emod_of_nonneg hl0]
    exact ⟨Int.emod_nonneg _ (by omega), Int.emod_lt_of_pos _ (by omega)⟩
  have hne0 : ¬ (2000 * (e0 + 2) - asn) = 0 := by omega
  obtain ⟨r, hr⟩ : ∃ r, lat.tmod (2000 * (e0 + 2) - asn) = r := ⟨_, rfl⟩
  rw [hr] at hmod
  have hwa : IntKind.i64.wrap (asn + r) = asn + r := IntWalk.i64_in _ (by omega)
  obtain ⟨sl, hsl⟩ : ∃ sl, asn + r = sl := ⟨_, rfl⟩
  have hsb : 0 ≤ sl ∧ sl ≤ 1000000000 := by omega
  have hse : e0 ≤ sl / 2000 ∧ sl / 2000 < e0 + 2 := by omega
  have hrs := root_in hsb.1 hsb.2
  rw [hsl] at hwa
  have hk1 : knowsR e0 (e0 + 2) e0 = true := by rw [kn_in he1.1 (by omega)]; simp only [decide_eq_true_eq]; omega
  have hk2 : knowsR e0 (e0 + 2) (e0 + 1) = true := by rw [kn_in he1.1 (by omega)]; simp only [decide_eq_true_eq]; omega
  have hk3 : knowsR e0 (e0 + 2) (e0 + 2) = false := by rw [kn_in he1.1 (by omega)]; simp only [decide_eq_false_iff_not]; omega
  have hn0 : 0 ≤ 256 * boot + (tries + 1) ∧ 256 * boot + (tries + 1) ≤ 1000000000 := by omega
  have hsi : 0 ≤ fr ∧ fr ≤ 1000000000 := by omega
  have HN := Lib.hid hN; have HA := Lib.hid hA; have HFR := Lib.hid hfr; have HF1 := Lib.hid hfr1; have HTR := Lib.hid htr; have HRO := Lib.hid hro; have HEP := Lib.hid hep; have HK1 := Lib.hid hk1; have HK2 := Lib.hid hk2; have HK3 := Lib.hid hk3; have HRS := Lib.hid hrs; have HSB := Lib.hid hsb; have HSE := Lib.hid hse; have HN0 := Lib.hid hn0; have HSI := Lib.hid hsi; have HE0 := Lib.hid he0; have HR := Lib.hid hr; have HSL := Lib.hid hsl
  have g1 : ¬ e0 < 0 := by omega
  have g2 : ¬ 2000 * (e0 + 2) ≤ asn := by omega
  have q0 : ¬ fr + 2 < 0 := by omega
  have q1 : ¬ 1000000000 < fr + 2 := by omega
  have QQ : Hid (0 ≤ fr + 2 ∧ fr + 2 ≤ 1000000000) := Lib.hid (by omega)
  have EE : Hid (0 ≤ e0 ∧ e0 ≤ 499998) := Lib.hid he1
  clear hN hA hfr hfr1 htr hro hep hk1 hk2 hk3 hrs hsb hse hn0 hsi hT3 he0 q0 q1 hmod
  go_enter Tryd.func6, Tryd.ntmps6
  go_wp2_with fail
  refine (head_any w hTab).mono ?_
  rintro e w1 ⟨rfl, b1⟩
  have BB := b1
  clear b1
  go_upto_region 3 with (fail)
  have bs2 : w.heap.size ≤ w1.heap.size := BB.size
  have Ts := CAt.new (w1) [.int .i64 id, .int .i64 0, .int .i64 (-1), .int .i64 0, .int .i64 0, .int .i64 tries] 30
  have Fs := Fz.new (w1) #[.int .i64 id, .int .i64 0, .int .i64 (-1), .int .i64 0, .int .i64 0, .int .i64 tries] 30
  replace BB := ball BB (.cells #[.int .i64 id, .int .i64 0, .int .i64 (-1), .int .i64 0, .int .i64 0, .int .i64 tries] 30)
  obtain ⟨V2, hV2⟩ : ∃ V2, w1.alloc (.cells #[.int .i64 id, .int .i64 0, .int .i64 (-1), .int .i64 0, .int .i64 0, .int .i64 tries] 30) = V2 := ⟨_, rfl⟩
  rw [hV2] at BB Ts Fs ⊢
  clear hV2
  obtain ⟨k2, hk2⟩ : ∃ k2, w1.heap.size = k2 := ⟨_, rfl⟩
  rw [hk2] at Ts Fs bs2 ⊢
  clear hk2
  go_wp2_with fail
  refine (c1_ask k2 0 id tries boot me fr none 0 V2 (CAt.sg (j := ⟨0, -1, 0, 0, tries⟩) Ts) Fs HA.out HFR.out (HsAt.nil _) (hTab.keep BB)).mono ?_
  rintro e u2 ⟨ch, a2, m2, c2, rfl, ok, hm2, hl2, f2, S2, T2⟩
  have hk0 : w.heap.size ≤ k2 := by omega
  replace BB := Below.tch BB T2 hk0
  have F2 := Fz.tch Fs T2
  have ap2 := f2.apart (k := k2) Fs.2
  have HOK := Lib.hid ok; clear ok
  go_wp2_with fail
  refine (c1_prove k2 0 id me (256 * boot + (tries + 1)) fr (tries + 1) (fr + 1) ch (fr + 12) m2 c2 a2 u2 S2 F2 ap2 HN.out HN0.out HSI.out HTR.out HF1.out HOK.out hm2 hl2).mono ?_
  rintro e u3 ⟨a3, m3, c3, rfl, hm3, hl3, f3, S3, T3⟩
  replace BB := Below.tch BB T3 hk0
  have F3 := Fz.tch F2 T3
  clear S2 T2 hl2 Ts Fs F2
  go_wp2_with fail
  refine (root_any asn u3).mono ?_
  rintro e u4 ⟨rfl, b4⟩
  rw [HRO.out.1, HRO.out.2]
  have hl4 := hl3.keep b4; have S4 := S3.keep b4; have F4 := F3.keep b4
  replace BB := bstep BB b4
  clear b4 S3 hl3 T3 F3
  go_wp2_with fail
  refine (c1_welc id me (256 * boot + (tries + 1)) ch (fr + 12) e0 (e0 + 2) m3 c3 a3 u4 HOK.out HN.out (by have := EE.out; omega) (by omega) (by have := EE.out; omega) hm3 hl4).mono ?_
  rintro e u5 ⟨a5, m5, c5, rfl, hm5, hw5, b5, f5⟩
  have ap5 := f5.apart F4.2
  have S5 := S4.keep b5; have F5 := F4.keep b5
  replace BB := bstep BB b5
  clear b5 S4 hl4 F4
  go_wp2_with fail
  refine (c1_hear k2 0 id me (256 * boot + (tries + 1)) fr (tries + 1) (fr + 2) ch (fr + 12) e0 (e0 + 2) m5 c5 a5 u5 S5 F5 ap5 HN.out HN0.out HSI.out HTR.out (by have := QQ.out; omega) (by have := QQ.out; omega) HOK.out hm5 hw5).mono ?_
  rintro e u6 ⟨rfl, S6, T6⟩
  replace BB := Below.tch BB T6 hk0
  clear S5 T6 hw5 F5
  go_upto_region 10 with (fail)
  have bs3 : w.heap.size ≤ u6.heap.size := BB.size
  have Tg := CAt.new (u6) [.int .i64 e0, .int .i64 (e0 + 2)] 35
  replace S6 := S6.keep (Below.alloc (Below.refl _ (u6)) (Nat.le_refl _) (.cells #[.int .i64 e0, .int .i64 (e0 + 2)] 35))
  replace BB := ball BB (.cells #[.int .i64 e0, .int .i64 (e0 + 2)] 35)
  obtain ⟨V3, hV3⟩ : ∃ V3, u6.alloc (.cells #[.int .i64 e0, .int .i64 (e0 + 2)] 35) = V3 := ⟨_, rfl⟩
  rw [hV3] at BB Tg S6 ⊢
  clear hV3
  obtain ⟨k3, hk3⟩ : ∃ k3, u6.heap.size = k3 := ⟨_, rfl⟩
  rw [hk3] at Tg bs3 ⊢
  clear hk3
  go_wp2_with fail
  refine (ep_at asn e0 0 V3 HEP.out.1 HEP.out.2).mono ?_
  rintro e w4 ⟨rfl, b4⟩
  replace Tg := Tg.keep b4
  replace S6 := S6.keep b4
  replace BB := bstep BB b4
  clear b4
  go_wp2_with fail
  refine (root_any sl w4).mono ?_
  rintro e w5 ⟨rfl, b5⟩
  replace Tg := Tg.keep b5
  replace S6 := S6.keep b5
  replace BB := bstep BB b5
  clear b5
  rw [HRS.out.1, HRS.out.2]
  go_wp2_with fail
  refine (seal_yes 1 0 (-1) sl 0 (sl / 2000) (sl / 2000 + 2) ab nb cb w5 HSB.out.1 HSB.out.2 (Int.le_refl _) (by omega)).mono ?_
  rintro e w6 ⟨rfl, b6⟩
  replace Tg := Tg.keep b6
  replace S6 := S6.keep b6
  replace BB := bstep BB b6
  clear b6
  go_upto_region 15 with (fail)
  have bs7 : w.heap.size ≤ w6.heap.size := BB.size
  have lt7g : k3 < w6.heap.size := World.block_lt_of_cell? w6 ⟨k3, 0, none⟩ (Tg 0 _ rfl)
  have Tf := CAt.new (w6) [.int .i64 1, .int .i64 0, .int .i64 (-1), .int .i64 sl, .int .i64 (sl / 2000 + 1), .slice ab nb cb] 55
  replace Tg := Tg.alloc (.cells #[.int .i64 1, .int .i64 0, .int .i64 (-1), .int .i64 sl, .int .i64 (sl / 2000 + 1), .slice ab nb cb] 55)
  replace S6 := S6.keep (Below.alloc (Below.refl _ (w6)) (Nat.le_refl _) (.cells #[.int .i64 1, .int .i64 0, .int .i64 (-1), .int .i64 sl, .int .i64 (sl / 2000 + 1), .slice ab nb cb] 55))
  replace BB := ball BB (.cells #[.int .i64 1, .int .i64 0, .int .i64 (-1), .int .i64 sl, .int .i64 (sl / 2000 + 1), .slice ab nb cb] 55)
  obtain ⟨V7, hV7⟩ : ∃ V7, w6.alloc (.cells #[.int .i64 1, .int .i64 0, .int .i64 (-1), .int .i64 sl, .int .i64 (sl / 2000 + 1), .slice ab nb cb] 55) = V7 := ⟨_, rfl⟩
  rw [hV7] at BB Tg Tf S6 ⊢
  clear hV7
  obtain ⟨k7, hk7⟩ : ∃ k7, w6.heap.size = k7 := ⟨_, rfl⟩
  rw [hk7] at Tf bs7 lt7g ⊢
  clear hk7
  obtain ⟨j0, j1, j2, j3, j4, j5⟩ := S6
  simp only at j0 j1 j2 j3 j4 j5
  have f0 := Tf 0 _ rfl
  have f1 := Tf 1 _ rfl
  have f2 := Tf 2 _ rfl
  have f3 := Tf 3 _ rfl
  have f4 := Tf 4 _ rfl
  have f5 := Tf 5 _ rfl
  have g0 := Tg 0 _ rfl
  have g1 := Tg 1 _ rfl
  go_wp2_with fail
  clear j0 j1 j2 j3 j4 j5
  refine (open_yes 1 0 (-1) sl e0 (e0 + 2) ab nb cb V7 HSB.out.1 HSB.out.2 HSE.out.1 HSE.out.2).mono ?_
  clear f0 f1 f2 f3 f4 f5 g0 g1
  rintro e w8 ⟨rfl, b8⟩
  replace Tg := Tg.keep b8
  replace Tf := Tf.keep b8
  replace BB := bstep BB b8
  clear b8
  have g0 := Tg 0 _ rfl
  have g1 := Tg 1 _ rfl
  go_wp2_with fail
  refine (kn_at e0 (e0 + 2) e0 true w8 HK1.out).mono ?_
  clear g0 g1
  rintro e w9 ⟨rfl, b9⟩
  replace Tg := Tg.keep b9
  replace Tf := Tf.keep b9
  replace BB := bstep BB b9
  clear b9
  have g0 := Tg 0 _ rfl
  have g1 := Tg 1 _ rfl
  go_wp2_with fail
  refine (kn_at e0 (e0 + 2) (e0 + 1) true w9 HK2.out).mono ?_
  clear g0 g1
  rintro e w10 ⟨rfl, b10⟩
  replace Tg := Tg.keep b10
  replace Tf := Tf.keep b10
  replace BB := bstep BB b10
  clear b10
  have g0 := Tg 0 _ rfl
  have g1 := Tg 1 _ rfl
  go_wp2_with fail
  refine (kn_at e0 (e0 + 2) (e0 + 2) false w10 HK3.out).mono ?_
  clear g0 g1
  rintro e w11 ⟨rfl, b11⟩
  replace Tg := Tg.keep b11
  replace Tf := Tf.keep b11
  replace BB := bstep BB b11
  clear b11
  go_wp2_with fail
  go_ret
  exact ⟨rfl, BB⟩
theorem keyd_any (id me boot tries fr asn lat : Int) (ab : Option Addr) (nb cb : Nat) (w : World) (hTab : Tab w) (hl0 : 0 ≤ lat) (hl1 : lat ≤ 65535) : Calls Tryd.prog 6 #[.int .i64 id, .int .i64 me, .int .i64 boot, .int .i64 tries, .int .i64 fr, .int .i64 asn, .int .u16 lat, .slice ab nb cb] w (Ans (.bool true) w) := by
  by_cases h0 : fr < 0
  · exact keyd_e0 id me boot tries fr asn lat ab nb cb w hTab h0
  by_cases h1 : 999999980 < fr
  · exact keyd_e1 id me boot tries fr asn lat ab nb cb w hTab h0 h1
  by_cases h2 : asn < 0
  · exact keyd_e2 id me boot tries fr asn lat ab nb cb w hTab h0 h1 h2
  by_cases h3 : 999996000 < asn
  · exact keyd_e3 id me boot tries fr asn lat ab nb cb w hTab h0 h1 h2 h3
  by_cases h4 : 100 < (nb : Int)
  · exact keyd_e4 id me boot tries fr asn lat ab nb cb w hTab h0 h1 h2 h3 h4
  cases hA : askB tries id boot me fr
  · exact keyd_no id me boot tries fr asn lat ab nb cb w hTab h0 h1 h2 h3 h4 hA
  · exact keyd_yes id me boot tries fr asn lat ab nb cb w hTab h0 h1 h2 h3 h4 hA hl0 hl1 trivial
theorem pKey (id me boot tries fr asn lat : Int) (ab : Option Addr) (cb : Nat) (zs : List Int) (w : World) (w0 : (Lit.int .i64 id).wf = true) (w1 : (Lit.int .i64 me).wf = true) (w2 : (Lit.int .i64 boot).wf = true) (w3 : (Lit.int .i64 tries).wf = true) (w4 : (Lit.int .i64 fr).wf = true) (w5 : (Lit.int .i64 asn).wf = true) (w6 : (Lit.int .u16 lat).wf = true)
    (hi : IntsAt .u8 w ab zs) (hx : zs.length ≤ maxLen) (hw : ∀ z ∈ zs, (Lit.int .u8 z).wf = true) (hT : Tab w) :
    Calls Tryd.prog 6 #[.int .i64 id, .int .i64 me, .int .i64 boot, .int .i64 tries, .int .i64 fr, .int .i64 asn, .int .u16 lat, .slice ab zs.length cb] w (Ans (.bool true) w) := by
  have h := wf_bd w6
  have e1 : IntKind.u16.min = 0 := by decide
  have e2 : IntKind.u16.max = 65535 := by decide
  rw [e1, e2] at h
  exact keyd_any id me boot tries fr asn lat ab _ cb w hT h.1 h.2
end Go.Proofs.YtgmabjlehjpboaaDoor
