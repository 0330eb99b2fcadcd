/- Proved: that strangers who ask one sponsor get in together. Conditions: the arguments lie in memory; the table of steps lies where it lay. -/
import Derived.Test.YtgmabjlehjpboaaDoorT35
namespace Go.Proofs.YtgmabjlehjpboaaDoor
open Go.RowKit Go.Sort Go.BigFrame Go.Proofs.YtgmabjlehjpboaaDoor.K
set_option linter.unusedVariables false
set_option linter.unusedSimpArgs false
attribute [local go_sem] cell_alloc_old

open Go.Maps Go.Shelf
theorem RowI.new (w : World) (n : Nat) : RowI (w.alloc (.cells (Array.replicate n (.int .i64 0)) 3)) w.heap.size (List.replicate n 0) :=
  ⟨by rw [List.map_replicate, ← List.toArray_replicate]; exact CAt.new w _ 3, Fz.new w _ 3⟩
theorem ne35 (a b : Int) (w : World) : (Go.binOp .neq 35 (.agg #[.int .i64 a, .int .i64 b]) (.agg #[.int .i64 a, .int .i64 b])).run Tryd.prog w = .ok (.bool false) w := by go_simp
theorem mod4 (z : Int) (h0 : 0 ≤ z) : 0 ≤ z.tmod 4 ∧ z.tmod 4 ≤ 3 := by rw [Int.tmod_eq_emod_of_nonneg h0]; omega
theorem modn (z : Int) (n : Nat) (h0 : 0 ≤ z) (hn : 1 ≤ n) : ∃ i : Nat, i < n ∧ z.tmod (n : Int) = (i : Int) := by
  rw [Int.tmod_eq_emod_of_nonneg h0]
  have h1 := Int.emod_nonneg z (show (n : Int) ≠ 0 by omega)
  have h2 := Int.emod_lt_of_pos z (show (0 : Int) < n by omega)
  exact ⟨(z % n).toNat, by omega, by omega⟩
abbrev newSr (i : Nat) : Sr := ⟨50 + (i : Int), ⟨0, -1, 0, 0, 0⟩⟩
theorem AllS.of_own {w : World} {base g c n : Nat} (h : OwnG Sr.cs 30 6 w base (.slice (some ⟨g, 0, none⟩) n c) ((List.range n).map newSr)) (hn : 1 ≤ n) : AllS w g n (fun _ => ⟨0, -1, 0, 0, 0⟩) ∧ base ≤ g := by
  have hl : ((List.range n).map newSr).length = n := by simp
  unfold OwnG at h
  rw [hl] at h
  have hb := h.lt g rfl
  refine ⟨⟨fun i hi => ?_, ⟨fun j => World.ownsRow.frozenAt h j, hb.2⟩⟩, hb.1⟩
  have e1 : ((List.range n).map newSr).getD i default = newSr i := by simp [List.getD_eq_getElem?_getD, hi]
  have key : ∀ (j : Nat) (v : Value), j < 6 → (newSr i).cs[j]? = some v → w.cell? ⟨g, i * 6 + j, none⟩ = some v := fun j v hj hv => by
    have hlt : i * 6 + j < n * 6 := by omega
    have := World.ownsRow.cellAt h (i * 6 + j) hlt
    rw [this, flatL_at sr_size _ i j (by rw [hl]; exact hi) hj, e1]; exact hv
  exact ⟨key 0 _ (by omega) rfl, key 1 _ (by omega) rfl, key 2 _ (by omega) rfl, key 3 _ (by omega) rfl, key 4 _ (by omega) rfl, key 5 _ (by omega) rfl⟩
theorem jOf0 (me nn : Int) : jOf me nn 0 = ⟨0, -1, 0, 0, 0⟩ := rfl
theorem jOf1 (me nn : Int) : jOf me nn 1 = ⟨1, me, nn, 1, 1⟩ := rfl
theorem jOf2 (me nn : Int) : jOf me nn 2 = ⟨2, me, nn, 1, 1⟩ := rfl
theorem jOf3 (me nn d : Int) (h : 3 ≤ d) : jOf me nn d = ⟨3, me, nn, 1, 1⟩ := by unfold jOf; rw [if_neg (by omega), if_neg (by omega), if_neg (by omega)]
set_option maxRecDepth 100000 in
set_option maxHeartbeats 4000000 in
theorem tog_e0 (me boot asn many : Int) (zs : List Int) (ns cs : Nat) (sa : Option Addr) (w : World) (hTab : Tab w) (hs : Hid (ns = zs.length)) (hz : IntsAt .u8 w sa zs) (hwf : ∀ z ∈ zs, (Lit.int .u8 z).wf = true) (hns : ns ≤ maxLen) (hmn : 0 ≤ many ∧ many ≤ 255) (h0 : me < 0) :
    Calls Tryd.prog 3 #[.int .i64 me, .int .i64 boot, .int .i64 asn, .int .u8 many, .slice sa ns cs] w (Ans (.bool true) w) := by
  have hmx : maxLen = 9223372036854775807 := rfl
  have HWF := Lib.hid hwf; clear hwf
  go_enter Tryd.func3, Tryd.ntmps3
  go_wp2_with fail
  refine (head_any w hTab).mono ?_
  rintro e w1 ⟨rfl, b1⟩
  have BB := b1
  clear b1
  go_wp2_with fail
  go_ret
  exact ⟨rfl, BB⟩
set_option maxRecDepth 100000 in
set_option maxHeartbeats 4000000 in
theorem tog_e1 (me boot asn many : Int) (zs : List Int) (ns cs : Nat) (sa : Option Addr) (w : World) (hTab : Tab w) (hs : Hid (ns = zs.length)) (hz : IntsAt .u8 w sa zs) (hwf : ∀ z ∈ zs, (Lit.int .u8 z).wf = true) (hns : ns ≤ maxLen) (hmn : 0 ≤ many ∧ many ≤ 255) (h0 : ¬ me < 0) (h1 : 50 ≤ me) :
    Calls Tryd.prog 3 #[.int .i64 me, .int .i64 boot, .int .i64 asn, .int .u8 many, .slice sa ns cs] w (Ans (.bool true) w) := by
  have hmx : maxLen = 9223372036854775807 := rfl
  have HWF := Lib.hid hwf; clear hwf
  go_enter Tryd.func3, Tryd.ntmps3
  go_wp2_with fail
  refine (head_any w hTab).mono ?_
  rintro e w1 ⟨rfl, b1⟩
  have BB := b1
  clear b1
  go_wp2_with fail
  go_ret
  exact ⟨rfl, BB⟩
set_option maxRecDepth 100000 in
set_option maxHeartbeats 4000000 in
theorem tog_e2 (me boot asn many : Int) (zs : List Int) (ns cs : Nat) (sa : Option Addr) (w : World) (hTab : Tab w) (hs : Hid (ns = zs.length)) (hz : IntsAt .u8 w sa zs) (hwf : ∀ z ∈ zs, (Lit.int .u8 z).wf = true) (hns : ns ≤ maxLen) (hmn : 0 ≤ many ∧ many ≤ 255) (h0 : ¬ me < 0) (h1 : ¬ 50 ≤ me) (h2 : boot < 0) :
    Calls Tryd.prog 3 #[.int .i64 me, .int .i64 boot, .int .i64 asn, .int .u8 many, .slice sa ns cs] w (Ans (.bool true) w) := by
  have hmx : maxLen = 9223372036854775807 := rfl
  have HWF := Lib.hid hwf; clear hwf
  go_enter Tryd.func3, Tryd.ntmps3
  go_wp2_with fail
  refine (head_any w hTab).mono ?_
  rintro e w1 ⟨rfl, b1⟩
  have BB := b1
  clear b1
  go_wp2_with fail
  go_ret
  exact ⟨rfl, BB⟩
set_option maxRecDepth 100000 in
set_option maxHeartbeats 4000000 in
theorem tog_e3 (me boot asn many : Int) (zs : List Int) (ns cs : Nat) (sa : Option Addr) (w : World) (hTab : Tab w) (hs : Hid (ns = zs.length)) (hz : IntsAt .u8 w sa zs) (hwf : ∀ z ∈ zs, (Lit.int .u8 z).wf = true) (hns : ns ≤ maxLen) (hmn : 0 ≤ many ∧ many ≤ 255) (h0 : ¬ me < 0) (h1 : ¬ 50 ≤ me) (h2 : ¬ boot < 0) (h3 : 1000000 < boot) :
    Calls Tryd.prog 3 #[.int .i64 me, .int .i64 boot, .int .i64 asn, .int .u8 many, .slice sa ns cs] w (Ans (.bool true) w) := by
  have hmx : maxLen = 9223372036854775807 := rfl
  have HWF := Lib.hid hwf; clear hwf
  go_enter Tryd.func3, Tryd.ntmps3
  go_wp2_with fail
  refine (head_any w hTab).mono ?_
  rintro e w1 ⟨rfl, b1⟩
  have BB := b1
  clear b1
  go_wp2_with fail
  go_ret
  exact ⟨rfl, BB⟩
set_option maxRecDepth 100000 in
set_option maxHeartbeats 4000000 in
theorem tog_e4 (me boot asn many : Int) (zs : List Int) (ns cs : Nat) (sa : Option Addr) (w : World) (hTab : Tab w) (hs : Hid (ns = zs.length)) (hz : IntsAt .u8 w sa zs) (hwf : ∀ z ∈ zs, (Lit.int .u8 z).wf = true) (hns : ns ≤ maxLen) (hmn : 0 ≤ many ∧ many ≤ 255) (h0 : ¬ me < 0) (h1 : ¬ 50 ≤ me) (h2 : ¬ boot < 0) (h3 : ¬ 1000000 < boot) (h4 : asn < 0) :
    Calls Tryd.prog 3 #[.int .i64 me, .int .i64 boot, .int .i64 asn, .int .u8 many, .slice sa ns cs] w (Ans (.bool true) w) := by
  have hmx : maxLen = 9223372036854775807 := rfl
  have HWF := Lib.hid hwf; clear hwf
  go_enter Tryd.func3, Tryd.ntmps3
  go_wp2_with fail
  refine (head_any w hTab).mono ?_
  rintro e w1 ⟨rfl, b1⟩
  have BB := b1
  clear b1
  go_wp2_with fail
  go_ret
  exact ⟨rfl, BB⟩
set_option maxRecDepth 100000 in
set_option maxHeartbeats 4000000 in
theorem tog_e5 (me boot asn many : Int) (zs : List Int) (ns cs : Nat) (sa : Option Addr) (w : World) (hTab : Tab w) (hs : Hid (ns = zs.length)) (hz : IntsAt .u8 w sa zs) (hwf : ∀ z ∈ zs, (Lit.int .u8 z).wf = true) (hns : ns ≤ maxLen) (hmn : 0 ≤ many ∧ many ≤ 255) (h0 : ¬ me < 0) (h1 : ¬ 50 ≤ me) (h2 : ¬ boot < 0) (h3 : ¬ 1000000 < boot) (h4 : ¬ asn < 0) (h5 : 1000000000 < asn) :
    Calls Tryd.prog 3 #[.int .i64 me, .int .i64 boot, .int .i64 asn, .int .u8 many, .slice sa ns cs] w (Ans (.bool true) w) := by
  have hmx : maxLen = 9223372036854775807 := rfl
  have HWF := Lib.hid hwf; clear hwf
  go_enter Tryd.func3, Tryd.ntmps3
  go_wp2_with fail
  refine (head_any w hTab).mono ?_
  rintro e w1 ⟨rfl, b1⟩
  have BB := b1
  clear b1
  go_wp2_with fail
  go_ret
  exact ⟨rfl, BB⟩
set_option maxRecDepth 100000 in
set_option maxHeartbeats 4000000 in
theorem tog_e6 (me boot asn many : Int) (zs : List Int) (ns cs : Nat) (sa : Option Addr) (w : World) (hTab : Tab w) (hs : Hid (ns = zs.length)) (hz : IntsAt .u8 w sa zs) (hwf : ∀ z ∈ zs, (Lit.int .u8 z).wf = true) (hns : ns ≤ maxLen) (hmn : 0 ≤ many ∧ many ≤ 255) (h0 : ¬ me < 0) (h1 : ¬ 50 ≤ me) (h2 : ¬ boot < 0) (h3 : ¬ 1000000 < boot) (h4 : ¬ asn < 0) (h5 : ¬ 1000000000 < asn) (h6 : (40 : Int) < (ns : Int)) :
    Calls Tryd.prog 3 #[.int .i64 me, .int .i64 boot, .int .i64 asn, .int .u8 many, .slice sa ns cs] w (Ans (.bool true) w) := by
  have hmx : maxLen = 9223372036854775807 := rfl
  have HWF := Lib.hid hwf; clear hwf
  go_enter Tryd.func3, Tryd.ntmps3
  go_wp2_with fail
  refine (head_any w hTab).mono ?_
  rintro e w1 ⟨rfl, b1⟩
  have BB := b1
  clear b1
  go_wp2_with fail
  go_ret
  exact ⟨rfl, BB⟩
set_option maxRecDepth 100000 in
set_option maxHeartbeats 4000000 in
theorem tog_c (me boot asn many : Int) (zs : List Int) (ns cs : Nat) (sa : Option Addr) (w : World) (hTab : Tab w) (hs : Hid (ns = zs.length)) (hz : IntsAt .u8 w sa zs) (hwf : ∀ z ∈ zs, (Lit.int .u8 z).wf = true) (hns : ns ≤ maxLen) (hmn : 0 ≤ many ∧ many ≤ 255) (h0 : ¬ me < 0) (h1 : ¬ 50 ≤ me) (h2 : ¬ boot < 0) (h3 : ¬ 1000000 < boot) (h4 : ¬ asn < 0) (h5 : ¬ 1000000000 < asn) (h6 : ¬ (40 : Int) < (ns : Int)) :
    Calls Tryd.prog 3 #[.int .i64 me, .int .i64 boot, .int .i64 asn, .int .u8 many, .slice sa ns cs] w (Ans (.bool true) w) := by
  have hmx : maxLen = 9223372036854775807 := rfl
  have HWF := Lib.hid hwf; clear hwf
  have hg0 : decide (me < (0 : Int)) = false := by simp; omega
  have hg1 : decide ((50 : Int) ≤ me) = false := by simp; omega
  have hg2 : decide (boot < (0 : Int)) = false := by simp; omega
  have hg3 : decide ((1000000 : Int) < boot) = false := by simp; omega
  have hg4 : decide (asn < (0 : Int)) = false := by simp; omega
  have hg5 : decide ((1000000000 : Int) < asn) = false := by simp; omega
  have hg6 : decide ((40 : Int) < (ns : Int)) = false := by simp; omega
  have ME : Hid (0 ≤ me ∧ me < 50) := Lib.hid (by omega)
  have BO : Hid (0 ≤ boot ∧ boot ≤ 1000000) := Lib.hid (by omega)
  have ASN : Hid (0 ≤ asn ∧ asn ≤ 1000000000) := Lib.hid (by omega)
  have NS : ns ≤ 40 := by omega
  clear h0 h1 h2 h3 h4 h5 h6
  have hm4 := mod4 many hmn.1
  have hcm : IntKind.i64.wrap many = many := IntWalk.i64_in _ (by omega)
  obtain ⟨r4, hr4⟩ : ∃ r4, many.tmod 4 = r4 := ⟨_, rfl⟩
  rw [hr4] at hm4
  obtain ⟨n, hn⟩ : ∃ n : Nat, 1 + r4 = (n : Int) := ⟨(1 + r4).toNat, by omega⟩
  have hn1 : 1 ≤ n := by omega
  have hn4 : n ≤ 4 := by omega
  have hwn : IntKind.i64.wrap (1 + r4) = (n : Int) := by rw [IntWalk.i64_in _ (by omega)]; exact hn
  have hmk := make_ints n (by omega)
  have hmn0 := hmn.1
  obtain ⟨i0, hi0, hz0, hz1, hz2⟩ := info_parts info30
  obtain ⟨nn, hnn⟩ : ∃ nn, 256 * boot + 1 = nn := ⟨_, rfl⟩
  have HNN := Lib.hid hnn
  have NNB : Hid (0 ≤ nn ∧ nn ≤ 1000000000) := Lib.hid (by have := BO.out; omega)
  clear hnn
  obtain ⟨e0, he0⟩ : ∃ e0, asn / 2000 = e0 := ⟨_, rfl⟩
  have HRO : Hid (rootF asn = e0 ∧ rootN asn = e0 + 2) := Lib.hid (by have := root_in ASN.out.1 ASN.out.2; rw [he0] at this; exact this)
  have E0 : Hid (0 ≤ e0 ∧ e0 ≤ 500000) := Lib.hid (by have := ASN.out; omega)
  clear he0
  go_enter Tryd.func3, Tryd.ntmps3
  go_wp2_with fail
  refine (head_any w hTab).mono ?_
  rintro e w1 ⟨rfl, b1⟩
  have BB := b1
  clear b1
  go_upto_region 8 with (fail)
  clear hmk hcm hwn hr4 hn hm4
  have RD := RowI.new w1 n
  have bs : w.heap.size ≤ w1.heap.size := BB.size
  replace BB := ball BB (.cells (Array.replicate n (.int .i64 0)) 3)
  obtain ⟨V, hV⟩ : ∃ V, w1.alloc (.cells (Array.replicate n (.int .i64 0)) 3) = V := ⟨_, rfl⟩
  rw [hV] at RD BB ⊢
  clear hV
  obtain ⟨gd, hgd⟩ : ∃ gd, w1.heap.size = gd := ⟨_, rfl⟩
  rw [hgd] at RD bs ⊢
  clear hgd
  have hgdV : gd < V.heap.size := RD.2.2
  go_upto_region 9 with (fail)
  go_loopw [14, 60] (fun v iv wr => ∃ k : Nat, k ≤ n ∧ iv = .int .i64 k ∧ OwnG Sr.cs 30 6 wr V.heap.size v ((List.range k).map newSr) ∧ Below V.heap.size V wr) (fun _ iv _ => n - (intOf iv).toNat)
  case atStart => exact ⟨0, Nat.zero_le _, rfl, OwnG.nil _ _ _ _ _, Below.refl _ _⟩
  case round =>
    obtain ⟨k, hk, rfl, hown, B1⟩ := hrel
    by_cases hlt : k < n
    · have hlt' : (k : Int) < (n : Int) := by omega
      have hk0 : (0 : Int) ≤ (k : Int) := by omega
      have hwk : IntKind.i64.wrap ((k : Int) + 1) = (k : Int) + 1 := IntWalk.i64_in _ (by omega)
      have hw50 : IntKind.i64.wrap (50 + (k : Int)) = 50 + (k : Int) := IntWalk.i64_in _ (by omega)
      have hsn : (List.range (k + 1)).map newSr = (List.range k).map newSr ++ [newSr k] := by rw [List.range_succ, List.map_append]; rfl
      have hlen : ((List.range k).map newSr).length = k := by simp
      obtain ⟨O, hO⟩ : ∃ O, (List.range k).map newSr = O := ⟨_, rfl⟩
      rw [hO] at hown hsn hlen
      clear hO
      have HL := Lib.hid hlen; clear hlen
      have HS := Lib.hid hsn; clear hsn
      go_wp2_with (first
        | (at_builtin; refine wpList_append_own _ rfl _ _ 25 rfl V.heap.size 30 i0 _ 6 48 Tryd.underlying25 hi0 hz0 hz1 hz2 rfl (by decide) _ _ _ rfl (World.ownsRow.alloc hown _) ⟨wr.heap.size, 0, none⟩ 1 1 (newSr k).cs rfl rfl (flat_new _ _ _) (sr_one _) (by have := HL.out; unfold maxLen; omega) (by have := HL.out; omega) (by have := B1.size; simp; omega) ?_; intro v' w4 hown' hgrow _))
      have hB4 := OwnG.grown B1 hown (Nat.le_refl _) hgrow
      have hown2 := OwnG.push hown'
      rw [← HS.out] at hown2
      clear hown' hgrow
      go_wp2_with fail
      go_roundw
      case rel => exact ⟨k + 1, by omega, by go_num, hown2, hB4⟩
      case measure => simp [intOf]; omega
    · have hkn : k = n := by omega
      subst hkn
      have hlt' : ¬ (k : Int) < (k : Int) := by omega
      have hkl : ((List.range k).map newSr).length = k := by simp
      rcases hown.2 with ⟨_, hzero⟩ | ⟨g, cA, cur, hv, _⟩
      · exfalso; rw [hkl] at hzero; omega
      rw [hkl] at hv
      subst hv
      obtain ⟨AS, hgV⟩ := AllS.of_own hown hn1
      clear hown hkl hi0 hz0 hz1 hz2
      replace RD := RD.keep B1
      have hgg : g < wr.heap.size := AS.2.2
      have hgne : gd ≠ g := by omega
      replace BB := bstep BB B1
      have hgw : w.heap.size ≤ g := by have := BB.size; have := bs; omega
      have hgw2 : w.heap.size ≤ gd := bs
      obtain ⟨N0, hN0⟩ : ∃ N0, wr.heap.size = N0 := ⟨_, rfl⟩
      have hgN : g < N0 := by omega
      have hgdN : gd < N0 := by have := RD.2.2; omega
      have hNw : N0 ≤ wr.heap.size := by omega
      clear hN0 hgg B1 hgdV
      go_upto_region 14 with (fail)
      have TG0 := TgI.start k nn
      go_loopw [13, 73] (fun v iv wr => ∃ (t : Nat) (dn : List Int) (L : List Hf) (a' : Option Addr) (n' c' : Nat), t ≤ ns ∧ iv = .int .i64 t ∧ v = .slice a' n' c' ∧ Hid (n' = L.length) ∧ HsAt wr a' L ∧ Hid (Fresh N0 a') ∧ Hid (TgI k nn t dn L) ∧ AllS wr g k (fun i => jOf me nn (dn.getD i 0)) ∧ RowI wr gd dn ∧ Below w.heap.size w wr ∧ N0 ≤ wr.heap.size) (fun _ iv _ => ns - (intOf iv).toNat)
      case atStart =>
        refine ⟨0, List.replicate k 0, [], none, 0, 0, Nat.zero_le _, rfl, rfl, Lib.hid rfl, HsAt.nil _, Lib.hid (Fresh.none _), Lib.hid TG0, ⟨fun i hi => ?_, AS.2⟩, RD, BB, hNw⟩
        have : (List.replicate k (0 : Int)).getD i 0 = 0 := by simp [List.getD_eq_getElem?_getD, hi]
        simp only [this, jOf0]
        exact AS.1 i hi
      case round =>
        clear BB AS RD hNw TG0
        obtain ⟨t, dn, L, a', n', c', ht, rfl, rfl, hn', hl, HFR, TG, AS, RD, BB, hNw⟩ := hrel
        by_cases hlt9 : t < ns
        · have hlt9' : (t : Int) < (ns : Int) := by omega
          have ht0 : (0 : Int) ≤ (t : Int) := by omega
          have hwt : IntKind.i64.wrap ((t : Int) + 1) = (t : Int) + 1 := IntWalk.i64_in _ (by omega)
          obtain ⟨sb, soff, e2, d0⟩ := IntsAt.at hz BB (i := t) (by rw [← hs.out]; omega)
          have hzb := u8_bd HWF.out (i := t) (by rw [← hs.out]; omega)
          obtain ⟨z, hz'⟩ : ∃ z, zs.getD t 0 = z := ⟨_, rfl⟩
          rw [hz'] at d0 hzb
          clear hz'
          subst e2
          have hcz : IntKind.i64.wrap z = z := IntWalk.i64_in _ (by omega)
          obtain ⟨i, hik, hzi⟩ := modn z k hzb.1 hn1
          have hkne : ¬ (k : Int) = 0 := by omega
          have hik' : (i : Int) < (k : Int) := by omega
          have hi0' : (0 : Int) ≤ (i : Int) := by omega
          have hdl : i < dn.length := by rw [TG.out.len]; exact hik
          have hdc := RD.at hdl
          have hbd := TG.out.bd i hik
          have SGi := AS.1 i hik
          simp only at SGi
          have hroom := fun h => TG.out.room hik h
          have hst0 := fun h => TG.out.st0 i hik h
          have hst1 := fun h => TG.out.st1 i hik h
          have hst2 := fun h => TG.out.st2 i hik h
          have hmore := fun h => TG.out.more hik h
          have hasks := fun h {ch : Int} {M : List Hf} hM okM => TG.out.asks hik h (ch := ch) (M := M) hM okM
          have hproves := fun h {ch : Int} hf {M : List Hf} hM => TG.out.proves hik h (ch := ch) hf (M := M) hM
          obtain ⟨d, hd⟩ : ∃ d, dn.getD i 0 = d := ⟨_, rfl⟩
          rw [hd] at hdc hbd SGi hroom hst0 hst1 hst2 hmore hasks hproves
          have hwd : IntKind.i64.wrap (d + 1) = d + 1 := IntWalk.i64_in _ (by omega)
          have hidn : nodeB (50 + (i : Int)) = true := by unfold nodeB; simp only [decide_eq_true_eq]; omega
          have hmen : nodeB me = true := by have := ME.out; unfold nodeB; simp only [decide_eq_true_eq]; omega
          have HID := Lib.hid hidn; have HME := Lib.hid hmen
          have HNE : Hid (∀ x ∈ L, x.s ≠ me) := Lib.hid (fun x hx => by have := TG.out.rng x hx; have := ME.out; omega)
          have HJ : Hid (∀ ph : Int, 0 ≤ ph → ph ≤ 3 → Jn.ok ⟨ph, me, nn, 1, 1⟩) := Lib.hid (fun ph p0 p1 => jn_ok p0 p1 hmen NNB.out (by decide))
          clear hidn hmen
          have hap : Apart a' g := HFR.out.apart hgN
          have OKL := Lib.hid TG.out.ok
          by_cases hd0 : d = 0
          · have b0 : (d == 0) = true := by simp [hd0]
            have hno := hst0 hd0
            have hro := hroom hd0
            have h4 : L.length < 4 := by omega
            have hA : askB 0 (50 + (i : Int)) boot me 1 = true := by
              have h1 := HID.out; have h2 := HME.out; have h3 := ME.out; have h5 := BO.out
              have e1 : ((50 + (i : Int)) == me) = false := by simp; omega
              unfold askB
              rw [h1, h2, e1, decide_eq_false (show ¬ boot < 0 by omega), decide_eq_false (show ¬ 1000000 < boot by omega)]
              decide
            have SGd : Sg wr g (i * 6) (50 + (i : Int)) ⟨0, -1, 0, 0, 0⟩ := by have := SGi; rw [hd0, jOf0] at this; exact this
            clear SGi
            have HA := Lib.hid hA; have HNO := Lib.hid hno; have H4 := Lib.hid h4; have HASK : Hid (∀ (ch : Int) (M : List Hf), M = putL L ⟨50 + (i : Int), nn, ch, 13, false, 0⟩ → OkL M → TgI k nn (t + 1) (dn.set i (d + 1)) M) := Lib.hid (fun ch M h1 h2 => hasks hd0 h1 h2)
            have HD0 := Lib.hid hd0; clear hd0
            clear hA hno hro h4 hst0 hst1 hst2 hmore hasks hproves hroom
            go_wp2_with fail
            refine (ask8_yes g (i * 6) (50 + (i : Int)) 0 boot me 1 L a' n' c' wr SGd AS.2 HA.out OKL.out hn' hl (by decide) (hTab.keep BB) HNO.out H4.out).mono ?_
            rintro e w9 ⟨M, ch, a9, m9, c9, rfl, hM, okM, hm9, hl9, f9, S9, T9⟩
            rw [show (0 : Int) + 1 = 1 from rfl, HNN.out] at hM S9
            have TG9 : Hid (TgI k nn (t + 1) (dn.set i (d + 1)) M) := Lib.hid (HASK.out ch M hM okM)
            have HF9 : Hid (Fresh N0 a9) := Lib.hid (f9.le hNw)
            have AS9 : AllS w9 g k (fun j => jOf me nn ((dn.set i (d + 1)).getD j 0)) := AllS.turn AS hik T9 S9 (fun j hj => by
              try simp only
              rw [getD_set hdl]
              split
              · rw [HD0.out]; exact jOf1 me nn
              · rfl)
            have RD9 := RD.tch T9 hgne
            have BB9 := Below.tch BB T9 hgw
            have hNw9 := Nat.le_trans hNw T9.size
            have hdl9 := hdl
            clear AS RD hl BB SGd S9 T9 hM okM f9 d0 hdc
            have hdr := RD9.at hdl9
            rw [hd] at hdr
            have hfr9 := RD9.2.1 i
            go_upto_region 29 with (fail)
            clear hdr hfr9
            have AS2 := AS9.other (k := gd) hgne i (.int .i64 (d + 1))
            have RD2 := RD9.set hdl9 (d + 1)
            have hl2 := hl9.put9 (k := gd) (HF9.out.apart hgdN) i (.int .i64 (d + 1))
            have BB2 := BB9.setCell (p := ⟨gd, i, none⟩) (by exact hgw2) (.int .i64 (d + 1))
            have hNw2 : N0 ≤ (w9.setCell ⟨gd, i, none⟩ (.int .i64 (d + 1))).heap.size := by simpa using hNw9
            obtain ⟨V9, hV9⟩ : ∃ V9, w9.setCell ⟨gd, i, none⟩ (.int .i64 (d + 1)) = V9 := ⟨_, rfl⟩
            rw [hV9] at AS2 RD2 hl2 BB2 hNw2 ⊢
            clear hV9 AS9 RD9 hl9 BB9 hNw9
            obtain ⟨dm, hdm⟩ : ∃ dm, dn.set i (d + 1) = dm := ⟨_, rfl⟩
            rw [hdm] at RD2 TG9 AS2
            have hdml : dm.length = k := TG9.out.len
            clear hdm
            go_upto_region 30 with (fail)
            go_loopw [130] (fun iv wr => ∃ q : Nat, q ≤ k ∧ iv = .int .i64 q ∧ Below V9.heap.size V9 wr) (fun iv _ => k - (intOf iv).toNat)
            case atStart => exact ⟨0, Nat.zero_le _, rfl, Below.refl _ _⟩
            case round =>
              obtain ⟨q, hqk, rfl, BI⟩ := hrel
              by_cases hq : q < k
              · have hq' : (q : Int) < (k : Int) := by omega
                have hq0 : (0 : Int) ≤ (q : Int) := by omega
                have hwq : IntKind.i64.wrap ((q : Int) + 1) = (q : Int) + 1 := IntWalk.i64_in _ (by omega)
                have SGq := (AS2.1 q hq).keep BI
                simp only at SGq
                have hjq := jOf_in me nn (dm.getD q 0)
                obtain ⟨J, hJ⟩ : ∃ J, jOf me nn (dm.getD q 0) = J := ⟨_, rfl⟩
                rw [hJ] at SGq hjq
                obtain ⟨j0, j1, j2, j3, j4, j5⟩ := SGq
                have RQ := RD2.keep BI
                clear hJ
                obtain ⟨dq, hdq⟩ : ∃ dq, dm.getD q 0 = dq := ⟨_, rfl⟩
                have hqc := RQ.at (i := q) (by rw [hdml]; exact hq)
                rw [hdq] at hjq hqc
                have HQC : IntsAt .i64 wr (some ⟨gd, q, none⟩) [dq] := .inr ⟨_, _, rfl, fun j hj => by simp at hj; subst hj; exact hqc⟩
                clear hdq RQ hqc
                have BB : Below V9.heap.size V9 wr := BI
                go_upto_region 32 with (fail)
                clear j0 j1 j2 j3 j4 j5
                have bs1 : V9.heap.size ≤ wr.heap.size := BB.size
                have Ty := CAt.new (wr) [.int .i64 (50 + (q : Int)), .int .i64 J.ph, .int .i64 J.sp, .int .i64 J.n, .int .i64 J.si, .int .i64 J.tr] 30
                replace HQC := HQC.keep (Below.alloc (Below.refl _ (wr)) (Nat.le_refl _) (.cells #[.int .i64 (50 + (q : Int)), .int .i64 J.ph, .int .i64 J.sp, .int .i64 J.n, .int .i64 J.si, .int .i64 J.tr] 30))
                replace BB := ball BB (.cells #[.int .i64 (50 + (q : Int)), .int .i64 J.ph, .int .i64 J.sp, .int .i64 J.n, .int .i64 J.si, .int .i64 J.tr] 30)
                obtain ⟨V1, hV1⟩ : ∃ V1, wr.alloc (.cells #[.int .i64 (50 + (q : Int)), .int .i64 J.ph, .int .i64 J.sp, .int .i64 J.n, .int .i64 J.si, .int .i64 J.tr] 30) = V1 := ⟨_, rfl⟩
                rw [hV1] at BB Ty HQC ⊢
                clear hV1
                obtain ⟨k1, hk1⟩ : ∃ k1, wr.heap.size = k1 := ⟨_, rfl⟩
                rw [hk1] at Ty bs1 ⊢
                clear hk1
                have hqc : V1.cell? ⟨gd, q, none⟩ = some (.int .i64 dq) := by
                  rcases HQC with h | ⟨b', off', e', hc⟩
                  · simp at h
                  · simp only [Option.some.injEq, Addr.mk.injEq, and_true] at e'
                    obtain ⟨rfl, rfl⟩ := e'
                    exact hc 0 (by simp)
                clear HQC
                have kqc := cell_regrown hqc
                obtain ⟨ph, hph⟩ : ∃ ph, J.ph = ph := ⟨_, rfl⟩
                rw [hph] at hjq Ty
                obtain ⟨bb, hbb⟩ : ∃ bb, (ph == 3) = bb := ⟨_, rfl⟩
                have hbd3 : decide (3 ≤ dq) = bb := by rw [← hjq]; exact hbb
                clear hjq
                try simp only [hph]
                cases bb
                ·
                  have y0 := Ty 0 _ rfl
                  have ky0 := cell_regrown y0
                  have y1 := Ty 1 _ rfl
                  have ky1 := cell_regrown y1
                  have y2 := Ty 2 _ rfl
                  have ky2 := cell_regrown y2
                  have y3 := Ty 3 _ rfl
                  have ky3 := cell_regrown y3
                  have y4 := Ty 4 _ rfl
                  have ky4 := cell_regrown y4
                  have y5 := Ty 5 _ rfl
                  have ky5 := cell_regrown y5
                  refine wp_region_quiet_below (by kernel_rfl) (by kernel_rfl) ?_
                  repeat (go_big_quiet_step (fail))
                  refine wpQuiet_nil ?_
                  intro _ hw'
                  obtain ⟨⟨dq, osq⟩, hw''⟩ := hw'
                  subst hw''
                  clear y0 ky0 y1 ky1 y2 ky2 y3 ky3 y4 ky4 y5 ky5
                  have bq := below_regrown V1 dq osq
                  obtain ⟨V2, hV2⟩ : ∃ V2, grow (redrawn V1 dq) osq = V2 := ⟨_, rfl⟩
                  rw [hV2] at bq ⊢
                  clear hV2 dq osq
                  replace Ty := Ty.keep bq
                  replace BB := bstep BB bq
                  clear bq
                  go_wp2_with fail
                  go_roundw
                  case rel => exact ⟨q + 1, by omega, by go_num, BB⟩
                  case measure => simp [intOf]; omega
                ·
                  have y0 := Ty 0 _ rfl
                  have ky0 := cell_regrown y0
                  have y1 := Ty 1 _ rfl
                  have ky1 := cell_regrown y1
                  have y2 := Ty 2 _ rfl
                  have ky2 := cell_regrown y2
                  have y3 := Ty 3 _ rfl
                  have ky3 := cell_regrown y3
                  have y4 := Ty 4 _ rfl
                  have ky4 := cell_regrown y4
                  have y5 := Ty 5 _ rfl
                  have ky5 := cell_regrown y5
                  refine wp_region_quiet_below (by kernel_rfl) (by kernel_rfl) ?_
                  repeat (go_big_quiet_step (fail))
                  refine wpQuiet_nil ?_
                  intro _ hw'
                  obtain ⟨⟨dq, osq⟩, hw''⟩ := hw'
                  subst hw''
                  clear y0 ky0 y1 ky1 y2 ky2 y3 ky3 y4 ky4 y5 ky5
                  have bq := below_regrown V1 dq osq
                  obtain ⟨V2, hV2⟩ : ∃ V2, grow (redrawn V1 dq) osq = V2 := ⟨_, rfl⟩
                  rw [hV2] at bq ⊢
                  clear hV2 dq osq
                  replace Ty := Ty.keep bq
                  replace BB := bstep BB bq
                  clear bq
                  go_wp2_with fail
                  go_roundw
                  case rel => exact ⟨q + 1, by omega, by go_num, BB⟩
                  case measure => simp [intOf]; omega
              · have hqn : q = k := by omega
                subst hqn
                have hq' : ¬ (q : Int) < (q : Int) := by omega
                have AS3 := AS2.keep BI; have RD3 := RD2.keep BI; have hl3 := hl2.keep BI; have BB3 := bstep BB2 BI
                have hNw3 := Nat.le_trans hNw2 BI.size
                clear AS2 RD2 hl2 BB2 BI hNw2
                go_wp2_with fail
                go_roundw
                case rel => exact ⟨t + 1, dm, M, a9, m9, c9, by omega, by go_num, rfl, hm9, hl3, HF9, TG9, AS3, RD3, BB3, hNw3⟩
                case measure => simp [intOf]; omega
          by_cases hd1 : d = 1
          · have b0 : (d == 0) = false := by simp [hd1]
            have b1 : (d == 1) = true := by simp [hd1]
            obtain ⟨ch, hf⟩ := hst1 hd1
            have SGd : Sg wr g (i * 6) (50 + (i : Int)) ⟨1, me, nn, 1, 1⟩ := by have := SGi; rw [hd1, jOf1] at this; exact this
            clear SGi
            obtain ⟨M, hM⟩ : ∃ M, M = putL L ⟨50 + (i : Int), nn, ch, 13, true, 1000000 + (50 + (i : Int))⟩ := ⟨_, rfl⟩
            have TG9 : Hid (TgI k nn (t + 1) (dn.set i (d + 1)) M) := Lib.hid (hproves hd1 hf hM)
            have HFI := Lib.hid hf; have HM := Lib.hid hM
            have HD1 := Lib.hid hd1; clear hd1
            clear hf hM hst0 hst1 hst2 hmore hasks hproves hroom
            go_wp2_with fail
            refine (prove_at g (i * 6) (50 + (i : Int)) me nn 1 1 2 ch 13 0 L M n' c' a' wr SGd AS.2 hap (HJ.out 1 (by decide) (by decide)) (HJ.out 2 (by decide) (by decide)) (by decide) HID.out HME.out HNE.out (by decide) (by decide) (by decide) OKL.out hn' hl HFI.out HM.out).mono ?_
            rintro e w9 ⟨a9, m9, c9, rfl, hm9, hl9, f9, S9, T9⟩
            have HF9 : Hid (Fresh N0 a9) := Lib.hid (f9.le hNw)
            have AS9 : AllS w9 g k (fun j => jOf me nn ((dn.set i (d + 1)).getD j 0)) := AllS.turn AS hik T9 S9 (fun j hj => by
              try simp only
              rw [getD_set hdl]
              split
              · rw [HD1.out]; exact jOf2 me nn
              · rfl)
            have RD9 := RD.tch T9 hgne
            have BB9 := Below.tch BB T9 hgw
            have hNw9 := Nat.le_trans hNw T9.size
            have hdl9 := hdl
            clear AS RD hl BB SGd S9 T9 f9 d0 hdc
            have hdr := RD9.at hdl9
            rw [hd] at hdr
            have hfr9 := RD9.2.1 i
            go_upto_region 29 with (fail)
            clear hdr hfr9
            have AS2 := AS9.other (k := gd) hgne i (.int .i64 (d + 1))
            have RD2 := RD9.set hdl9 (d + 1)
            have hl2 := hl9.put9 (k := gd) (HF9.out.apart hgdN) i (.int .i64 (d + 1))
            have BB2 := BB9.setCell (p := ⟨gd, i, none⟩) (by exact hgw2) (.int .i64 (d + 1))
            have hNw2 : N0 ≤ (w9.setCell ⟨gd, i, none⟩ (.int .i64 (d + 1))).heap.size := by simpa using hNw9
            obtain ⟨V9, hV9⟩ : ∃ V9, w9.setCell ⟨gd, i, none⟩ (.int .i64 (d + 1)) = V9 := ⟨_, rfl⟩
            rw [hV9] at AS2 RD2 hl2 BB2 hNw2 ⊢
            clear hV9 AS9 RD9 hl9 BB9 hNw9
            obtain ⟨dm, hdm⟩ : ∃ dm, dn.set i (d + 1) = dm := ⟨_, rfl⟩
            rw [hdm] at RD2 TG9 AS2
            have hdml : dm.length = k := TG9.out.len
            clear hdm
            go_upto_region 30 with (fail)
            go_loopw [130] (fun iv wr => ∃ q : Nat, q ≤ k ∧ iv = .int .i64 q ∧ Below V9.heap.size V9 wr) (fun iv _ => k - (intOf iv).toNat)
            case atStart => exact ⟨0, Nat.zero_le _, rfl, Below.refl _ _⟩
            case round =>
              obtain ⟨q, hqk, rfl, BI⟩ := hrel
              by_cases hq : q < k
              · have hq' : (q : Int) < (k : Int) := by omega
                have hq0 : (0 : Int) ≤ (q : Int) := by omega
                have hwq : IntKind.i64.wrap ((q : Int) + 1) = (q : Int) + 1 := IntWalk.i64_in _ (by omega)
                have SGq := (AS2.1 q hq).keep BI
                simp only at SGq
                have hjq := jOf_in me nn (dm.getD q 0)
                obtain ⟨J, hJ⟩ : ∃ J, jOf me nn (dm.getD q 0) = J := ⟨_, rfl⟩
                rw [hJ] at SGq hjq
                obtain ⟨j0, j1, j2, j3, j4, j5⟩ := SGq
                have RQ := RD2.keep BI
                clear hJ
                obtain ⟨dq, hdq⟩ : ∃ dq, dm.getD q 0 = dq := ⟨_, rfl⟩
                have hqc := RQ.at (i := q) (by rw [hdml]; exact hq)
                rw [hdq] at hjq hqc
                have HQC : IntsAt .i64 wr (some ⟨gd, q, none⟩) [dq] := .inr ⟨_, _, rfl, fun j hj => by simp at hj; subst hj; exact hqc⟩
                clear hdq RQ hqc
                have BB : Below V9.heap.size V9 wr := BI
                go_upto_region 32 with (fail)
                clear j0 j1 j2 j3 j4 j5
                have bs1 : V9.heap.size ≤ wr.heap.size := BB.size
                have Ty := CAt.new (wr) [.int .i64 (50 + (q : Int)), .int .i64 J.ph, .int .i64 J.sp, .int .i64 J.n, .int .i64 J.si, .int .i64 J.tr] 30
                replace HQC := HQC.keep (Below.alloc (Below.refl _ (wr)) (Nat.le_refl _) (.cells #[.int .i64 (50 + (q : Int)), .int .i64 J.ph, .int .i64 J.sp, .int .i64 J.n, .int .i64 J.si, .int .i64 J.tr] 30))
                replace BB := ball BB (.cells #[.int .i64 (50 + (q : Int)), .int .i64 J.ph, .int .i64 J.sp, .int .i64 J.n, .int .i64 J.si, .int .i64 J.tr] 30)
                obtain ⟨V1, hV1⟩ : ∃ V1, wr.alloc (.cells #[.int .i64 (50 + (q : Int)), .int .i64 J.ph, .int .i64 J.sp, .int .i64 J.n, .int .i64 J.si, .int .i64 J.tr] 30) = V1 := ⟨_, rfl⟩
                rw [hV1] at BB Ty HQC ⊢
                clear hV1
                obtain ⟨k1, hk1⟩ : ∃ k1, wr.heap.size = k1 := ⟨_, rfl⟩
                rw [hk1] at Ty bs1 ⊢
                clear hk1
                have hqc : V1.cell? ⟨gd, q, none⟩ = some (.int .i64 dq) := by
                  rcases HQC with h | ⟨b', off', e', hc⟩
                  · simp at h
                  · simp only [Option.some.injEq, Addr.mk.injEq, and_true] at e'
                    obtain ⟨rfl, rfl⟩ := e'
                    exact hc 0 (by simp)
                clear HQC
                have kqc := cell_regrown hqc
                obtain ⟨ph, hph⟩ : ∃ ph, J.ph = ph := ⟨_, rfl⟩
                rw [hph] at hjq Ty
                obtain ⟨bb, hbb⟩ : ∃ bb, (ph == 3) = bb := ⟨_, rfl⟩
                have hbd3 : decide (3 ≤ dq) = bb := by rw [← hjq]; exact hbb
                clear hjq
                try simp only [hph]
                cases bb
                ·
                  have y0 := Ty 0 _ rfl
                  have ky0 := cell_regrown y0
                  have y1 := Ty 1 _ rfl
                  have ky1 := cell_regrown y1
                  have y2 := Ty 2 _ rfl
                  have ky2 := cell_regrown y2
                  have y3 := Ty 3 _ rfl
                  have ky3 := cell_regrown y3
                  have y4 := Ty 4 _ rfl
                  have ky4 := cell_regrown y4
                  have y5 := Ty 5 _ rfl
                  have ky5 := cell_regrown y5
                  refine wp_region_quiet_below (by kernel_rfl) (by kernel_rfl) ?_
                  repeat (go_big_quiet_step (fail))
                  refine wpQuiet_nil ?_
                  intro _ hw'
                  obtain ⟨⟨dq, osq⟩, hw''⟩ := hw'
                  subst hw''
                  clear y0 ky0 y1 ky1 y2 ky2 y3 ky3 y4 ky4 y5 ky5
                  have bq := below_regrown V1 dq osq
                  obtain ⟨V2, hV2⟩ : ∃ V2, grow (redrawn V1 dq) osq = V2 := ⟨_, rfl⟩
                  rw [hV2] at bq ⊢
                  clear hV2 dq osq
                  replace Ty := Ty.keep bq
                  replace BB := bstep BB bq
                  clear bq
                  go_wp2_with fail
                  go_roundw
                  case rel => exact ⟨q + 1, by omega, by go_num, BB⟩
                  case measure => simp [intOf]; omega
                ·
                  have y0 := Ty 0 _ rfl
                  have ky0 := cell_regrown y0
                  have y1 := Ty 1 _ rfl
                  have ky1 := cell_regrown y1
                  have y2 := Ty 2 _ rfl
                  have ky2 := cell_regrown y2
                  have y3 := Ty 3 _ rfl
                  have ky3 := cell_regrown y3
                  have y4 := Ty 4 _ rfl
                  have ky4 := cell_regrown y4
                  have y5 := Ty 5 _ rfl
                  have ky5 := cell_regrown y5
                  refine wp_region_quiet_below (by kernel_rfl) (by kernel_rfl) ?_
                  repeat (go_big_quiet_step (fail))
                  refine wpQuiet_nil ?_
                  intro _ hw'
                  obtain ⟨⟨dq, osq⟩, hw''⟩ := hw'
                  subst hw''
                  clear y0 ky0 y1 ky1 y2 ky2 y3 ky3 y4 ky4 y5 ky5
                  have bq := below_regrown V1 dq osq
                  obtain ⟨V2, hV2⟩ : ∃ V2, grow (redrawn V1 dq) osq = V2 := ⟨_, rfl⟩
                  rw [hV2] at bq ⊢
                  clear hV2 dq osq
                  replace Ty := Ty.keep bq
                  replace BB := bstep BB bq
                  clear bq
                  go_wp2_with fail
                  go_roundw
                  case rel => exact ⟨q + 1, by omega, by go_num, BB⟩
                  case measure => simp [intOf]; omega
              · have hqn : q = k := by omega
                subst hqn
                have hq' : ¬ (q : Int) < (q : Int) := by omega
                have AS3 := AS2.keep BI; have RD3 := RD2.keep BI; have hl3 := hl2.keep BI; have BB3 := bstep BB2 BI
                have hNw3 := Nat.le_trans hNw2 BI.size
                clear AS2 RD2 hl2 BB2 BI hNw2
                go_wp2_with fail
                go_roundw
                case rel => exact ⟨t + 1, dm, M, a9, m9, c9, by omega, by go_num, rfl, hm9, hl3, HF9, TG9, AS3, RD3, BB3, hNw3⟩
                case measure => simp [intOf]; omega
          by_cases hd2 : d = 2
          · have b0 : (d == 0) = false := by simp [hd2]
            have b1 : (d == 1) = false := by simp [hd2]
            have b2 : (d == 2) = true := by simp [hd2]
            obtain ⟨ch, hf⟩ := hst2 hd2
            have SGd : Sg wr g (i * 6) (50 + (i : Int)) ⟨2, me, nn, 1, 1⟩ := by have := SGi; rw [hd2, jOf2] at this; exact this
            clear SGi
            have TG9 : Hid (TgI k nn (t + 1) (dn.set i (d + 1)) L) := Lib.hid (hmore (by omega))
            obtain ⟨p, hp1, hp2, hp3⟩ := welc_index (ra := e0) (rb := e0 + 2) OKL.out HME.out (by have := ME.out; omega) (by have := E0.out; omega) (by omega) (by have := E0.out; omega) hf
            have hfo := fun {j : Nat} (hj : j < (welcF (toldV L me 3 true) e0 (e0 + 2)).length) => welc_form (L := L) (me := me) (ra := e0) (rb := e0 + 2) hj
            have hwl : (welcF (toldV L me 3 true) e0 (e0 + 2)).length ≤ 60 := by
              unfold welcF
              rw [List.length_map]
              have := List.length_filter_le (fun x => judgeE x e0 (e0 + 2) == 0) (toldV L me 3 true)
              have := told_len (me := me) (kind := 3) (pr := true) OKL.out
              omega
            obtain ⟨W, hW⟩ : ∃ W, welcF (toldV L me 3 true) e0 (e0 + 2) = W := ⟨_, rfl⟩
            rw [hW] at hp1 hp2 hp3 hfo hwl
            have HW := Lib.hid hW; have HP1 := Lib.hid hp1; have HP2 := Lib.hid hp2; have HP3 := Lib.hid hp3; have HWL := Lib.hid hwl
            have HFO : Hid (∀ j, j < W.length → formedB (W.getD j default) = true) := Lib.hid (fun j hj => hfo hj)
            have HD2 := Lib.hid hd2; clear hd2
            clear hW hp1 hp2 hp3 hwl hfo hf hst0 hst1 hst2 hmore hasks hproves hroom
            have hne35 := ne35 e0 (e0 + 2)
            go_upto_region 26 with (fail)
            refine' wp_region_late' [0, 1, 2, 3, 4, 5, 9] [] [6, 7, 8, 10, 11] [0, 1, 2, 3, 4, 9] (by kernel_rfl) (by kernel_rfl) _
              (fun w' => True) (fun lx => if lx = 0 then .slice (some ⟨g, 0, none⟩) k cA else if lx = 1 then .int .i64 i else if lx = 2 then .pointer (some ⟨g, i * 6, none⟩) else if lx = 3 then .slice a' n' c' else if lx = 4 then .int .i64 me else if lx = 9 then .int .i64 asn else undef)
              (fun Z hZ hN => quiet_hole ?hq7) (fun _ => .cells #[] 0) (fun _ p => .pointer (some ⟨p, 0, none⟩)) (fun i hi => by cases hi) ?hl7 ?ht7
            case hq7 =>
              intro Q9 hQ9
              show wpQuiet _ _ _ _ [_, _, _, _, _, _, _] _
              repeat (go_big_quiet_step (fail))
              exact wpQuiet_nil hQ9
            case hl7 =>
              intro j hj o ho
              simp only [List.mem_cons, List.not_mem_nil, or_false] at hj
              rcases hj with rfl | rfl | rfl | rfl | rfl | rfl
              all_goals (
                simp only [List.getElem?_cons_succ, List.getElem?_cons_zero, Option.some.injEq] at ho
                subst ho
                refine ⟨fun w' hw' => by go_simp, fun t ht => ?_⟩
                simp only [Option.some.injEq] at ht
                subst ht
                rfl)
            intro π Z hz7 _ _
            simp only [List.filterMap_cons, List.filterMap_nil, List.getElem?_cons_zero, List.getElem?_cons_succ, putsA, Option.bind_some, Act.put, List.setIfInBounds_toArray, List.set_cons_zero, List.set_cons_succ]
            refine ⟨trivial, ?_⟩
            show wpListS _ _ _ _ [_, _, _, _, _] _ _
            replace SGd := SGd.keep hz7; replace hl := hl.keep hz7; replace AS := AS.keep hz7; replace RD := RD.keep hz7
            replace BB := bstep BB hz7; replace hNw := Nat.le_trans hNw hz7.size
            clear hz7 d0 hdc
            refine listS_step rfl fun K9 hK9 => ?_
            go_simp
            refine (root_any asn _).mono ?_
            rintro e u1 ⟨rfl, b1'⟩
            rw [HRO.out.1, HRO.out.2]
            refine hK9 _ _ trivial ?_
            clear hK9 K9
            replace SGd := SGd.keep b1'; replace hl := hl.keep b1'; replace AS := AS.keep b1'; replace RD := RD.keep b1'
            replace BB := bstep BB b1'; replace hNw := Nat.le_trans hNw b1'.size
            clear b1'
            refine listS_step rfl fun K9 hK9 => ?_
            go_simp
            refine (welcomes_at L n' a' c' me e0 (e0 + 2) u1 OKL.out hn' hl).mono ?_
            rintro e u2 ⟨a5, m5, c5, rfl, hm5, hw5, b5, f5⟩
            have hap5 := f5.apart AS.2.2
            rw [HW.out] at hm5 hw5
            refine hK9 _ _ trivial ?_
            clear hK9 K9
            replace SGd := SGd.keep b5; replace hl := hl.keep b5; replace AS := AS.keep b5; replace RD := RD.keep b5
            replace BB := bstep BB b5; replace hNw := Nat.le_trans hNw b5.size
            clear b5 f5
            refine listS_step rfl fun K9 hK9 => ?_
            go_simp
            refine (hear10_at g (i * 6) (50 + (i : Int)) me nn 1 1 3 e0 (e0 + 2) W m5 c5 p a5 u2 SGd AS.2 hap5 (HJ.out 2 (by decide) (by decide)) (HJ.out 3 (by decide) (by decide)) (by decide) HID.out (by decide) (by decide) hm5 (by rw [hm5.out]; exact HWL.out) hw5 (by rw [hm5.out]; exact HP1.out) HP2.out HP3.out HFO.out).mono ?_
            rintro e u3 ⟨rfl, S9, T9⟩
            refine hK9 _ _ trivial ?_
            clear hK9 K9
            have AS9 : AllS u3 g k (fun j => jOf me nn ((dn.set i (d + 1)).getD j 0)) := AllS.turn AS hik T9 S9 (fun j hj => by
              try simp only
              rw [getD_set hdl]
              split
              · rw [HD2.out]; exact jOf3 me nn _ (by decide)
              · rfl)
            have hm9 := hn'
            have HF9 := HFR
            have hl9 := hl.tch T9 hap
            have RD9 := RD.tch T9 hgne
            have BB9 := Below.tch BB T9 hgw
            have hNw9 := Nat.le_trans hNw T9.size
            have hdl9 := hdl
            clear AS RD hl BB SGd S9 T9 hw5
            refine listS_step rfl fun K9 hK9 => ?_
            go_simp
            refine (root_any asn _).mono ?_
            rintro e u4 ⟨rfl, b1'⟩
            rw [HRO.out.1, HRO.out.2]
            refine hK9 _ _ trivial ?_
            clear hK9 K9
            replace hl9 := hl9.keep b1'; replace AS9 := AS9.keep b1'; replace RD9 := RD9.keep b1'
            replace BB9 := bstep BB9 b1'; replace hNw9 := Nat.le_trans hNw9 b1'.size
            clear b1'
            refine listS_step rfl fun K9 hK9 => ?_
            go_simp
            refine hK9 _ _ trivial ?_
            clear hK9 K9
            unfold wpListS noPanic
            have hdr := RD9.at hdl9
            rw [hd] at hdr
            have hfr9 := RD9.2.1 i
            go_upto_region 29 with (fail)
            clear hdr hfr9
            have AS2 := AS9.other (k := gd) hgne i (.int .i64 (d + 1))
            have RD2 := RD9.set hdl9 (d + 1)
            have hl2 := hl9.put9 (k := gd) (HF9.out.apart hgdN) i (.int .i64 (d + 1))
            have BB2 := BB9.setCell (p := ⟨gd, i, none⟩) (by exact hgw2) (.int .i64 (d + 1))
            have hNw2 : N0 ≤ (u4.setCell ⟨gd, i, none⟩ (.int .i64 (d + 1))).heap.size := by simpa using hNw9
            obtain ⟨V9, hV9⟩ : ∃ V9, u4.setCell ⟨gd, i, none⟩ (.int .i64 (d + 1)) = V9 := ⟨_, rfl⟩
            rw [hV9] at AS2 RD2 hl2 BB2 hNw2 ⊢
            clear hV9 AS9 RD9 hl9 BB9 hNw9
            obtain ⟨dm, hdm⟩ : ∃ dm, dn.set i (d + 1) = dm := ⟨_, rfl⟩
            rw [hdm] at RD2 TG9 AS2
            have hdml : dm.length = k := TG9.out.len
            clear hdm
            go_upto_region 30 with (fail)
            go_loopw [130] (fun iv wr => ∃ q : Nat, q ≤ k ∧ iv = .int .i64 q ∧ Below V9.heap.size V9 wr) (fun iv _ => k - (intOf iv).toNat)
            case atStart => exact ⟨0, Nat.zero_le _, rfl, Below.refl _ _⟩
            case round =>
              obtain ⟨q, hqk, rfl, BI⟩ := hrel
              by_cases hq : q < k
              · have hq' : (q : Int) < (k : Int) := by omega
                have hq0 : (0 : Int) ≤ (q : Int) := by omega
                have hwq : IntKind.i64.wrap ((q : Int) + 1) = (q : Int) + 1 := IntWalk.i64_in _ (by omega)
                have SGq := (AS2.1 q hq).keep BI
                simp only at SGq
                have hjq := jOf_in me nn (dm.getD q 0)
                obtain ⟨J, hJ⟩ : ∃ J, jOf me nn (dm.getD q 0) = J := ⟨_, rfl⟩
                rw [hJ] at SGq hjq
                obtain ⟨j0, j1, j2, j3, j4, j5⟩ := SGq
                have RQ := RD2.keep BI
                clear hJ
                obtain ⟨dq, hdq⟩ : ∃ dq, dm.getD q 0 = dq := ⟨_, rfl⟩
                have hqc := RQ.at (i := q) (by rw [hdml]; exact hq)
                rw [hdq] at hjq hqc
                have HQC : IntsAt .i64 wr (some ⟨gd, q, none⟩) [dq] := .inr ⟨_, _, rfl, fun j hj => by simp at hj; subst hj; exact hqc⟩
                clear hdq RQ hqc
                have BB : Below V9.heap.size V9 wr := BI
                go_upto_region 32 with (fail)
                clear j0 j1 j2 j3 j4 j5
                have bs1 : V9.heap.size ≤ wr.heap.size := BB.size
                have Ty := CAt.new (wr) [.int .i64 (50 + (q : Int)), .int .i64 J.ph, .int .i64 J.sp, .int .i64 J.n, .int .i64 J.si, .int .i64 J.tr] 30
                replace HQC := HQC.keep (Below.alloc (Below.refl _ (wr)) (Nat.le_refl _) (.cells #[.int .i64 (50 + (q : Int)), .int .i64 J.ph, .int .i64 J.sp, .int .i64 J.n, .int .i64 J.si, .int .i64 J.tr] 30))
                replace BB := ball BB (.cells #[.int .i64 (50 + (q : Int)), .int .i64 J.ph, .int .i64 J.sp, .int .i64 J.n, .int .i64 J.si, .int .i64 J.tr] 30)
                obtain ⟨V1, hV1⟩ : ∃ V1, wr.alloc (.cells #[.int .i64 (50 + (q : Int)), .int .i64 J.ph, .int .i64 J.sp, .int .i64 J.n, .int .i64 J.si, .int .i64 J.tr] 30) = V1 := ⟨_, rfl⟩
                rw [hV1] at BB Ty HQC ⊢
                clear hV1
                obtain ⟨k1, hk1⟩ : ∃ k1, wr.heap.size = k1 := ⟨_, rfl⟩
                rw [hk1] at Ty bs1 ⊢
                clear hk1
                have hqc : V1.cell? ⟨gd, q, none⟩ = some (.int .i64 dq) := by
                  rcases HQC with h | ⟨b', off', e', hc⟩
                  · simp at h
                  · simp only [Option.some.injEq, Addr.mk.injEq, and_true] at e'
                    obtain ⟨rfl, rfl⟩ := e'
                    exact hc 0 (by simp)
                clear HQC
                have kqc := cell_regrown hqc
                obtain ⟨ph, hph⟩ : ∃ ph, J.ph = ph := ⟨_, rfl⟩
                rw [hph] at hjq Ty
                obtain ⟨bb, hbb⟩ : ∃ bb, (ph == 3) = bb := ⟨_, rfl⟩
                have hbd3 : decide (3 ≤ dq) = bb := by rw [← hjq]; exact hbb
                clear hjq
                try simp only [hph]
                cases bb
                ·
                  have y0 := Ty 0 _ rfl
                  have ky0 := cell_regrown y0
                  have y1 := Ty 1 _ rfl
                  have ky1 := cell_regrown y1
                  have y2 := Ty 2 _ rfl
                  have ky2 := cell_regrown y2
                  have y3 := Ty 3 _ rfl
                  have ky3 := cell_regrown y3
                  have y4 := Ty 4 _ rfl
                  have ky4 := cell_regrown y4
                  have y5 := Ty 5 _ rfl
                  have ky5 := cell_regrown y5
                  refine wp_region_quiet_below (by kernel_rfl) (by kernel_rfl) ?_
                  repeat (go_big_quiet_step (fail))
                  refine wpQuiet_nil ?_
                  intro _ hw'
                  obtain ⟨⟨dq, osq⟩, hw''⟩ := hw'
                  subst hw''
                  clear y0 ky0 y1 ky1 y2 ky2 y3 ky3 y4 ky4 y5 ky5
                  have bq := below_regrown V1 dq osq
                  obtain ⟨V2, hV2⟩ : ∃ V2, grow (redrawn V1 dq) osq = V2 := ⟨_, rfl⟩
                  rw [hV2] at bq ⊢
                  clear hV2 dq osq
                  replace Ty := Ty.keep bq
                  replace BB := bstep BB bq
                  clear bq
                  go_wp2_with fail
                  go_roundw
                  case rel => exact ⟨q + 1, by omega, by go_num, BB⟩
                  case measure => simp [intOf]; omega
                ·
                  have y0 := Ty 0 _ rfl
                  have ky0 := cell_regrown y0
                  have y1 := Ty 1 _ rfl
                  have ky1 := cell_regrown y1
                  have y2 := Ty 2 _ rfl
                  have ky2 := cell_regrown y2
                  have y3 := Ty 3 _ rfl
                  have ky3 := cell_regrown y3
                  have y4 := Ty 4 _ rfl
                  have ky4 := cell_regrown y4
                  have y5 := Ty 5 _ rfl
                  have ky5 := cell_regrown y5
                  refine wp_region_quiet_below (by kernel_rfl) (by kernel_rfl) ?_
                  repeat (go_big_quiet_step (fail))
                  refine wpQuiet_nil ?_
                  intro _ hw'
                  obtain ⟨⟨dq, osq⟩, hw''⟩ := hw'
                  subst hw''
                  clear y0 ky0 y1 ky1 y2 ky2 y3 ky3 y4 ky4 y5 ky5
                  have bq := below_regrown V1 dq osq
                  obtain ⟨V2, hV2⟩ : ∃ V2, grow (redrawn V1 dq) osq = V2 := ⟨_, rfl⟩
                  rw [hV2] at bq ⊢
                  clear hV2 dq osq
                  replace Ty := Ty.keep bq
                  replace BB := bstep BB bq
                  clear bq
                  go_wp2_with fail
                  go_roundw
                  case rel => exact ⟨q + 1, by omega, by go_num, BB⟩
                  case measure => simp [intOf]; omega
              · have hqn : q = k := by omega
                subst hqn
                have hq' : ¬ (q : Int) < (q : Int) := by omega
                have AS3 := AS2.keep BI; have RD3 := RD2.keep BI; have hl3 := hl2.keep BI; have BB3 := bstep BB2 BI
                have hNw3 := Nat.le_trans hNw2 BI.size
                clear AS2 RD2 hl2 BB2 BI hNw2
                go_wp2_with fail
                go_roundw
                case rel => exact ⟨t + 1, dm, L, a', n', c', by omega, by go_num, rfl, hm9, hl3, HF9, TG9, AS3, RD3, BB3, hNw3⟩
                case measure => simp [intOf]; omega
          · have hd3 : 3 ≤ d := by omega
            have b0 : (d == 0) = false := by simp [hd0]
            have b1 : (d == 1) = false := by simp [hd1]
            have b2 : (d == 2) = false := by simp [hd2]
            have TG9 : Hid (TgI k nn (t + 1) (dn.set i (d + 1)) L) := Lib.hid (hmore (by omega))
            have AS9 : AllS wr g k (fun j => jOf me nn ((dn.set i (d + 1)).getD j 0)) := ⟨fun j hj => by
              simp only
              rw [getD_set hdl]
              split
              · rename_i hji
                subst hji
                have := SGi
                rw [jOf3 me nn d hd3] at this
                rw [jOf3 me nn (d + 1) (by omega)]; exact this
              · exact AS.1 j hj, AS.2⟩
            have hm9 := hn'
            have HF9 := HFR
            have hl9 := hl
            have RD9 := RD
            have BB9 := BB
            have hNw9 := hNw
            have hdl9 := hdl
            clear AS RD hl BB SGi hst0 hst1 hst2 hmore hasks hproves hroom
            have hdr := RD9.at hdl9
            rw [hd] at hdr
            have hfr9 := RD9.2.1 i
            go_upto_region 29 with (fail)
            clear hdr hfr9
            have AS2 := AS9.other (k := gd) hgne i (.int .i64 (d + 1))
            have RD2 := RD9.set hdl9 (d + 1)
            have hl2 := hl9.put9 (k := gd) (HF9.out.apart hgdN) i (.int .i64 (d + 1))
            have BB2 := BB9.setCell (p := ⟨gd, i, none⟩) (by exact hgw2) (.int .i64 (d + 1))
            have hNw2 : N0 ≤ (wr.setCell ⟨gd, i, none⟩ (.int .i64 (d + 1))).heap.size := by simpa using hNw9
            obtain ⟨V9, hV9⟩ : ∃ V9, wr.setCell ⟨gd, i, none⟩ (.int .i64 (d + 1)) = V9 := ⟨_, rfl⟩
            rw [hV9] at AS2 RD2 hl2 BB2 hNw2 ⊢
            clear hV9 AS9 RD9 hl9 BB9 hNw9
            obtain ⟨dm, hdm⟩ : ∃ dm, dn.set i (d + 1) = dm := ⟨_, rfl⟩
            rw [hdm] at RD2 TG9 AS2
            have hdml : dm.length = k := TG9.out.len
            clear hdm
            go_upto_region 30 with (fail)
            go_loopw [130] (fun iv wr => ∃ q : Nat, q ≤ k ∧ iv = .int .i64 q ∧ Below V9.heap.size V9 wr) (fun iv _ => k - (intOf iv).toNat)
            case atStart => exact ⟨0, Nat.zero_le _, rfl, Below.refl _ _⟩
            case round =>
              obtain ⟨q, hqk, rfl, BI⟩ := hrel
              by_cases hq : q < k
              · have hq' : (q : Int) < (k : Int) := by omega
                have hq0 : (0 : Int) ≤ (q : Int) := by omega
                have hwq : IntKind.i64.wrap ((q : Int) + 1) = (q : Int) + 1 := IntWalk.i64_in _ (by omega)
                have SGq := (AS2.1 q hq).keep BI
                simp only at SGq
                have hjq := jOf_in me nn (dm.getD q 0)
                obtain ⟨J, hJ⟩ : ∃ J, jOf me nn (dm.getD q 0) = J := ⟨_, rfl⟩
                rw [hJ] at SGq hjq
                obtain ⟨j0, j1, j2, j3, j4, j5⟩ := SGq
                have RQ := RD2.keep BI
                clear hJ
                obtain ⟨dq, hdq⟩ : ∃ dq, dm.getD q 0 = dq := ⟨_, rfl⟩
                have hqc := RQ.at (i := q) (by rw [hdml]; exact hq)
                rw [hdq] at hjq hqc
                have HQC : IntsAt .i64 wr (some ⟨gd, q, none⟩) [dq] := .inr ⟨_, _, rfl, fun j hj => by simp at hj; subst hj; exact hqc⟩
                clear hdq RQ hqc
                have BB : Below V9.heap.size V9 wr := BI
                go_upto_region 32 with (fail)
                clear j0 j1 j2 j3 j4 j5
                have bs1 : V9.heap.size ≤ wr.heap.size := BB.size
                have Ty := CAt.new (wr) [.int .i64 (50 + (q : Int)), .int .i64 J.ph, .int .i64 J.sp, .int .i64 J.n, .int .i64 J.si, .int .i64 J.tr] 30
                replace HQC := HQC.keep (Below.alloc (Below.refl _ (wr)) (Nat.le_refl _) (.cells #[.int .i64 (50 + (q : Int)), .int .i64 J.ph, .int .i64 J.sp, .int .i64 J.n, .int .i64 J.si, .int .i64 J.tr] 30))
                replace BB := ball BB (.cells #[.int .i64 (50 + (q : Int)), .int .i64 J.ph, .int .i64 J.sp, .int .i64 J.n, .int .i64 J.si, .int .i64 J.tr] 30)
                obtain ⟨V1, hV1⟩ : ∃ V1, wr.alloc (.cells #[.int .i64 (50 + (q : Int)), .int .i64 J.ph, .int .i64 J.sp, .int .i64 J.n, .int .i64 J.si, .int .i64 J.tr] 30) = V1 := ⟨_, rfl⟩
                rw [hV1] at BB Ty HQC ⊢
                clear hV1
                obtain ⟨k1, hk1⟩ : ∃ k1, wr.heap.size = k1 := ⟨_, rfl⟩
                rw [hk1] at Ty bs1 ⊢
                clear hk1
                have hqc : V1.cell? ⟨gd, q, none⟩ = some (.int .i64 dq) := by
                  rcases HQC with h | ⟨b', off', e', hc⟩
                  · simp at h
                  · simp only [Option.some.injEq, Addr.mk.injEq, and_true] at e'
                    obtain ⟨rfl, rfl⟩ := e'
                    exact hc 0 (by simp)
                clear HQC
                have kqc := cell_regrown hqc
                obtain ⟨ph, hph⟩ : ∃ ph, J.ph = ph := ⟨_, rfl⟩
                rw [hph] at hjq Ty
                obtain ⟨bb, hbb⟩ : ∃ bb, (ph == 3) = bb := ⟨_, rfl⟩
                have hbd3 : decide (3 ≤ dq) = bb := by rw [← hjq]; exact hbb
                clear hjq
                try simp only [hph]
                cases bb
                ·
                  have y0 := Ty 0 _ rfl
                  have ky0 := cell_regrown y0
                  have y1 := Ty 1 _ rfl
                  have ky1 := cell_regrown y1
                  have y2 := Ty 2 _ rfl
                  have ky2 := cell_regrown y2
                  have y3 := Ty 3 _ rfl
                  have ky3 := cell_regrown y3
                  have y4 := Ty 4 _ rfl
                  have ky4 := cell_regrown y4
                  have y5 := Ty 5 _ rfl
                  have ky5 := cell_regrown y5
                  refine wp_region_quiet_below (by kernel_rfl) (by kernel_rfl) ?_
                  repeat (go_big_quiet_step (fail))
                  refine wpQuiet_nil ?_
                  intro _ hw'
                  obtain ⟨⟨dq, osq⟩, hw''⟩ := hw'
                  subst hw''
                  clear y0 ky0 y1 ky1 y2 ky2 y3 ky3 y4 ky4 y5 ky5
                  have bq := below_regrown V1 dq osq
                  obtain ⟨V2, hV2⟩ : ∃ V2, grow (redrawn V1 dq) osq = V2 := ⟨_, rfl⟩
                  rw [hV2] at bq ⊢
                  clear hV2 dq osq
                  replace Ty := Ty.keep bq
                  replace BB := bstep BB bq
                  clear bq
                  go_wp2_with fail
                  go_roundw
                  case rel => exact ⟨q + 1, by omega, by go_num, BB⟩
                  case measure => simp [intOf]; omega
                ·
                  have y0 := Ty 0 _ rfl
                  have ky0 := cell_regrown y0
                  have y1 := Ty 1 _ rfl
                  have ky1 := cell_regrown y1
                  have y2 := Ty 2 _ rfl
                  have ky2 := cell_regrown y2
                  have y3 := Ty 3 _ rfl
                  have ky3 := cell_regrown y3
                  have y4 := Ty 4 _ rfl
                  have ky4 := cell_regrown y4
                  have y5 := Ty 5 _ rfl
                  have ky5 := cell_regrown y5
                  refine wp_region_quiet_below (by kernel_rfl) (by kernel_rfl) ?_
                  repeat (go_big_quiet_step (fail))
                  refine wpQuiet_nil ?_
                  intro _ hw'
                  obtain ⟨⟨dq, osq⟩, hw''⟩ := hw'
                  subst hw''
                  clear y0 ky0 y1 ky1 y2 ky2 y3 ky3 y4 ky4 y5 ky5
                  have bq := below_regrown V1 dq osq
                  obtain ⟨V2, hV2⟩ : ∃ V2, grow (redrawn V1 dq) osq = V2 := ⟨_, rfl⟩
                  rw [hV2] at bq ⊢
                  clear hV2 dq osq
                  replace Ty := Ty.keep bq
                  replace BB := bstep BB bq
                  clear bq
                  go_wp2_with fail
                  go_roundw
                  case rel => exact ⟨q + 1, by omega, by go_num, BB⟩
                  case measure => simp [intOf]; omega
              · have hqn : q = k := by omega
                subst hqn
                have hq' : ¬ (q : Int) < (q : Int) := by omega
                have AS3 := AS2.keep BI; have RD3 := RD2.keep BI; have hl3 := hl2.keep BI; have BB3 := bstep BB2 BI
                have hNw3 := Nat.le_trans hNw2 BI.size
                clear AS2 RD2 hl2 BB2 BI hNw2
                go_wp2_with fail
                go_roundw
                case rel => exact ⟨t + 1, dm, L, a', n', c', by omega, by go_num, rfl, hm9, hl3, HF9, TG9, AS3, RD3, BB3, hNw3⟩
                case measure => simp [intOf]; omega
        · have htn : t = ns := by omega
          subst htn
          have hlt9' : ¬ (t : Int) < (t : Int) := by omega
          have hsm := TG.out.small
          have hsm2 : (n' : Int) ≤ (k : Int) := by have := hn'.out; omega
          go_wp2_with fail
          refine (rvalid_at L n' a' c' wr TG.out.ok hn' hl).mono ?_
          rintro e w9 ⟨rfl, b9⟩
          replace BB := bstep BB b9
          go_wp2_with fail
          go_ret
          exact ⟨rfl, BB⟩
theorem pTog (me boot asn many : Int) (sa : Option Addr) (cs : Nat) (zs : List Int) (w : World) (w0 : (Lit.int .i64 me).wf = true) (w1 : (Lit.int .i64 boot).wf = true) (w2 : (Lit.int .i64 asn).wf = true) (w3 : (Lit.int .u8 many).wf = true)
    (hi : IntsAt .u8 w sa zs) (hx : zs.length ≤ maxLen) (hw : ∀ z ∈ zs, (Lit.int .u8 z).wf = true) (hT : Tab w) :
    Calls Tryd.prog 3 #[.int .i64 me, .int .i64 boot, .int .i64 asn, .int .u8 many, .slice sa zs.length cs] w (Ans (.bool true) w) := by
  have h := wf_bd w3
  have e1 : IntKind.u8.min = 0 := by decide
  have e2 : IntKind.u8.max = 255 := by decide
  rw [e1, e2] at h
  by_cases h0 : me < 0
  · exact tog_e0 me boot asn many zs _ cs sa w hT (Lib.hid rfl) hi hw hx h h0
  by_cases h1 : 50 ≤ me
  · exact tog_e1 me boot asn many zs _ cs sa w hT (Lib.hid rfl) hi hw hx h h0 h1
  by_cases h2 : boot < 0
  · exact tog_e2 me boot asn many zs _ cs sa w hT (Lib.hid rfl) hi hw hx h h0 h1 h2
  by_cases h3 : 1000000 < boot
  · exact tog_e3 me boot asn many zs _ cs sa w hT (Lib.hid rfl) hi hw hx h h0 h1 h2 h3
  by_cases h4 : asn < 0
  · exact tog_e4 me boot asn many zs _ cs sa w hT (Lib.hid rfl) hi hw hx h h0 h1 h2 h3 h4
  by_cases h5 : 1000000000 < asn
  · exact tog_e5 me boot asn many zs _ cs sa w hT (Lib.hid rfl) hi hw hx h h0 h1 h2 h3 h4 h5
  by_cases h6 : (40 : Int) < (zs.length : Int)
  · exact tog_e6 me boot asn many zs _ cs sa w hT (Lib.hid rfl) hi hw hx h h0 h1 h2 h3 h4 h5 h6
  · exact tog_c me boot asn many zs _ cs sa w hT (Lib.hid rfl) hi hw hx h h0 h1 h2 h3 h4 h5 h6
end Go.Proofs.YtgmabjlehjpboaaDoor
