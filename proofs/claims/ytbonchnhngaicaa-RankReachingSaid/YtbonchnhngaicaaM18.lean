/- Proved: that the law RankReaching of the statements returns true for every input. Conditions: the lists of moves and of links lie in memory, their numbers in the bounds of their kinds. -/
import Derived.Test.YtbonchnhngaicaaM17
import Derived.Test.YtbonchnhngaicaaM15
import Derived.Test.YtbonchnhngaicaaLate
import Derived.Deep.DrawnRows
namespace Go.Proofs.Ytbonchnhngaicaa
open Go.RowKit Go.Sort Go.BigFrame
set_option linter.unusedVariables false
set_option linter.unusedSimpArgs false
attribute [local go_sem] cell_alloc_old
attribute [local go_sem ↓] Go.wp_at_zero Go.wp_at_succ

/-- A link, as the statements give it. -/
structure Lnk where
  a : Int
  b : Int
deriving Inhabited
abbrev Lnk.cs (x : Lnk) : List Value := [.int .u8 x.a, .int .u8 x.b]
structure Lnk.ok (x : Lnk) : Prop where
  a0 : 0 ≤ x.a
  a1 : x.a ≤ 255
  b0 : 0 ≤ x.b
  b1 : x.b ≤ 255
/-- The links lie in memory. -/
def LnAt (w : World) (a : Option Addr) (l : List Lnk) : Prop := l = [] ∨ ∃ b off, a = some ⟨b, off, none⟩ ∧ ∀ i, i < l.length → ∀ j u, (l.getD i default).cs[j]? = some u → w.cell? ⟨b, off + i * 2 + j, none⟩ = some u
theorem LnAt.at {w wr : World} {a : Option Addr} {l : List Lnk} (h : LnAt w a l) (hb : Below w.heap.size w wr) {i : Nat} (hi : i < l.length) : ∃ b off, a = some ⟨b, off, none⟩ ∧
    wr.cell? ⟨b, off + i * 2, none⟩ = some (.int .u8 (l.getD i default).a) ∧ wr.cell? ⟨b, off + i * 2 + 1, none⟩ = some (.int .u8 (l.getD i default).b) := by
  rcases h with rfl | ⟨b, off, ha, h⟩
  · simp at hi
  · exact ⟨b, off, ha, keep1 hb (h i hi 0 _ rfl), keep1 hb (h i hi 1 _ rfl)⟩
def ends (n : Nat) (ll : List Lnk) : List (Nat × Nat) := ll.map fun x => ((x.a.tmod n).toNat, (x.b.tmod n).toNat)
theorem ends_lt {n : Nat} (hn : 0 < n) {ll : List Lnk} (h : ∀ x ∈ ll, x.ok) : ∀ l ∈ ends n ll, l.1 < n ∧ l.2 < n := fun l hl => by
  obtain ⟨x, hx, rfl⟩ := List.mem_map.1 hl
  exact ⟨(mod_nat (h x hx).a0 hn).2, (mod_nat (h x hx).b0 hn).2⟩
theorem ends_at {n : Nat} {ll : List Lnk} {p : Nat} (hp : p < ll.length) : (ends n ll).getD p (0, 0) = (((ll.getD p default).a.tmod n).toNat, ((ll.getD p default).b.tmod n).toNat) := by
  unfold ends
  rw [List.getD_eq_getElem?_getD, List.getElem?_map, List.getElem?_eq_getElem hp, List.getD_eq_getElem?_getD, List.getElem?_eq_getElem hp]
  rfl

set_option maxRecDepth 100000 in
set_option maxHeartbeats 20000000 in
theorem reach_0 (nd : Int) (h0 : 0 ≤ nd) (h1 : nd ≤ 255) (m : Nat) (a : Option Addr) (cap : Nat) (l : List Mv) (k : Nat) (a2 : Option Addr) (cap2 : Nat) (ll : List Lnk) (w : World) (hm : Hid (m = l.length)) (hl : MvAt w a l) (hk : Hid (k = ll.length)) (hll : LnAt w a2 ll) (h100 : decide ((100 : Int) < (m : Int)) = true) : Calls Try.prog 9 #[.int .u8 nd, .slice a m cap, .slice a2 k cap2] w (Yes true w) := by
  go_enter Try.func9, Try.ntmps9
  go_wp2_with fail
  refine (head_any w).mono ?_
  rintro e w1 ⟨rfl, b1⟩
  have BB := b1
  clear b1
  go_wp2_with fail
  go_ret
  exact ⟨rfl, BB⟩
set_option maxRecDepth 100000 in
set_option maxHeartbeats 20000000 in
theorem reach_1 (nd : Int) (h0 : 0 ≤ nd) (h1 : nd ≤ 255) (m : Nat) (a : Option Addr) (cap : Nat) (l : List Mv) (k : Nat) (a2 : Option Addr) (cap2 : Nat) (ll : List Lnk) (w : World) (hm : Hid (m = l.length)) (hl : MvAt w a l) (hk : Hid (k = ll.length)) (hll : LnAt w a2 ll) (h100 : decide ((100 : Int) < (m : Int)) = false) (h30 : decide ((30 : Int) < (k : Int)) = true) : Calls Try.prog 9 #[.int .u8 nd, .slice a m cap, .slice a2 k cap2] w (Yes true w) := by
  go_enter Try.func9, Try.ntmps9
  go_wp2_with fail
  refine (head_any w).mono ?_
  rintro e w1 ⟨rfl, b1⟩
  have BB := b1
  clear b1
  go_wp2_with fail
  go_ret
  exact ⟨rfl, BB⟩
set_option maxRecDepth 100000 in
set_option maxHeartbeats 20000000 in
theorem reach_2 (nd : Int) (h0 : 0 ≤ nd) (h1 : nd ≤ 255) (m : Nat) (a : Option Addr) (cap : Nat) (l : List Mv) (k : Nat) (a2 : Option Addr) (cap2 : Nat) (ll : List Lnk) (w : World) (hm : Hid (m = l.length)) (hl : MvAt w a l) (hk : Hid (k = ll.length)) (hll : LnAt w a2 ll) (hok : Hid (∀ x ∈ l, x.ok)) (hok2 : Hid (∀ x ∈ ll, x.ok)) (h100 : decide ((100 : Int) < (m : Int)) = false) (h30 : decide ((30 : Int) < (k : Int)) = false) : Calls Try.prog 9 #[.int .u8 nd, .slice a m cap, .slice a2 k cap2] w (Yes true w) := by
  obtain ⟨n, hn⟩ : ∃ n : Nat, 2 + nd % 7 = (n : Int) := ⟨(2 + nd % 7).toNat, by omega⟩
  have hn2 : 2 ≤ n := by omega
  have hn9 : n ≤ 8 := by omega
  have hn0 : 0 < n := by omega
  have hm100 : m ≤ 100 := by simp at h100; omega
  have hk30 : k ≤ 30 := by simp at h30; omega
  have hw9 : IntKind.i64.wrap (2 + nd % 7) = (n : Int) := by rw [hn]; exact IntWalk.i64_in _ (by omega)
  go_enter Try.func9, Try.ntmps9
  go_wp2_with fail
  refine (head_any w).mono ?_
  rintro e w1 ⟨rfl, b1⟩
  have BB := b1
  clear b1
  go_wp2_with fail
  refine (mesh_start n (by omega) (by omega) w1).mono ?_
  rintro e w2 ⟨rfl, b2, hA⟩
  have hbs := BB.size
  obtain ⟨mb, hmb⟩ : ∃ mb, w1.heap.size = mb := ⟨_, rfl⟩
  rw [hmb] at hA hbs ⊢
  replace BB := bstep BB b2
  have HB := Lib.hid hmb; clear hmb b2
  have hI := Inv.start n
  have hS := Short.start n
  have hQ := Sq.start n
  have h00 : ((startM n).R 0).o.s ≤ ((0 : Nat) : Int) := by
    show (startV (decide (0 = 0)) 0).o.s ≤ _
    rw [start_spec (by omega) (by omega)]; simp
  obtain ⟨M0, hM0⟩ : ∃ M0, startM n = M0 := ⟨_, rfl⟩
  rw [hM0] at hA hI hS hQ h00
  clear hM0
  go_upto_region 7 with (fail)
  go_loopw [40] (fun g wr => ∃ j : Nat, j ≤ m ∧ g = .int .i64 j ∧ Below w.heap.size w wr ∧ ∃ M, Inv n M ∧ Sq n M ∧ (M.R 0).o.s ≤ (j : Int) ∧ Short (1 + j) M ∧ MeshAt (fun _ => False) w1 wr mb n M) (fun g _ => m - (intOf g).toNat)
  case atStart => exact ⟨0, Nat.zero_le _, rfl, BB, M0, hI, hQ, h00, hS, hA⟩
  case round =>
    clear BB hA hI hS hQ h00
    obtain ⟨j, hj, rfl, BB, M, hI, hQ, h00, hS, hA⟩ := hrel
    by_cases hlt : j < m
    ·
      have hj1 : (j : Int) < (m : Int) := by omega
      have hj0 : (0 : Int) ≤ (j : Int) := by omega
      have hwj : IntKind.i64.wrap ((j : Int) + 1) = (j : Int) + 1 := IntWalk.i64_in _ (by omega)
      obtain ⟨b, off, rfl, x0, x1, x2, x3, x4⟩ := hl.at BB (i := j) (by rw [← hm.out]; exact hlt)
      have hxm : l.getD j default ∈ l := by
        rw [List.getD_eq_getElem?_getD, List.getElem?_eq_getElem (by rw [← hm.out]; exact hlt)]; exact List.getElem_mem _
      obtain ⟨x, hx⟩ : ∃ x, l.getD j default = x := ⟨_, rfl⟩
      rw [hx] at x0 x1 x2 x3 x4 hxm
      have hxo := hok.out x hxm
      have HXO := Lib.hid hxo
      clear hx hxm hxo
      go_upto_region 9 with (fail)
      obtain ⟨gr, cr, gt, ct, gh, ch, ts, hs, hM⟩ := hA
      clear x0 x1 x2 x3 x4
      have bs2 : w.heap.size ≤ wr.heap.size := BB.size
      have Tx := CAt.new (wr) [.int .u8 x.d, .int .u8 x.nd, .int .u8 x.fr, .int .u8 x.lt, .int .u16 x.co] 50
      replace hM := hM.keep (Below.alloc (Below.refl _ (wr)) (Nat.le_refl _) (.cells #[.int .u8 x.d, .int .u8 x.nd, .int .u8 x.fr, .int .u8 x.lt, .int .u16 x.co] 50))
      replace BB := ball BB (.cells #[.int .u8 x.d, .int .u8 x.nd, .int .u8 x.fr, .int .u8 x.lt, .int .u16 x.co] 50)
      obtain ⟨V2, hV2⟩ : ∃ V2, wr.alloc (.cells #[.int .u8 x.d, .int .u8 x.nd, .int .u8 x.fr, .int .u8 x.lt, .int .u16 x.co] 50) = V2 := ⟨_, rfl⟩
      rw [hV2] at BB Tx hM ⊢
      clear hV2
      obtain ⟨k2, hk2⟩ : ∃ k2, wr.heap.size = k2 := ⟨_, rfl⟩
      rw [hk2] at Tx bs2 ⊢
      clear hk2
      have x0 := Tx 0 _ rfl
      have x1 := Tx 1 _ rfl
      have x2 := Tx 2 _ rfl
      have x3 := Tx 3 _ rfl
      have x4 := Tx 4 _ rfl
      go_wp2_with fail
      clear x0 x1 x2 x3 x4
      refine (apply_any (fun _ => False) w1 _ mb n M ⟨gr, cr, gt, ct, gh, ch, ts, hs, hM⟩ hn2 (by omega) x HXO.out (1 + j) (by omega) hS hI.ne (own0 hI (by omega))).mono ?_
      rintro e w5 ⟨rfl, hA, b5⟩
      replace BB := BB.trans (b5.mono hbs)
      clear b5 Tx hM
      obtain ⟨hQ', h00'⟩ := doM_sq hQ hI hn0 HXO.out
      replace hI := doM_inv hI (by omega) HXO.out
      replace hS : Short (1 + (j + 1)) (doM n M x) := hS.move _ _ _ _ _
      clear HXO
      go_wp2_with fail
      go_roundw
      case rel => exact ⟨j + 1, by omega, by go_num, BB, _, hI, hQ', by omega, hS, hA⟩
      case measure => simp [intOf]; omega
    ·
      obtain rfl : m = j := by omega
      have hj1 : ¬ (m : Int) < (m : Int) := by omega
      have hmk := make_flags n (by omega)
      have T0 := hA.two
      have BB0 := ball BB (.cells (Array.replicate n (.bool false)) 4)
      go_upto_region 12 with (fail)
      clear hmk
      have hmg := BB.size
      obtain ⟨g, hg⟩ : ∃ g, wr.heap.size = g := ⟨_, rfl⟩
      obtain ⟨V0, hV0⟩ : ∃ V0, wr.alloc (.cells (Array.replicate n (.bool false)) 4) = V0 := ⟨_, rfl⟩
      rw [hV0, hg] at T0
      rw [hV0] at BB0
      rw [hV0, hg] at ⊢
      rw [hg] at hmg
      clear hV0 hg BB hA
      have BB := BB0
      clear BB0
      have c0 := T0.flags.c 0 hn0
      have f0 := T0.flags.f 0
      go_upto_region 13 with (fail)
      have T1 := T0.set hn0 true
      replace BB := BB.setCell (p := ⟨g, 0, none⟩) hmg (.bool true)
      obtain ⟨V1, hV1⟩ : ∃ V1, V0.setCell ⟨g, 0, none⟩ (.bool true) = V1 := ⟨_, rfl⟩
      rw [hV1] at T1 BB ⊢
      clear hV1 T0 c0 f0
      have hJ0 : ∀ i, upd (fun _ : Nat => false) 0 true i = decide (i = 0) := fun i => by unfold upd; by_cases h : i = 0 <;> simp [h]
      obtain ⟨J0, hJ0'⟩ : ∃ J0, upd (fun _ : Nat => false) 0 true = J0 := ⟨_, rfl⟩
      rw [hJ0'] at T1 hJ0
      clear hJ0'
      obtain ⟨W0, ⟨gr, cr, gt, ct, gh, ch, ts, hs, hM⟩, hJ⟩ := T1
      have m2 := hM.c 2 _ rfl
      go_upto_region 14 with (fail)
      clear m2
      go_loopw [57] (fun q wr => ∃ j : Nat, j ≤ n ∧ q = .int .i64 j ∧ Below w.heap.size w wr ∧ ∃ hs, MeshIs (fun b => b = g) W0 wr mb n n n (clearTo M j) (.slice (some ⟨gr, 0, none⟩) n cr) (.slice (some ⟨gt, 0, none⟩) n ct) (.slice (some ⟨gh, 0, none⟩) n ch) ts hs) (fun q _ => n - (intOf q).toNat)
      case atStart => exact ⟨0, Nat.zero_le _, rfl, BB, hs, by rw [clearTo_zero]; exact hM⟩
      case round =>
        clear BB hM
        obtain ⟨j, hj, rfl, BB, hs, hM⟩ := hrel
        by_cases hlt : j < n
        · have hj1 : (j : Int) < (n : Int) := by omega
          have hj0 : (0 : Int) ≤ (j : Int) := by omega
          have hwj : IntKind.i64.wrap ((j : Int) + 1) = (j : Int) + 1 := IntWalk.i64_in _ (by omega)
          have m2 := hM.c 2 _ rfl
          have hh := hM.hear hlt
          have fh := hM.hearF j
          go_wp2_with fail
          obtain ⟨P1, P2⟩ := hM.heardNil hlt
          rw [clearTo_succ] at P1
          go_roundw
          case rel => exact ⟨j + 1, by omega, by go_num, BB.trans (P2.mono hbs), _, P1⟩
          case measure => simp [intOf]; omega
        ·
          obtain rfl : n = j := by omega
          have hj1 : ¬ (n : Int) < (n : Int) := by omega
          have T1 : Two wr mb g n (clearTo M n) J0 := ⟨W0, ⟨gr, cr, gt, ct, gh, ch, ts, hs, hM⟩, hJ⟩
          clear hM hJ
          have hxo : Mv.ok ⟨3, 0, 0, 0, 0⟩ := by constructor <;> decide
          go_wp2_with fail
          refine (T1.apply hn2 (by omega) ⟨3, 0, 0, 0, 0⟩ hxo (1 + m) (by omega) (hS.clear n) (hI.clear n)).mono ?_
          rintro e w5 ⟨rfl, T2, b5⟩
          replace BB := BB.trans (b5.mono hbs)
          clear b5 T1
          have hxo' := Lib.hid hxo
          clear hxo
          have hI2 := doM_inv' (hI.clear n) hn0 hxo'.out
          have hS2 : Short (1 + (m + 1)) (doM n (clearTo M n) ⟨3, 0, 0, 0, 0⟩) := (hS.clear n).move _ _ _ _ _
          have e3 : doM n (clearTo M n) ⟨3, 0, 0, 0, 0⟩ = moveM (clearTo M n) 3 0 0 0 0 := by
            unfold doM; simp
          rw [e3] at T2 hI2 hS2
          have hls := ends_lt hn0 hok2.out
          have hlen : (ends n ll).length = k := by unfold ends; rw [List.length_map]; exact hk.out.symm
          have hR2 := Rnd.first (ends n ll) (hI.clear n) (hQ.clear n) hn0 (by show (M.R 0).o.s < _; omega)
          obtain ⟨S, hS0⟩ : ∃ S, ((clearTo M n).R 0).o.s + 1 = S := ⟨_, rfl⟩
          rw [hS0] at hR2
          have hH2 : Hs (ends n ll) n (moveM (clearTo M n) 3 0 0 0 0) := fun i hi => by
            have e : (moveM (clearTo M n) 3 0 0 0 0).H i = [] := by
              have : (moveM (clearTo M n) 3 0 0 0 0).H = (clearTo M n).H := by unfold moveM; rw [if_neg (by decide), if_neg (by decide), if_neg (by decide)]
              rw [this]; simp [clearTo, hi]
            rw [e]
            exact ⟨List.Pairwise.nil, fun o ho => by cases ho⟩
          have hJl : ∀ i, lay (ends n ll) 0 i → J0 i = true := fun i hi => by rw [hJ0]; simp; exact hi
          have hJc : ∀ i, J0 i = true → lay (ends n ll) n i := fun i hi => by
            rw [hJ0] at hi; simp at hi; subst hi; exact lay_zero _ _
          clear hS0 e3 hI hS hQ h00 hJ0
          have hI := hI2
          have hS := hS2
          have hR := hR2
          have hH := hH2
          clear hI2 hS2 hR2 hH2
          obtain ⟨M1, hM1⟩ : ∃ M1, moveM (clearTo M n) 3 0 0 0 0 = M1 := ⟨_, rfl⟩
          rw [hM1] at T2 hI hS hR hH
          clear hM1
          obtain ⟨ls, hle⟩ : ∃ ls, ends n ll = ls := ⟨_, rfl⟩
          rw [hle] at hR hH hJl hJc hls hlen
          have HLE := Lib.hid hle
          clear hle
          have HLS := Lib.hid hls
          clear hls
          go_upto_region 20 with (fail)
          go_loopw [71] (fun q wr => ∃ t : Nat, t ≤ n ∧ q = .int .i64 t ∧ Below w.heap.size w wr ∧ ∃ M J, Inv n M ∧ Short (200 + t * 100) M ∧ Rnd ls n S t M ∧ Hs ls n M ∧ (∀ i, lay ls t i → J i = true) ∧ (∀ i, J i = true → lay ls n i) ∧ Two wr mb g n M J) (fun q _ => n - (intOf q).toNat)
          case atStart => exact ⟨0, Nat.zero_le _, rfl, BB, M1, J0, hI, hS.mono (by omega), hR, hH, hJl, hJc, T2⟩
          case round =>
            clear BB hI hS hR hH hJl hJc T2 J0 M1
            obtain ⟨t, ht, rfl, BB, M, J, hI, hS, hR, hH, hJl, hJc, TT⟩ := hrel
            by_cases hlt : t < n
            ·
              have ht1 : (t : Int) < (n : Int) := by omega
              have ht0 : (0 : Int) ≤ (t : Int) := by omega
              have hwt : IntKind.i64.wrap ((t : Int) + 1) = (t : Int) + 1 := IntWalk.i64_in _ (by omega)
              have hH9 := Lib.hid hH
              have hR9 := Lib.hid hR
              have hJl9 := Lib.hid hJl
              have hJc9 := Lib.hid hJc
              clear hH hR hJl hJc
              go_upto_region 22 with (fail)
              go_loopw [75] (fun q wr => ∃ p : Nat, p ≤ k ∧ q = .int .i64 p ∧ Below w.heap.size w wr ∧ Inv n (passM M (ls.take p)) ∧ Short (200 + t * 100 + p * 2) (passM M (ls.take p)) ∧ Two wr mb g n (passM M (ls.take p)) (passJ J (ls.take p))) (fun q _ => k - (intOf q).toNat)
              case atStart => exact ⟨0, Nat.zero_le _, rfl, BB, hI, hS, TT⟩
              case round =>
                clear BB hI hS TT
                obtain ⟨p, hp, rfl, BB, hI, hS, TT⟩ := hrel
                by_cases hpk : p < k
                ·
                  have hp1 : (p : Int) < (k : Int) := by omega
                  have hp0 : (0 : Int) ≤ (p : Int) := by omega
                  have hwp : IntKind.i64.wrap ((p : Int) + 1) = (p : Int) + 1 := IntWalk.i64_in _ (by omega)
                  obtain ⟨b9, off9, rfl, y0, y1⟩ := hll.at BB (i := p) (by rw [← hk.out]; exact hpk)
                  have hym : ll.getD p default ∈ ll := by
                    rw [List.getD_eq_getElem?_getD, List.getElem?_eq_getElem (by rw [← hk.out]; exact hpk)]; exact List.getElem_mem _
                  have hea := ends_at (n := n) (ll := ll) (p := p) (by rw [← hk.out]; exact hpk)
                  rw [HLE.out] at hea
                  obtain ⟨y, hy⟩ : ∃ y, ll.getD p default = y := ⟨_, rfl⟩
                  rw [hy] at y0 y1 hym hea
                  have hyo := hok2.out y hym
                  obtain ⟨e1, e2⟩ := mod_nat (n := n) hyo.a0 hn0
                  obtain ⟨e3, e4⟩ := mod_nat (n := n) hyo.b0 hn0
                  have ya0 := hyo.a0; have ya1 := hyo.a1; have yb0 := hyo.b0; have yb1 := hyo.b1
                  obtain ⟨i1, hi1⟩ : ∃ i1, (y.a.tmod n).toNat = i1 := ⟨_, rfl⟩
                  obtain ⟨i2, hi2⟩ : ∃ i2, (y.b.tmod n).toNat = i2 := ⟨_, rfl⟩
                  rw [hi1] at e1 e2 hea
                  rw [hi2] at e3 e4 hea
                  have htk := take_snoc (by rw [hlen]; exact hpk) hea
                  have HTK := Lib.hid htk
                  clear hy hym hyo hi1 hi2 hea htk
                  have hz0 : (0 : Int) < (n : Int) := by omega
                  have hz1 : ¬ (n : Int) = 0 := by omega
                  have hz2 : ¬ n = 0 := by omega
                  go_upto_region 24 with (fail)
                  clear y0 y1
                  have bs2 : w.heap.size ≤ wr.heap.size := BB.size
                  have Ty := CAt.new (wr) [.int .u8 y.a, .int .u8 y.b] 59
                  replace TT := TT.keep (Below.alloc (Below.refl _ (wr)) (Nat.le_refl _) (.cells #[.int .u8 y.a, .int .u8 y.b] 59))
                  replace BB := ball BB (.cells #[.int .u8 y.a, .int .u8 y.b] 59)
                  obtain ⟨V2, hV2⟩ : ∃ V2, wr.alloc (.cells #[.int .u8 y.a, .int .u8 y.b] 59) = V2 := ⟨_, rfl⟩
                  rw [hV2] at BB Ty TT ⊢
                  clear hV2
                  obtain ⟨k2, hk2⟩ : ∃ k2, wr.heap.size = k2 := ⟨_, rfl⟩
                  rw [hk2] at Ty bs2 ⊢
                  clear hk2
                  have y0 := Ty 0 _ rfl
                  have ky0 := cell_regrown y0
                  have y1 := Ty 1 _ rfl
                  have ky1 := cell_regrown y1
                  refine wp_region_quiet_below (by kernel_rfl) (by kernel_rfl) ?_
                  repeat (go_big_quiet_step (fail))
                  refine wpQuiet_nil ?_
                  intro _ hw'
                  obtain ⟨⟨dq, osq⟩, hw''⟩ := hw'
                  subst hw''
                  clear y0 ky0 y1 ky1
                  have bq := below_regrown V2 dq osq
                  obtain ⟨V3, hV3⟩ : ∃ V3, grow (redrawn V2 dq) osq = V3 := ⟨_, rfl⟩
                  rw [hV3] at bq ⊢
                  clear hV3 dq osq
                  replace Ty := Ty.keep bq
                  replace TT := TT.keep bq
                  replace BB := bstep BB bq
                  clear bq
                  have j1 : (i1 : Int) < (n : Int) := by omega
                  have j2 : (i2 : Int) < (n : Int) := by omega
                  have j3 : (0 : Int) ≤ (i1 : Int) := by omega
                  have j4 : (0 : Int) ≤ (i2 : Int) := by omega
                  clear e1 e3 ya0 ya1 yb0 yb1
                  obtain ⟨Mp, hMp⟩ : ∃ Mp, passM M (ls.take p) = Mp := ⟨_, rfl⟩
                  obtain ⟨Jp, hJp⟩ : ∃ Jp, passJ J (ls.take p) = Jp := ⟨_, rfl⟩
                  have hMn : passM M (ls.take (p + 1)) = linkM Mp i1 i2 := by rw [HTK.out, passM_snoc, hMp]
                  have hJn : passJ J (ls.take (p + 1)) = linkJ Jp i1 i2 := by rw [HTK.out, passJ_snoc, hJp]
                  rw [hMp] at hI hS TT
                  rw [hJp] at TT
                  have HMN := Lib.hid hMn
                  have HJN := Lib.hid hJn
                  have hI' := hI.link e2 e4
                  have hS' := hS.link i1 i2
                  clear hMp hJp hMn hJn
                  by_cases h12 : i1 = i2
                  ·
                    have h12b : ((i1 : Int) == (i2 : Int)) = true := by simp [h12]
                    have e9 : linkM Mp i1 i2 = Mp := by simp [linkM, h12]
                    have e8 : linkJ Jp i1 i2 = Jp := by simp [linkJ, h12]
                    have H12 := Lib.hid h12
                    clear h12
                    go_wp2_with fail
                    go_roundw
                    case rel => exact ⟨p + 1, by omega, by go_num, BB, by rw [HMN.out]; exact hI', by rw [HMN.out]; exact hS'.mono (by omega), by rw [HMN.out, HJN.out, e9, e8]; exact TT⟩
                    case measure => simp [intOf]; omega
                  ·
                    have h12b : ((i1 : Int) == (i2 : Int)) = false := by simp; omega
                    have h21 : ¬ i2 = i1 := fun e => h12 e.symm
                    have H12 := Lib.hid h12
                    have e8 : linkJ Jp i1 i2 = upd (upd Jp i1 (Jp i1 || Jp i2)) i2 (Jp i1 || Jp i2) := by simp [linkJ, h12]
                    rw [e8] at HJN
                    clear h12 e8
                    go_upto_region 26 with (fail)
                    have ja := TT.flags.c i1 e2
                    have jb := TT.flags.c i2 e4
                    obtain ⟨y2, hy2⟩ : ∃ y2, Jp i2 = y2 := ⟨_, rfl⟩
                    obtain ⟨y1, hy1⟩ : ∃ y1, Jp i1 = y1 := ⟨_, rfl⟩
                    rw [hy1] at ja HJN
                    rw [hy2] at jb HJN
                    have kja := cell_regrown ja; have kjb := cell_regrown jb
                    clear hy1 hy2
                    cases y1
                    ·
                      rw [Bool.false_or] at HJN
                      have y0 := Ty 0 _ rfl
                      have ky0 := cell_regrown y0
                      have y1 := Ty 1 _ rfl
                      have ky1 := cell_regrown y1
                      refine' wp_region_late' [0, 1, 2, 3, 4, 5, 6, 7, 8, 9, 10, 11, 12, 13, 14, 15, 16, 17, 18, 19, 20, 21, 22, 23, 24] [] [25, 26, 27] [2, 3, 23] (by kernel_rfl) (by kernel_rfl) _
                        (fun w' => True) (fun lx => if lx = 2 then .slice (some ⟨g, 0, none⟩) n n else if lx = 3 then .int .i64 i2 else .bool y2)
                        (fun Z hZ hN => quiet_hole ?hq26f) (fun _ => .cells #[] 0) (fun _ _ => undef) (fun i hi => by cases hi) ?hl26f ?ht26f
                      case hq26f =>
                        intro Q9 hQ9
                        show wpQuiet _ _ _ _ [_, _, _, _, _, _, _, _, _, _, _, _, _, _, _, _, _, _, _, _, _, _, _, _, _] _
                        repeat (go_big_quiet_step (fail))
                        exact wpQuiet_nil hQ9
                      case hl26f =>
                        intro j hj o ho
                        simp only [List.mem_cons, List.not_mem_nil, or_false] at hj
                        rcases hj with rfl | rfl | rfl
                        all_goals (
                          simp only [List.getElem?_cons_succ, List.getElem?_cons_zero, Option.some.injEq] at ho
                          subst ho
                          refine ⟨fun w' hw' => by first | kernel_rfl | go_simp, fun t ht => ?_⟩
                          simp only [Option.some.injEq] at ht
                          subst ht
                          rfl)
                      intro π z4 hz _ _
                      clear y0 ky0 y1 ky1
                      clear ja jb kja kjb
                      replace Ty := Ty.keep hz
                      replace TT := TT.keep hz
                      replace BB := bstep BB hz
                      refine ⟨trivial, ?_⟩
                      simp only [putsA]
                      show wpListS _ _ _ _ [_, _, _] _ _
                      have ja := TT.flags.c i1 e2
                      have fa := TT.flags.f i1
                      refine listS_step rfl fun K9 hK9 => ?_
                      refine wp_of_skip (exec_store4 (i := i1) (g := g) (b := y2) rfl (by rfl) (by rfl) ja fa) ?_
                      refine hK9 _ _ trivial ?_
                      clear hK9 K9 ja fa
                      replace TT := TT.set e2 y2
                      have hgl : w.heap.size ≤ g := hmg
                      replace BB := BB.setCell (p := ⟨g, i1, none⟩) hgl (.bool y2)
                      refine listS_step rfl fun K9 hK9 => ?_
                      refine wp_of_value (exec_index58 (i := i2) (n := n) (g := g) (c := n) rfl (by rfl) (by rfl) e4) ?_
                      refine hK9 _ _ trivial ?_
                      clear hK9 K9
                      have jb := TT.flags.c i2 e4
                      have fb := TT.flags.f i2
                      refine listS_step rfl fun K9 hK9 => ?_
                      refine wp_of_skip (exec_store4 (i := i2) (g := g) (b := y2) rfl (by rfl) (by rfl) jb fb) ?_
                      refine hK9 _ _ trivial ?_
                      clear hK9 K9 jb fb
                      replace TT := TT.set e4 y2
                      replace BB := BB.setCell (p := ⟨g, i2, none⟩) hgl (.bool y2)
                      rw [← HJN.out] at TT
                      clear HJN hgl
                      obtain ⟨V9, hV9⟩ : ∃ V9, (z4.setCell ⟨g, i1, none⟩ (.bool y2)).setCell ⟨g, i2, none⟩ (.bool y2) = V9 := ⟨_, rfl⟩
                      rw [hV9] at TT BB ⊢
                      clear hV9
                      unfold wpListS noPanic
                      simp (config := { maxSteps := 10000000 }) only [Act.put, List.setIfInBounds_toArray, List.set_cons_succ, List.set_cons_zero, Exit.then]
                      go_upto_region 28 with (fail)
                      obtain ⟨W9, ⟨gr, cr, gt, ct, gh, ch, ts, hs, hM⟩, hJ9⟩ := TT
                      have m0 := hM.c 0 _ rfl
                      obtain ⟨r0, r1, _, _, _⟩ := hM.route e4
                      have hcst : 1 + ((i1 : Int) * 7 + (i2 : Int) * 7) % 50 * 80 = cst i1 i2 := rfl
                      go_wp2_with fail
                      clear m0 r0 r1
                      have TT : Two V9 mb g n Mp (passJ J (ls.take (p + 1))) := ⟨W9, ⟨gr, cr, gt, ct, gh, ch, ts, hs, hM⟩, hJ9⟩
                      clear hM hJ9
                      refine (TT.hear (by omega) e2 ⟨i2, (Mp.R i2).o, cst i1 i2⟩ (by have := hS.h i1; omega)).mono ?_
                      rintro e w7 ⟨rfl, TT, b7⟩
                      replace BB := BB.trans (b7.mono hbs)
                      clear b7
                      obtain ⟨W9, ⟨gr, cr, gt, ct, gh, ch, ts, hs, hM⟩, hJ9⟩ := TT
                      go_upto_region 29 with (fail)
                      have m0 := hM.c 0 _ rfl
                      obtain ⟨r0, r1, _, _, _⟩ := hM.route e2
                      go_wp2_with fail
                      clear m0 r0 r1
                      have TT : Two w7 mb g n _ (passJ J (ls.take (p + 1))) := ⟨W9, ⟨gr, cr, gt, ct, gh, ch, ts, hs, hM⟩, hJ9⟩
                      clear hM hJ9
                      refine (TT.hear (by omega) e4 ⟨i1, (Mp.R i1).o, cst i1 i2⟩ (by simp only; rw [upd_ne _ _ h21]; have := hS.h i2; omega)).mono ?_
                      rintro e w8 ⟨rfl, TT, b8⟩
                      replace BB := BB.trans (b8.mono hbs)
                      clear b8
                      simp only at TT
                      rw [link_two H12.out] at TT
                      go_wp2_with fail
                      go_roundw
                      case rel => exact ⟨p + 1, by omega, by go_num, BB, by rw [HMN.out]; exact hI', by rw [HMN.out]; exact hS'.mono (by omega), by rw [HMN.out]; exact TT⟩
                      case measure => simp [intOf]; omega
                    ·
                      rw [Bool.true_or] at HJN
                      have y0 := Ty 0 _ rfl
                      have ky0 := cell_regrown y0
                      have y1 := Ty 1 _ rfl
                      have ky1 := cell_regrown y1
                      refine' wp_region_late' [0, 1, 2, 3, 4, 5, 6, 7, 8, 9, 10, 11, 12, 13, 14, 15, 16, 17, 18, 19, 20, 21, 22, 23, 24] [] [25, 26, 27] [2, 3, 23] (by kernel_rfl) (by kernel_rfl) _
                        (fun w' => True) (fun lx => if lx = 2 then .slice (some ⟨g, 0, none⟩) n n else if lx = 3 then .int .i64 i2 else .bool true)
                        (fun Z hZ hN => quiet_hole ?hq26t) (fun _ => .cells #[] 0) (fun _ _ => undef) (fun i hi => by cases hi) ?hl26t ?ht26t
                      case hq26t =>
                        intro Q9 hQ9
                        show wpQuiet _ _ _ _ [_, _, _, _, _, _, _, _, _, _, _, _, _, _, _, _, _, _, _, _, _, _, _, _, _] _
                        repeat (go_big_quiet_step (fail))
                        exact wpQuiet_nil hQ9
                      case hl26t =>
                        intro j hj o ho
                        simp only [List.mem_cons, List.not_mem_nil, or_false] at hj
                        rcases hj with rfl | rfl | rfl
                        all_goals (
                          simp only [List.getElem?_cons_succ, List.getElem?_cons_zero, Option.some.injEq] at ho
                          subst ho
                          refine ⟨fun w' hw' => by first | kernel_rfl | go_simp, fun t ht => ?_⟩
                          simp only [Option.some.injEq] at ht
                          subst ht
                          rfl)
                      intro π z4 hz _ _
                      clear y0 ky0 y1 ky1
                      clear ja jb kja kjb
                      replace Ty := Ty.keep hz
                      replace TT := TT.keep hz
                      replace BB := bstep BB hz
                      refine ⟨trivial, ?_⟩
                      simp only [putsA]
                      show wpListS _ _ _ _ [_, _, _] _ _
                      have ja := TT.flags.c i1 e2
                      have fa := TT.flags.f i1
                      refine listS_step rfl fun K9 hK9 => ?_
                      refine wp_of_skip (exec_store4 (i := i1) (g := g) (b := true) rfl (by rfl) (by rfl) ja fa) ?_
                      refine hK9 _ _ trivial ?_
                      clear hK9 K9 ja fa
                      replace TT := TT.set e2 true
                      have hgl : w.heap.size ≤ g := hmg
                      replace BB := BB.setCell (p := ⟨g, i1, none⟩) hgl (.bool true)
                      refine listS_step rfl fun K9 hK9 => ?_
                      refine wp_of_value (exec_index58 (i := i2) (n := n) (g := g) (c := n) rfl (by rfl) (by rfl) e4) ?_
                      refine hK9 _ _ trivial ?_
                      clear hK9 K9
                      have jb := TT.flags.c i2 e4
                      have fb := TT.flags.f i2
                      refine listS_step rfl fun K9 hK9 => ?_
                      refine wp_of_skip (exec_store4 (i := i2) (g := g) (b := true) rfl (by rfl) (by rfl) jb fb) ?_
                      refine hK9 _ _ trivial ?_
                      clear hK9 K9 jb fb
                      replace TT := TT.set e4 true
                      replace BB := BB.setCell (p := ⟨g, i2, none⟩) hgl (.bool true)
                      rw [← HJN.out] at TT
                      clear HJN hgl
                      obtain ⟨V9, hV9⟩ : ∃ V9, (z4.setCell ⟨g, i1, none⟩ (.bool true)).setCell ⟨g, i2, none⟩ (.bool true) = V9 := ⟨_, rfl⟩
                      rw [hV9] at TT BB ⊢
                      clear hV9
                      unfold wpListS noPanic
                      simp (config := { maxSteps := 10000000 }) only [Act.put, List.setIfInBounds_toArray, List.set_cons_succ, List.set_cons_zero, Exit.then]
                      go_upto_region 28 with (fail)
                      obtain ⟨W9, ⟨gr, cr, gt, ct, gh, ch, ts, hs, hM⟩, hJ9⟩ := TT
                      have m0 := hM.c 0 _ rfl
                      obtain ⟨r0, r1, _, _, _⟩ := hM.route e4
                      have hcst : 1 + ((i1 : Int) * 7 + (i2 : Int) * 7) % 50 * 80 = cst i1 i2 := rfl
                      go_wp2_with fail
                      clear m0 r0 r1
                      have TT : Two V9 mb g n Mp (passJ J (ls.take (p + 1))) := ⟨W9, ⟨gr, cr, gt, ct, gh, ch, ts, hs, hM⟩, hJ9⟩
                      clear hM hJ9
                      refine (TT.hear (by omega) e2 ⟨i2, (Mp.R i2).o, cst i1 i2⟩ (by have := hS.h i1; omega)).mono ?_
                      rintro e w7 ⟨rfl, TT, b7⟩
                      replace BB := BB.trans (b7.mono hbs)
                      clear b7
                      obtain ⟨W9, ⟨gr, cr, gt, ct, gh, ch, ts, hs, hM⟩, hJ9⟩ := TT
                      go_upto_region 29 with (fail)
                      have m0 := hM.c 0 _ rfl
                      obtain ⟨r0, r1, _, _, _⟩ := hM.route e2
                      go_wp2_with fail
                      clear m0 r0 r1
                      have TT : Two w7 mb g n _ (passJ J (ls.take (p + 1))) := ⟨W9, ⟨gr, cr, gt, ct, gh, ch, ts, hs, hM⟩, hJ9⟩
                      clear hM hJ9
                      refine (TT.hear (by omega) e4 ⟨i1, (Mp.R i1).o, cst i1 i2⟩ (by simp only; rw [upd_ne _ _ h21]; have := hS.h i2; omega)).mono ?_
                      rintro e w8 ⟨rfl, TT, b8⟩
                      replace BB := BB.trans (b8.mono hbs)
                      clear b8
                      simp only at TT
                      rw [link_two H12.out] at TT
                      go_wp2_with fail
                      go_roundw
                      case rel => exact ⟨p + 1, by omega, by go_num, BB, by rw [HMN.out]; exact hI', by rw [HMN.out]; exact hS'.mono (by omega), by rw [HMN.out]; exact TT⟩
                      case measure => simp [intOf]; omega
                ·
                  obtain rfl : k = p := by omega
                  have hp1 : ¬ (k : Int) < (k : Int) := by omega
                  rw [show ls.take k = ls from by rw [← hlen]; exact List.take_length] at hI hS TT
                  obtain ⟨hH', hF'⟩ := pass_done HLS.out hH9.out
                  have hRp : Rnd ls n S t (passM M ls) := hR9.out.same (passM_R ls M)
                  have hR' := hRp.step hn0 (by omega) (by omega) hH' hF'
                  have hJl' := passJ_lay hJl9.out
                  have hJc' : ∀ i, passJ J ls i = true → lay ls n i := passJ_in (fun i j h hj => lay_closed hn0 HLS.out h hj) hJc9.out
                  have HR' := Lib.hid hR'; have HJL := Lib.hid hJl'; have HJC := Lib.hid hJc'; have HHP := Lib.hid hH'
                  clear hRp hR' hJl' hJc' hH' hF'
                  obtain ⟨Mq, hMq⟩ : ∃ Mq, passM M ls = Mq := ⟨_, rfl⟩
                  obtain ⟨Jq, hJq⟩ : ∃ Jq, passJ J ls = Jq := ⟨_, rfl⟩
                  rw [hMq] at hI hS TT HR' HHP
                  rw [hJq] at TT HJL HJC
                  clear hMq hJq hH9 hR9 hJl9 hJc9
                  go_upto_region 32 with (fail)
                  go_loopw [19] (fun q wr => ∃ c : Nat, c + 1 ≤ n ∧ q = .int .i64 ((c : Int) + 1) ∧ Below w.heap.size w wr ∧ Inv n (chooseTo Mq c) ∧ Short (200 + t * 100 + k * 2 + c) (chooseTo Mq c) ∧ Two wr mb g n (chooseTo Mq c) Jq) (fun q _ => n - (intOf q).toNat)
                  case atStart => exact ⟨0, by omega, rfl, BB, hI, hS, TT⟩
                  case round =>
                    clear BB hI hS TT
                    obtain ⟨c, hc, rfl, BB, hI, hS, TT⟩ := hrel
                    have hwc : IntKind.i64.wrap ((c : Int) + 1 + 1) = (c : Int) + 1 + 1 := IntWalk.i64_in _ (by omega)
                    by_cases hcn : c + 1 < n
                    · have hc1 : (c : Int) + 1 < (n : Int) := by omega
                      have hw8 : IntKind.u8.wrap ((c : Int) + 1) = (c : Int) + 1 := IntWalk.u8_in _ (by omega)
                      have hxo : Mv.ok ⟨0, (c : Int) + 1, 0, 0, 0⟩ := by constructor <;> simp only <;> omega
                      have HXO := Lib.hid hxo
                      clear hxo
                      go_wp2_with fail
                      refine (TT.apply hn2 (by omega) ⟨0, (c : Int) + 1, 0, 0, 0⟩ HXO.out _ (by omega) hS hI).mono ?_
                      rintro e w7 ⟨rfl, TT, b7⟩
                      replace BB := BB.trans (b7.mono hbs)
                      clear b7
                      have hI' := doM_inv' hI hn0 HXO.out
                      have hS' : Short (200 + t * 100 + k * 2 + (c + 1)) (doM n (chooseTo Mq c) ⟨0, (c : Int) + 1, 0, 0, 0⟩) := hS.move _ _ _ _ _
                      have e7 : doM n (chooseTo Mq c) ⟨0, (c : Int) + 1, 0, 0, 0⟩ = chooseTo Mq (c + 1) := by
                        unfold doM
                        simp only
                        rw [show (((c : Int) + 1).tmod n).toNat = c + 1 from by rw [Int.tmod_eq_of_lt (by omega) (by omega)]; omega, show ((0 : Int).tmod n).toNat = 0 from by simp]
                        rfl
                      rw [e7] at hI' hS' TT
                      clear HXO
                      go_wp2_with fail
                      go_roundw
                      case rel => exact ⟨c + 1, by omega, by go_num, BB, hI', hS', TT⟩
                      case measure => simp [intOf]; omega
                    · obtain rfl : n = c + 1 := by omega
                      have hc1 : ¬ (c : Int) + 1 < ((c + 1 : Nat) : Int) := by omega
                      have hM' : chooseTo Mq (c + 1 - 1) = chooseTo Mq c := rfl
                      rw [hM'] at HR'
                      have hHn : Hs ls (c + 1) (chooseTo Mq c) := fun i hi => by rw [chooseTo_H]; exact HHP.out i hi
                      go_wp2_with fail
                      go_roundw
                      case rel => exact ⟨t + 1, by omega, by go_num, BB, _, _, hI, hS.mono (by omega), HR'.out, hHn, HJL.out, HJC.out, TT⟩
                      case measure => simp [intOf]; omega
            ·
              obtain rfl : n = t := by omega
              have ht1 : ¬ (n : Int) < (n : Int) := by omega
              have hR9 := Lib.hid hR
              have hfin : ∀ i, i < n → J i = decide (up M n (i : Int) = 0) := fun i hi => by
                rw [Bool.eq_iff_iff, decide_eq_true_eq]
                constructor
                · intro h
                  exact hR9.out.reach n i hi (hJc i h) (by have := low_lt M n i hi; omega)
                · intro h
                  refine hJl i (Classical.byContradiction fun hl => ?_)
                  exact hR9.out.never hn0 HLS.out n i hi hl h
              have HFIN := Lib.hid hfin
              have HPAR := Lib.hid hI.p
              have HVAL := Lib.hid hI.v
              clear hfin hR hJl hJc hI hS hH
              obtain ⟨W9, ⟨gr, cr, gt, ct, gh, ch, ts, hs, hM⟩, hJ9⟩ := TT
              go_upto_region 37 with (fail)
              go_loopw [167] (fun q wq => ∃ c : Nat, c ≤ n ∧ q = .int .i64 c ∧ wq = wr) (fun q _ => n - (intOf q).toNat)
              case atStart => exact ⟨0, Nat.zero_le _, rfl, rfl⟩
              case round =>
                obtain ⟨c, hc, rfl, rfl⟩ := hrel
                by_cases hcn : c < n
                · have hc1 : (c : Int) < (n : Int) := by omega
                  have hc0 : (0 : Int) ≤ (c : Int) := by omega
                  have hwc : IntKind.i64.wrap ((c : Int) + 1) = (c : Int) + 1 := IntWalk.i64_in _ (by omega)
                  go_upto_region 41 with (fail)
                  go_loopw [21, 172] (fun b q wq => ∃ (d : Nat) (a : Int), d ≤ n ∧ -9223372036854775808 ≤ a ∧ a < n ∧ up M (n - d) a = up M n c ∧ b = .int .i64 a ∧ q = .int .i64 d ∧ wq = wr) (fun _ q _ => n - (intOf q).toNat)
                  case atStart => exact ⟨0, c, Nat.zero_le _, by omega, by omega, rfl, rfl, rfl, rfl⟩
                  case round =>
                    obtain ⟨d, a9, hd, hb0, hb1, hup, rfl, rfl, rfl⟩ := hrel
                    by_cases hdn : d < n
                    · have hd1 : (d : Int) < (n : Int) := by omega
                      have hwd : IntKind.i64.wrap ((d : Int) + 1) = (d : Int) + 1 := IntWalk.i64_in _ (by omega)
                      rw [show n - d = (n - (d + 1)) + 1 from by omega, up] at hup
                      by_cases ha : 0 < a9
                      · obtain ⟨a8, rfl⟩ : ∃ a8 : Nat, a9 = a8 := ⟨a9.toNat, by omega⟩
                        have ha8 : a8 < n := by omega
                        have ha0 : (0 : Int) ≤ (a8 : Int) := by omega
                        rw [if_pos ha, Int.toNat_natCast] at hup
                        have m0 := hM.c 0 _ rfl
                        obtain ⟨_, _, _, _, r4⟩ := hM.route ha8
                        have hpp : (M.R a8).p < n ∧ -9223372036854775808 ≤ (M.R a8).p := by
                          have h1 := (valid_iff.1 (HVAL.out a8 ha8)).2.2.2
                          rcases HPAR.out a8 ha8 with h2 | ⟨q9, hq9, h2, _⟩ <;> omega
                        have HPP := Lib.hid hpp
                        have HUP := Lib.hid hup
                        clear hpp hup
                        obtain ⟨pp, hpp⟩ : ∃ pp, (M.R a8).p = pp := ⟨_, rfl⟩
                        rw [hpp] at r4 HPP HUP
                        clear hpp
                        go_wp2_with fail
                        go_roundw
                        case rel => exact ⟨d + 1, pp, by omega, HPP.out.2, HPP.out.1, HUP.out, rfl, by go_num, trivial⟩
                        case measure => simp [intOf]; omega
                      · rw [if_neg ha] at hup
                        have HUP := Lib.hid hup
                        clear hup
                        go_wp2_with fail
                        go_roundw
                        case rel => exact ⟨d + 1, a9, by omega, hb0, hb1, HUP.out, rfl, by go_num, trivial⟩
                        case measure => simp [intOf]; omega
                    · obtain rfl : n = d := by omega
                      have hd1 : ¬ (n : Int) < (n : Int) := by omega
                      rw [Nat.sub_self] at hup
                      have hjc := (hJ9.same (hM.kept g rfl)).c c hcn
                      rw [HFIN.out c hcn, ← hup] at hjc
                      have hz : decide (up M 0 a9 = 0) = (a9 == 0) := by show decide (a9 = 0) = _; by_cases h : a9 = 0 <;> simp [h]
                      rw [hz] at hjc
                      obtain ⟨zz, hzz⟩ : ∃ zz, (a9 == 0) = zz := ⟨_, rfl⟩
                      rw [hzz] at hjc
                      clear hup hz
                      go_wp2_with fail
                      go_roundw
                      case rel => exact ⟨c + 1, by omega, by go_num, trivial⟩
                      case measure => simp [intOf]; omega
                · have hc1 : ¬ (c : Int) < (n : Int) := by omega
                  go_wp2_with fail
                  go_ret
                  exact ⟨rfl, BB⟩
end Go.Proofs.Ytbonchnhngaicaa
