/- Proved: what claims.Clashes returns. Conditions: rows and tables lie in memory, the tables are short and few. -/
import Derived.Test.YtleenbfldkmcaaaK13
import Derived.Test.YtleenbfldkmcaaaK14
namespace Go.Proofs.Ytleenbfldkmcaaa
open Go.RowKit Go.Sort Go.BigFrame
set_option linter.unusedVariables false
set_option linter.unusedSimpArgs false
attribute [local go_sem] cell_alloc_old

open Go.Maps
/-- Who sends in a cell: of the first tables, and of the first uses of the next one. -/
def sndTo (T : List Tb) (i j : Nat) (s o c : Int) : Bool := (decide (0 ≤ c ∧ c < i) && sendsB (T.getD c.toNat default) s o) || (decide (c = i) && ((T.getD i default).U.take j).any fun u => decide (u.s = s ∧ u.o = o))
theorem sndTo_zero (T : List Tb) : sndTo T 0 0 = fun _ _ _ => false := by
  funext s o c
  unfold sndTo
  have : decide (0 ≤ c ∧ c < ((0 : Nat) : Int)) = false := by simp
  rw [this]; simp
theorem sndTo_succ (T : List Tb) (i : Nat) {j : Nat} (hj : j < (T.getD i default).U.length) : sndTo T i (j + 1) = fun s o c => if s = ((T.getD i default).U.getD j default).s ∧ o = ((T.getD i default).U.getD j default).o ∧ c = (i : Int) then true else sndTo T i j s o c := by
  funext s o c
  unfold sndTo
  rw [List.take_add_one, List.getElem?_eq_getElem hj, List.getD_eq_getElem?_getD (l := (T.getD i default).U), List.getElem?_eq_getElem hj]
  simp only [Option.toList_some, List.any_append, List.any_cons, List.any_nil, Bool.or_false, Option.getD_some]
  obtain ⟨u, hu⟩ : ∃ u, (T.getD i default).U[j] = u := ⟨_, rfl⟩
  obtain ⟨X, hX⟩ : ∃ X, (decide (0 ≤ c ∧ c < (i : Int)) && sendsB (T.getD c.toNat default) s o) = X := ⟨_, rfl⟩
  obtain ⟨Y, hY⟩ : ∃ Y, ((T.getD i default).U.take j).any (fun u => decide (u.s = s ∧ u.o = o)) = Y := ⟨_, rfl⟩
  rw [hu, hX, hY]
  by_cases hc : c = (i : Int)
  · by_cases h2 : u.s = s ∧ u.o = o
    · rw [if_pos ⟨h2.1.symm, h2.2.symm, hc⟩, decide_eq_true h2, decide_eq_true hc]; simp
    · rw [if_neg (fun h => h2 ⟨h.1.symm, h.2.1.symm⟩), decide_eq_false h2]; simp
  · rw [if_neg (fun h => hc h.2.2), decide_eq_false hc]; simp
theorem sndTo_next (T : List Tb) (i : Nat) : sndTo T i (T.getD i default).U.length = sndTo T (i + 1) 0 := by
  funext s o c
  unfold sndTo
  rw [List.take_length]
  by_cases hc : c = (i : Int)
  · subst hc
    have h1 : decide (0 ≤ (i : Int) ∧ (i : Int) < (i : Int)) = false := by simp
    have h2 : decide (0 ≤ (i : Int) ∧ (i : Int) < ((i + 1 : Nat) : Int)) = true := by simp; omega
    rw [h1, h2]
    unfold sendsB
    simp only [Int.toNat_natCast, decide_true, Bool.true_and, Bool.false_and, Bool.false_or, List.take_zero, List.any_nil, Bool.and_false, Bool.or_false]
    congr 1
    funext u
    exact cell_eq _ _ _ _
  · have h3 : decide (0 ≤ c ∧ c < (i : Int)) = decide (0 ≤ c ∧ c < ((i + 1 : Nat) : Int)) := by rw [decide_eq_decide]; omega
    simp [hc, h3]
theorem sndTo_at (T : List Tb) {n c : Nat} (hc : c < n) (s o : Int) : sndTo T n 0 s o c = sendsB (T.getD c default) s o := by
  unfold sndTo
  have h1 : decide (0 ≤ (c : Int) ∧ (c : Int) < (n : Int)) = true := by simp; omega
  rw [h1]; simp
theorem look_nil (w : World) {c : Int} (hc : I64 c) : (Instr.lookup 89 (.map none) (.int .i64 c) false).run Try.prog w = .ok (.bool false) w := by
  have hz := Try.zeroValue4 w
  have hk := law3.check w true (keyOf_int_mk (P := Try.prog) Try.underlying3 hc)
  have hf : (Instr.findKey 3 (.int .i64 c) []).run Try.prog w = .ok none w := by
    rcases law3.find w (keyOf_int_mk (P := Try.prog) Try.underlying3 hc) [] (fun _ h => by cases h) with h | ⟨j, e, _, h, _⟩
    · exact h.1
    · simp at h
  simp [Instr.lookup, run_underlying Try.underlying89, hz, hk, hf, Result.andThen]
theorem eq_none (w : World) : (Go.binOp .eql 89 (.map none) (.map none)).run Try.prog w = .ok (.bool true) w := by kernel_rfl
theorem eq_some (b : Nat) (w : World) : (Go.binOp .eql 89 (.map (some b)) (.map none)).run Try.prog w = .ok (.bool false) w := by kernel_rfl
theorem wf_nat {n : Nat} (h : n ≤ 1000000) : I64 (n : Int) := WalkArith.wf_i64 (by omega)

set_option maxRecDepth 100000 in
set_option maxHeartbeats 16000000 in
theorem clash_no (H : List (List Bool)) (T : List Tv) (fr : Int) (m n : Nat) (a b : Option Addr) (ca cb : Nat) (w : World) (hm : Hid (m = H.length)) (hn : Hid (n = T.length)) (hmn : m ≠ n) :
    Calls Try.prog 18 #[.slice a m ca, .slice b n cb, .int .i64 fr] w (ClashPost H (tbs T) fr w) := by
  have g1 : ((m : Int) != (n : Int)) = true := by simp; omega
  have e0 : Hid (clashV H (tbs T) fr = []) := Lib.hid (by
    unfold clashV
    rw [if_neg]
    rw [square_iff, tbs_len, ← hn.out, ← hm.out]
    exact fun h => hmn h.1)
  clear hmn
  go_enter Try.func18, Try.ntmps18
  go_wp2_with fail
  go_ret
  exact ⟨none, 0, 0, rfl, by rw [e0.out]; exact .inl rfl, by rw [e0.out]; rfl, Nat.le_refl _, by unfold maxLen; omega, Below.refl _ _⟩
set_option maxRecDepth 100000 in
set_option maxHeartbeats 16000000 in
theorem clash_go (H : List (List Bool)) (T : List Tv) (fr : Int) (n : Nat) (a b : Option Addr) (ca cb : Nat) (w : World) (hm : Hid (n = H.length)) (hn : Hid (n = T.length)) (hl : TabAt w a H) (ht : TsAt w b T) (hn2 : n ≤ 12) (h40 : Hid (∀ x ∈ T, x.ng ≤ 1000 ∧ x.nu ≤ 1000)) :
    Calls Try.prog 18 #[.slice a n ca, .slice b n cb, .int .i64 fr] w (ClashPost H (tbs T) fr w) := by
  have HTL : Hid ((tbs T).length = n) := Lib.hid ((tbs_len T).trans hn.out.symm)
  have g1 : ((n : Int) != (n : Int)) = false := by simp
  have hmm := @run_makeMap Try.prog
  go_enter Try.func18, Try.ntmps18
  go_upto_region 4 with (fail)
  clear hmm
  have M0 := Mps.made w
  have BB : Below w.heap.size w (w.alloc (.map #[] 0)) := ball (Below.refl _ _) _
  obtain ⟨V1, hV1⟩ : ∃ V1, w.alloc (.map #[] 0) = V1 := ⟨_, rfl⟩
  rw [hV1] at M0 BB ⊢
  clear hV1
  rw [← sndTo_zero (tbs T)] at M0
  obtain ⟨mb, hmb⟩ : ∃ mb, w.heap.size = mb := ⟨_, rfl⟩
  rw [hmb] at M0 ⊢
  have hw0 : w.heap.size ≤ mb := by omega
  have HMB := Lib.hid hmb
  clear hmb
  go_wp2_with fail
  go_loopw [27] (fun i wr => ∃ i' : Nat, i' ≤ n ∧ i = .int .i64 i' ∧ Below w.heap.size w wr ∧ Hid (∀ j, j < i' → (H.getD j []).length = n) ∧ ∃ q B D, q ≤ i' * 2000 ∧ Mps wr mb mb q (sndTo (tbs T) i' 0) B D) (fun i _ => n - (intOf i).toNat)
  case atStart => exact ⟨0, Nat.zero_le _, rfl, BB, Lib.hid (fun j hj => by omega), 0, _, _, Nat.le_refl _, M0⟩
  case round =>
    clear BB M0
    obtain ⟨i, hi, rfl, BB, hrows, q, B, D, hq, M⟩ := hrel
    by_cases hlt : i < n
    · have hlt' : (i : Int) < (n : Int) := by omega
      have hi0 : (0 : Int) ≤ (i : Int) := by omega
      have hxm : T.getD i default ∈ T := getD_mem (by rw [← hn.out]; exact hlt)
      have hx40 := (h40.out _ hxm).2
      have hTi : (tbs T).getD i default = (T.getD i default).T := tbs_at (by rw [← hn.out]; exact hlt)
      obtain ⟨b1, off, rfl, ho, t0, t1, t2⟩ := ht.at BB (i := i) (by rw [← hn.out]; exact hlt)
      obtain ⟨a1, o1, ra, rc, rfl, h0, -, -, -⟩ := hl.at BB (i := i) (by rw [← hm.out]; omega)
      obtain ⟨t, htt⟩ : ∃ t, T.getD i default = t := ⟨_, rfl⟩
      rw [htt] at ho hx40 hTi t0 t1 t2
      rw [htt] at hxm
      have HTM := Lib.hid hxm
      have HT2 := Lib.hid hTi
      obtain ⟨len, hlen⟩ : ∃ len, (H.getD i []).length = len := ⟨_, rfl⟩
      rw [hlen] at h0
      have HLEN := Lib.hid hlen
      have hum := ho.um; have huc := ho.uc
      unfold maxLen at hum
      have HOK : Hid (t.ok wr) := Lib.hid ho
      have HUN : Hid (t.nu = t.T.U.length) := Lib.hid ho.un
      have HUW : Hid (∀ x ∈ t.T.U, x.wf) := Lib.hid ho.uw
      clear htt hTi hxm ho hlen
      obtain ⟨au, hau⟩ : ∃ au, t.ua = au := ⟨_, rfl⟩
      rw [hau] at t0
      have HAU := Lib.hid hau
      clear hau
      go_upto_region 7 with (fail)
      clear t0 t1 t2
      have Tt := CAt.new wr [.slice au t.nu t.uc, .slice t.ga t.ng t.gc, .slice t.aa t.na t.ac] 26
      have BA : Below wr.heap.size wr (wr.alloc (.cells #[.slice au t.nu t.uc, .slice t.ga t.ng t.gc, .slice t.aa t.na t.ac] 26)) := ball (Below.refl _ _) _
      obtain ⟨V3, hV3⟩ : ∃ V3, wr.alloc (.cells #[.slice au t.nu t.uc, .slice t.ga t.ng t.gc, .slice t.aa t.na t.ac] 26) = V3 := ⟨_, rfl⟩
      rw [hV3] at Tt BA ⊢
      clear hV3
      obtain ⟨tb, htb⟩ : ∃ tb, wr.heap.size = tb := ⟨_, rfl⟩
      rw [htb] at Tt ⊢
      have BB2 := bstep BB BA
      have M2 := M.keep BA
      have h02 := keep1 BA h0
      have HOK2 : Hid (t.ok V3) := Lib.hid (HOK.out.keep BA)
      clear BA BB M h0 htb HOK
      have x0 := Tt 0 _ rfl
      by_cases hln : len = n
      · subst hln
        have hrows2 : Hid (∀ j, j < i + 1 → (H.getD j []).length = len) := Lib.hid (fun j hj => by
          by_cases e : j = i
          · rw [e]; exact HLEN.out
          · exact hrows.out j (by omega))
        go_wp2_with fail
        clear x0 h02
        go_loopw [43] (fun y wr => ∃ j : Nat, j ≤ t.nu ∧ y = .int .i64 j ∧ Below w.heap.size w wr ∧ Below V3.heap.size V3 V3 ∧ Hid (t.ok wr) ∧ ∃ q B D, q ≤ i * 2000 + j * 2 ∧ Mps wr mb mb q (sndTo (tbs T) i j) B D) (fun y _ => t.nu - (intOf y).toNat)
        case atStart => exact ⟨0, Nat.zero_le _, rfl, BB2, Below.refl _ _, HOK2, q, B, D, by omega, M2⟩
        case round =>
          clear BB2 M2 HOK2 Tt
          obtain ⟨j, hj, rfl, BB, -, HOK, q, B, D, hq, M⟩ := hrel
          by_cases hjt : j < t.nu
          · have hjt' : (j : Int) < (t.nu : Int) := by omega
            have hj0 : (0 : Int) ≤ (j : Int) := by omega
            obtain ⟨b3, off3, e3, c0, c1, c2, c3⟩ := HOK.out.u.us (Below.refl _ _) (i := j) (by rw [← HUN.out]; exact hjt)
            obtain rfl : au = some ⟨b3, off3, none⟩ := HAU.out.symm.trans e3
            have hss := sndTo_succ (tbs T) i (j := j) (by rw [HT2.out, ← HUN.out]; exact hjt)
            rw [HT2.out] at hss
            have huw := HUW.out _ (getD_mem (by rw [← HUN.out]; exact hjt) : t.T.U.getD j default ∈ t.T.U)
            obtain ⟨u, hu⟩ : ∃ u, t.T.U.getD j default = u := ⟨_, rfl⟩
            rw [hu] at c0 c1 c2 c3 hss huw
            have HSS := Lib.hid hss
            have hus := Lib.hid huw.s; have huo := Lib.hid huw.o
            clear hu e3 hss huw
            go_upto_region 12 with (fail)
            clear c0 c1 c2 c3
            have Tu := CAt.new wr [.int .i64 u.s, .int .i64 u.o, .int .i64 u.p, .int .i64 u.t] 43
            have BA : Below wr.heap.size wr (wr.alloc (.cells #[.int .i64 u.s, .int .i64 u.o, .int .i64 u.p, .int .i64 u.t] 43)) := ball (Below.refl _ _) _
            obtain ⟨V4, hV4⟩ : ∃ V4, wr.alloc (.cells #[.int .i64 u.s, .int .i64 u.o, .int .i64 u.p, .int .i64 u.t] 43) = V4 := ⟨_, rfl⟩
            rw [hV4] at Tu BA ⊢
            clear hV4
            have hmlt := M.m.lt
            obtain ⟨ub, hub⟩ : ∃ ub, wr.heap.size = ub := ⟨_, rfl⟩
            have hmu : mb < ub := by omega
            rw [hub] at Tu ⊢
            replace BB := bstep BB BA
            replace M := M.keep BA
            replace HOK := Lib.hid (HOK.out.keep BA)
            clear BA hub hmlt
            have u0 := Tu 0 _ rfl
            have u1 := Tu 1 _ rfl
            have hIi : Hid (I64 (i : Int)) := Lib.hid (wf_nat (by omega))
            have hsz := BB.size
            rcases M.look hus.out huo.out with ⟨hB, hlk⟩ | ⟨b9, hB, hlk⟩
            · obtain ⟨w5, D5, hup, M5, hg5⟩ := M.new hus.out huo.out hB (by unfold maxLen; omega)
              have BN : Below V4.heap.size V4 (V4.alloc (.map #[] 0)) := ball (Below.refl _ _) _
              have Tu5 : CAt w5 ub [.int .i64 u.s, .int .i64 u.o, .int .i64 u.p, .int .i64 u.t] := (Tu.keep BN).grown hg5 (fun e => by have := Option.some.inj e; omega)
              have B5 : Below w.heap.size w w5 := (bstep BB BN).grown hg5 (bstep BB BN).size (fun k e => by have := Option.some.inj e; omega)
              have v0 := Tu5 0 _ rfl
              have v1 := Tu5 1 _ rfl
              rcases M5.look hus.out huo.out with ⟨hB5, hlk5⟩ | ⟨b9, hB5, hlk5⟩
              · simp at hB5
              · obtain ⟨w6, hup6, M6, hg6⟩ := M5.put hus.out huo.out hIi.out hB5 (by unfold maxLen; omega)
                have hb9 := (M5.set _ _ _ hus.out huo.out hB5).1
                have B6 : Below w.heap.size w w6 := B5.grown hg6 B5.size (fun k e => by have := Option.some.inj e; omega)
                have HOK6 : Hid (t.ok w6) := Lib.hid ((ht.2 t HTM.out).keep B6)
                have HM6 := Lib.hid M6; have HB6 := Lib.hid B6
                have HUP := Lib.hid hup; have HUP6 := Lib.hid hup6
                have hmm := @run_makeMap Try.prog
                have heq := eq_none
                clear hB hB5 M M5 hg5 hg6 BN B5 BB M6 B6 hup hup6 Tu Tu5 HOK hb9
                go_wp2_with (at_mapUpdate; first | refine wpList_update rfl _ _ _ 88 rfl _ _ _ rfl rfl rfl HUP.out ?_ | refine wpList_update rfl _ _ _ 89 rfl _ _ _ rfl rfl rfl HUP6.out ?_)
                clear hmm heq u0 u1 v0 v1 hlk hlk5
                go_roundw
                case rel => exact ⟨j + 1, by omega, by go_num, HB6.out, Below.refl _ _, HOK6, q + 1 + 1, _, _, by omega, by rw [HSS.out]; exact HM6.out⟩
                case measure => simp [intOf]; omega
            · obtain ⟨w6, hup6, M6, hg6⟩ := M.put hus.out huo.out hIi.out hB (by unfold maxLen; omega)
              have hb9 := (M.set _ _ _ hus.out huo.out hB).1
              have B6 : Below w.heap.size w w6 := BB.grown hg6 BB.size (fun k e => by have := Option.some.inj e; omega)
              have HOK6 : Hid (t.ok w6) := Lib.hid ((ht.2 t HTM.out).keep B6)
              have HM6 := Lib.hid M6; have HB6 := Lib.hid B6
              have HUP6 := Lib.hid hup6
              clear hB M hg6 BB M6 B6 hup6 Tu HOK hb9
              have heq := eq_some b9
              go_wp2_with (at_mapUpdate; refine wpList_update rfl _ _ _ 89 rfl _ _ _ rfl rfl rfl HUP6.out ?_)
              clear u0 u1 hlk heq
              go_roundw
              case rel => exact ⟨j + 1, by omega, by go_num, HB6.out, Below.refl _ _, HOK6, q + 1, _, _, by omega, by rw [HSS.out]; exact HM6.out⟩
              case measure => simp [intOf]; omega
          · obtain rfl : t.nu = j := by omega
            have hjt' : ¬ (t.nu : Int) < (t.nu : Int) := by omega
            go_wp2_with fail
            go_roundw
            case rel => exact ⟨i + 1, by omega, by go_num, BB, hrows2, q, B, D, by omega, by rw [← sndTo_next, HT2.out, ← HUN.out]; exact M⟩
            case measure => simp [intOf]; omega
      · have g2 : ((len : Int) != (n : Int)) = true := by simp; omega
        have e0 : Hid (clashV H (tbs T) fr = []) := Lib.hid (by
          unfold clashV
          rw [if_neg]
          rw [square_iff]
          rintro ⟨h1, h2⟩
          have := h2 i (by rw [← hm.out]; exact hlt)
          rw [HTL.out, HLEN.out] at this
          exact hln this)
        clear hln
        go_wp2_with fail
        go_ret
        exact ⟨none, 0, 0, rfl, by rw [e0.out]; exact .inl rfl, by rw [e0.out]; rfl, Nat.le_refl _, by unfold maxLen; omega, BB2⟩
    · obtain rfl : n = i := by omega
      have hlt' : ¬ (n : Int) < (n : Int) := by omega
      have HCV : Hid (clashV H (tbs T) fr = vTo H (tbs T) fr n) := Lib.hid (by
        unfold clashV vTo
        rw [if_pos (square_iff.2 ⟨by rw [HTL.out, hm.out], fun j hj => by rw [HTL.out]; exact hrows.out j (by rw [hm.out]; exact hj)⟩), HTL.out])
      obtain ⟨W2, hW2⟩ : ∃ W2, W2 = wr := ⟨_, rfl⟩
      subst hW2
      have HM := Lib.hid M
      have hbs := BB.size
      have HBB := Lib.hid BB
      clear M BB
      go_wp2_with fail
      go_loopw [12, 65] (fun o i wr => ∃ l : Nat, l ≤ n ∧ i = .int .i64 l ∧ Below W2.heap.size W2 wr ∧ ∃ q, q ≤ l * 12000 ∧ Hid (q = (vTo H (tbs T) fr l).length) ∧ wr.ownsRow W2.heap.size 75 5 o q (flatL Cz.cs (vTo H (tbs T) fr l))) (fun _ i _ => n - (intOf i).toNat)
      case atStart => exact ⟨0, Nat.zero_le _, rfl, Below.refl _ _, 0, Nat.le_refl _, Lib.hid rfl, World.ownsRow_nil _ _ _ _⟩
      case round =>
        obtain ⟨l, hl0, rfl, BB, q, hq, hql, R⟩ := hrel
        obtain ⟨va, vc, rfl⟩ := row_shape R
        by_cases hlt : l < n
        · have hlt' : (l : Int) < (n : Int) := by omega
          have hl1 : (0 : Int) ≤ (l : Int) := by omega
          have hTl : (tbs T).getD l default = (T.getD l default).T := tbs_at (by rw [← hn.out]; exact hlt)
          have hxm : T.getD l default ∈ T := getD_mem (by rw [← hn.out]; exact hlt)
          have hx40 := (h40.out _ hxm).1
          obtain ⟨b1, off, rfl, ho, t0, t1, t2⟩ := ht.at (HBB.out.trans (BB.mono hbs)) (i := l) (by rw [← hn.out]; exact hlt)
          obtain ⟨t, htt⟩ : ∃ t, T.getD l default = t := ⟨_, rfl⟩
          rw [htt] at ho hx40 hTl hxm t0 t1 t2
          have HT2 := Lib.hid hTl; have HTM := Lib.hid hxm
          have hgm := ho.gm; have hgc := ho.gc
          unfold maxLen at hgm
          have HGN : Hid (t.ng = t.T.G.length) := Lib.hid ho.gn
          have HGW : Hid (∀ x ∈ t.T.G, x.wf) := Lib.hid ho.gw
          clear htt hTl hxm ho
          obtain ⟨ag, hag⟩ : ∃ ag, t.ga = ag := ⟨_, rfl⟩
          rw [hag] at t1
          have HAG := Lib.hid hag
          clear hag
          go_upto_region 21 with (fail)
          clear t0 t1 t2
          have Tt := CAt.new wr [.slice t.ua t.nu t.uc, .slice ag t.ng t.gc, .slice t.aa t.na t.ac] 26
          have BA : Below wr.heap.size wr (wr.alloc (.cells #[.slice t.ua t.nu t.uc, .slice ag t.ng t.gc, .slice t.aa t.na t.ac] 26)) := ball (Below.refl _ _) _
          obtain ⟨V3, hV3⟩ : ∃ V3, wr.alloc (.cells #[.slice t.ua t.nu t.uc, .slice ag t.ng t.gc, .slice t.aa t.na t.ac] 26) = V3 := ⟨_, rfl⟩
          rw [hV3] at Tt BA ⊢
          clear hV3
          obtain ⟨tb, htb⟩ : ∃ tb, wr.heap.size = tb := ⟨_, rfl⟩
          rw [htb] at Tt ⊢
          replace BB := bstep BB BA
          replace R := ownsRow_below R BA
          clear BA htb
          have x1 := Tt 1 _ rfl
          go_wp2_with fail
          clear x1 Tt
          go_loopw [12, 73] (fun o i wr => ∃ k : Nat, k ≤ t.ng ∧ i = .int .i64 k ∧ Below W2.heap.size W2 wr ∧ ∃ q, q ≤ l * 12000 + k * 12 ∧ Hid (q = (vTo H (tbs T) fr l ++ lTo H (tbs T) fr l k).length) ∧ wr.ownsRow W2.heap.size 75 5 o q (flatL Cz.cs (vTo H (tbs T) fr l ++ lTo H (tbs T) fr l k))) (fun _ i _ => t.ng - (intOf i).toNat)
          case atStart => exact ⟨0, Nat.zero_le _, rfl, BB, q, by omega, Lib.hid (by rw [lTo_zero, List.append_nil]; exact hql.out), by rw [lTo_zero, List.append_nil]; exact R⟩
          case round =>
            clear BB hql R
            obtain ⟨k, hk, rfl, BB, q, hq, hql, R⟩ := hrel
            obtain ⟨va, vc, rfl⟩ := row_shape R
            by_cases hkt : k < t.ng
            · have hkt' : (k : Int) < (t.ng : Int) := by omega
              have hk0 : (0 : Int) ≤ (k : Int) := by omega
              have hok := (ht.2 t HTM.out).keep (HBB.out.trans (BB.mono hbs))
              obtain ⟨b3, off3, e3, c0, c1, c2, c3, c4⟩ := hok.g.gr (Below.refl _ _) (i := k) (by rw [← HGN.out]; exact hkt)
              obtain rfl : ag = some ⟨b3, off3, none⟩ := HAG.out.symm.trans e3
              have hls := lTo_succ H (tbs T) fr l (k := k) (by rw [HT2.out, ← HGN.out]; exact hkt)
              rw [HT2.out, HTL.out] at hls
              have hgw := HGW.out _ (getD_mem (by rw [← HGN.out]; exact hkt) : t.T.G.getD k default ∈ t.T.G)
              obtain ⟨g, hg⟩ : ∃ g, t.T.G.getD k default = g := ⟨_, rfl⟩
              rw [hg] at c0 c1 c2 c3 c4 hls hgw
              have HLS := Lib.hid hls
              have hgs := Lib.hid hgw.s; have hgo := Lib.hid hgw.o
              clear hls hg hok e3 hgw
              go_upto_region 24 with (fail)
              clear c0 c1 c2 c3 c4
              have Tg := CAt.new wr [.int .i64 g.s, .int .i64 g.o, .int .i64 g.p, .int .i64 g.t, .int .i64 g.u] 63
              have BA : Below wr.heap.size wr (wr.alloc (.cells #[.int .i64 g.s, .int .i64 g.o, .int .i64 g.p, .int .i64 g.t, .int .i64 g.u] 63)) := ball (Below.refl _ _) _
              obtain ⟨V3, hV3⟩ : ∃ V3, wr.alloc (.cells #[.int .i64 g.s, .int .i64 g.o, .int .i64 g.p, .int .i64 g.t, .int .i64 g.u] 63) = V3 := ⟨_, rfl⟩
              rw [hV3] at Tg BA ⊢
              clear hV3
              obtain ⟨gb, hgb⟩ : ∃ gb, wr.heap.size = gb := ⟨_, rfl⟩
              have hgb2 : W2.heap.size ≤ gb := by have := BB.size; omega
              have HNE : Hid (∀ b, (Value.slice va q vc).ownBlock = some b → b ≠ gb) := Lib.hid (fun b hb => by have := (R.lt b hb).2; omega)
              have hgl : gb < V3.heap.size := World.block_lt_of_cell? V3 ⟨gb, 0, none⟩ (by rw [← hgb]; exact Tg 0 _ rfl)
              replace BB := bstep BB BA
              replace R := ownsRow_below R BA
              rw [hgb] at Tg ⊢
              clear BA hgb
              have g3 := Tg 4 _ rfl
              by_cases hfu : fr ≤ g.u
              · have hfu2 : ¬ g.u < fr := by omega
                obtain ⟨a2, o2, ra, rc, rfl, h0', hrow', -, -⟩ := hl.at HBB.out (i := l) (by rw [← hm.out]; exact hlt)
                have h0 := keep1 BB h0'
                have hrow := hrow'.keep BB
                have HR2 : Hid (BoolsAt W2 ra (H.getD l [])) := Lib.hid hrow'
                clear h0' hrow'
                have hrl : (H.getD l []).length = n := hrows.out l hlt
                rw [hrl] at h0
                obtain ⟨ar, har⟩ : ∃ ar, ra = ar := ⟨_, rfl⟩
                have HROW : Hid (BoolsAt V3 ra (H.getD l [])) := Lib.hid hrow
                have HRL := Lib.hid hrl
                have HV3 : Hid (Below V3.heap.size V3 V3) := Lib.hid (Below.refl _ _)
                clear hrow hrl har
                go_wp2_with fail
                clear g3 h0
                go_loopw [12, 86] (fun o i wr => ∃ c : Nat, c ≤ n ∧ i = .int .i64 c ∧ Below W2.heap.size W2 wr ∧ Hid (BoolsAt wr ra (H.getD l [])) ∧ CAt wr gb [.int .i64 g.s, .int .i64 g.o, .int .i64 g.p, .int .i64 g.t, .int .i64 g.u] ∧ gb < wr.heap.size ∧ Hid (∀ b, o.ownBlock = some b → b ≠ gb) ∧ ∃ q, q ≤ l * 12000 + k * 12 + c ∧ Hid (q = (vTo H (tbs T) fr l ++ lTo H (tbs T) fr l k ++ clashG H (tbs T) fr l g c).length) ∧ wr.ownsRow W2.heap.size 75 5 o q (flatL Cz.cs (vTo H (tbs T) fr l ++ lTo H (tbs T) fr l k ++ clashG H (tbs T) fr l g c))) (fun _ i _ => n - (intOf i).toNat)
                case atStart => exact ⟨0, Nat.zero_le _, rfl, BB, HROW, Tg, hgl, HNE, q, by omega, Lib.hid (by rw [show clashG H (tbs T) fr l g 0 = [] from rfl, List.append_nil]; exact hql.out), by rw [show clashG H (tbs T) fr l g 0 = [] from rfl, List.append_nil]; exact R⟩
                case round =>
                  clear BB HROW Tg hgl HNE hql R
                  obtain ⟨c, hc, rfl, BB, HROW, Tg, hgl, HNE, q, hq, hql, R⟩ := hrel
                  obtain ⟨va, vc, rfl⟩ := row_shape R
                  by_cases hcn : c < n
                  · have hcn' : (c : Int) < (n : Int) := by omega
                    have hc0 : (0 : Int) ≤ (c : Int) := by omega
                    obtain ⟨b4, o4, rfl, h1⟩ := HROW.out.at (Below.refl _ _) (i := c) (by rw [HRL.out]; exact hcn)
                    have M := HM.out.keep BB
                    obtain ⟨q0, hq0⟩ : ∃ q0, ((c : Int) != (l : Int)) = q0 := ⟨_, rfl⟩
                    obtain ⟨q1, hq1⟩ : ∃ q1, ((c : Int) != g.p) = q1 := ⟨_, rfl⟩
                    have hq2 : tabB H l c = (H.getD l []).getD c false := rfl
                    obtain ⟨q2, hq2'⟩ : ∃ q2, (H.getD l []).getD c false = q2 := ⟨_, rfl⟩
                    rw [hq2'] at h1
                    obtain ⟨q3, hq3⟩ : ∃ q3, sendsB ((tbs T).getD c default) g.s g.o = q3 := ⟨_, rfl⟩
                    have HH : Hid (hitB H (tbs T) fr l g c = (q0 && q1 && q2 && q3)) := Lib.hid (hit_parts hfu hq0 hq1 (hq2.trans hq2') hq3)
                    have HS3 : Hid (sndTo (tbs T) n 0 g.s g.o c = q3) := Lib.hid ((sndTo_at (tbs T) hcn g.s g.o).trans hq3)
                    have hIc : Hid (I64 (c : Int)) := Lib.hid (wf_nat (by omega))
                    clear hq2 hq2' hq3
                    have g0 := Tg 0 _ rfl
                    have g1' := Tg 1 _ rfl
                    have g2' := Tg 2 _ rfl
                    cases q2
                    ·
                      clear HS3 hIc M
                      go_wp2_with fail
                      clear g0 g1' g2' h1 hq0 hq1
                      have HG2 : Hid (clashG H (tbs T) fr l g (c + 1) = clashG H (tbs T) fr l g c) := Lib.hid (by rw [gTo_succ, HH.out]; simp)
                      go_roundw
                      case rel => exact ⟨c + 1, by omega, by go_num, BB, HROW, Tg, hgl, HNE, q, by omega, Lib.hid (by rw [HG2.out]; exact hql.out), by rw [HG2.out]; exact R⟩
                      case measure => simp [intOf]; omega
                    ·
                      cases q0
                      ·
                        clear HS3 hIc M
                        go_wp2_with fail
                        clear g0 g1' g2' h1 hq0 hq1
                        have HG2 : Hid (clashG H (tbs T) fr l g (c + 1) = clashG H (tbs T) fr l g c) := Lib.hid (by rw [gTo_succ, HH.out]; simp)
                        go_roundw
                        case rel => exact ⟨c + 1, by omega, by go_num, BB, HROW, Tg, hgl, HNE, q, by omega, Lib.hid (by rw [HG2.out]; exact hql.out), by rw [HG2.out]; exact R⟩
                        case measure => simp [intOf]; omega
                      ·
                        cases q1
                        ·
                          clear HS3 hIc M
                          go_wp2_with fail
                          clear g0 g1' g2' h1 hq0 hq1
                          have HG2 : Hid (clashG H (tbs T) fr l g (c + 1) = clashG H (tbs T) fr l g c) := Lib.hid (by rw [gTo_succ, HH.out]; simp)
                          go_roundw
                          case rel => exact ⟨c + 1, by omega, by go_num, BB, HROW, Tg, hgl, HNE, q, by omega, Lib.hid (by rw [HG2.out]; exact hql.out), by rw [HG2.out]; exact R⟩
                          case measure => simp [intOf]; omega
                        ·
                          rcases M.look hgs.out hgo.out with ⟨hB, hlk⟩ | ⟨b9, hB, hlk⟩
                          ·
                            obtain rfl : q3 = false := HS3.out.symm.trans (M.none _ _ hgs.out hgo.out hB _)
                            have hln := look_nil wr hIc.out
                            clear hB M HS3 hIc
                            go_wp2_with fail
                            clear hlk hln
                            clear g0 g1' g2' h1 hq0 hq1
                            have HG2 : Hid (clashG H (tbs T) fr l g (c + 1) = clashG H (tbs T) fr l g c) := Lib.hid (by rw [gTo_succ, HH.out]; simp)
                            go_roundw
                            case rel => exact ⟨c + 1, by omega, by go_num, BB, HROW, Tg, hgl, HNE, q, by omega, Lib.hid (by rw [HG2.out]; exact hql.out), by rw [HG2.out]; exact R⟩
                            case measure => simp [intOf]; omega
                          ·
                            have hln := (M.set _ _ _ hgs.out hgo.out hB).2.2.look hIc.out
                            rw [HS3.out] at hln
                            clear hB M HS3 hIc
                            cases q3
                            ·
                              go_wp2_with fail
                              clear hlk hln
                              clear g0 g1' g2' h1 hq0 hq1
                              have HG2 : Hid (clashG H (tbs T) fr l g (c + 1) = clashG H (tbs T) fr l g c) := Lib.hid (by rw [gTo_succ, HH.out]; simp)
                              go_roundw
                              case rel => exact ⟨c + 1, by omega, by go_num, BB, HROW, Tg, hgl, HNE, q, by omega, Lib.hid (by rw [HG2.out]; exact hql.out), by rw [HG2.out]; exact R⟩
                              case measure => simp [intOf]; omega
                            ·
                              obtain ⟨i0, hi9, hz0, hz1, hz2⟩ := info_parts info75
                              have hsz2 : W2.heap.size ≤ wr.heap.size := BB.size
                              have HBR : Hid (BoolsAt W2 (some ⟨b4, o4, none⟩) (H.getD l [])) := HR2
                              go_wp2_with (at_builtin; refine wpList_plain rfl fun K9 hK9 => ?_; refine wp_append_at (.tmp 111) (.tmp 119) 37 rfl W2.heap.size 75 i0 _ 5 40 Try.underlying37 hi9 hz0 hz1 hz2 rfl (by decide) _ _ _ rfl (R.alloc _) ⟨wr.heap.size, 0, none⟩ 1 1 (⟨g.s, g.o, l, g.p, c⟩ : Cz).cs rfl rfl (fun j u hj => by rw [add0]; exact CAt.new _ (⟨g.s, g.o, l, g.p, c⟩ : Cz).cs _ j u hj) (fun u hu => by simp at hu; rcases hu with rfl | rfl | rfl | rfl | rfl <;> rfl) (by unfold maxLen; omega) (by omega) (by simp; omega) ?_; intro v1 w4 R1 hg1 hv1; have HV1 := Lib.hid hv1; clear hv1; refine hK9 _ _ ?_; clear hK9)
                              clear hlk hln
                              clear g0 g1' g2' h1 hq0 hq1
                              go_roundw
                              case rel =>
                                have HG2 : Hid (clashG H (tbs T) fr l g (c + 1) = clashG H (tbs T) fr l g c ++ [⟨g.s, g.o, l, g.p, c⟩]) := Lib.hid (by rw [gTo_succ, HH.out]; rfl)
                                have RA := R.alloc (.cells #[.int .i64 g.s, .int .i64 g.o, .int .i64 l, .int .i64 g.p, .int .i64 c] 75)
                                have bA : Below wr.heap.size wr (wr.alloc (.cells #[.int .i64 g.s, .int .i64 g.o, .int .i64 l, .int .i64 g.p, .int .i64 c] 75)) := ball (Below.refl _ _) _
                                have BB1 := app_below (bstep BB bA) (Nat.le_refl _) RA hg1
                                have Tg1 := (Tg.keep bA).grown hg1 (fun e => HNE.out gb e.symm rfl)
                                have hgl1 : gb < w4.heap.size := Nat.lt_of_lt_of_le hgl (Nat.le_trans bA.size hg1.size)
                                have HNE1 : Hid (∀ b, v1.ownBlock = some b → b ≠ gb) := Lib.hid (fun b hb => by
                                  rcases HV1.out with h | h
                                  · exact HNE.out b (h.symm.trans hb)
                                  · rw [h] at hb; simp at hb; omega)
                                have HROW1 : Hid (BoolsAt w4 _ (H.getD l [])) := Lib.hid ((HBR.out).keep (BB1.mono (Nat.le_refl _)))
                                exact ⟨c + 1, by omega, by go_num, BB1, HROW1, Tg1, hgl1, HNE1, q + 1, by omega, Lib.hid (by rw [HG2.out, ← List.append_assoc, List.length_append, ← hql.out]; rfl), by rw [HG2.out, ← List.append_assoc, flatL_append, flatL_one]; exact R1⟩
                              case measure => simp [intOf]; omega
                  · obtain rfl : n = c := by omega
                    have hcn' : ¬ (n : Int) < (n : Int) := by omega
                    go_wp2_with fail
                    go_roundw
                    case rel => exact ⟨k + 1, by omega, by go_num, BB, q, by omega, Lib.hid (by rw [HLS.out, ← List.append_assoc]; exact hql.out), by rw [HLS.out, ← List.append_assoc]; exact R⟩
                    case measure => simp [intOf]; omega
              · have HLS2 : Hid (lTo H (tbs T) fr l (k + 1) = lTo H (tbs T) fr l k) := Lib.hid (by rw [HLS.out, gTo_none hfu, List.append_nil])
                have hfu2 : g.u < fr := by omega
                clear hfu
                go_wp2_with fail
                clear g3
                go_roundw
                case rel => exact ⟨k + 1, by omega, by go_num, BB, q, by omega, Lib.hid (by rw [HLS2.out]; exact hql.out), by rw [HLS2.out]; exact R⟩
                case measure => simp [intOf]; omega
            · obtain rfl : t.ng = k := by omega
              have hkt' : ¬ (t.ng : Int) < (t.ng : Int) := by omega
              go_wp2_with fail
              go_roundw
              case rel => exact ⟨l + 1, by omega, by go_num, BB, q, by omega, Lib.hid (by rw [vTo_succ, HT2.out, ← HGN.out]; exact hql.out), by rw [vTo_succ, HT2.out, ← HGN.out]; exact R⟩
              case measure => simp [intOf]; omega
        · obtain rfl : n = l := by omega
          have hlt' : ¬ (n : Int) < (n : Int) := by omega
          obtain ⟨x0, d0, e0, Q0, h1, h2⟩ := own_at cz_size R hql.out
          simp only [Value.slice.injEq, true_and] at e0
          obtain ⟨rfl, rfl⟩ := e0
          have HQ0 := Lib.hid Q0
          go_wp2_with fail
          go_ret
          exact ⟨va, q, vc, rfl, by rw [HCV.out]; exact HQ0.out, by rw [HCV.out]; exact hql.out, h1, h2, HBB.out.trans (BB.mono hbs)⟩
theorem clash_at (H : List (List Bool)) (T : List Tv) (fr : Int) (m n : Nat) (a b : Option Addr) (ca cb : Nat) (w : World) (hm : Hid (m = H.length)) (hn : Hid (n = T.length)) (hl : TabAt w a H) (ht : TsAt w b T) (hn2 : n ≤ 12) (h40 : Hid (∀ x ∈ T, x.ng ≤ 1000 ∧ x.nu ≤ 1000)) :
    Calls Try.prog 18 #[.slice a m ca, .slice b n cb, .int .i64 fr] w (ClashPost H (tbs T) fr w) := by
  by_cases h : m = n
  · subst h; exact clash_go H T fr m a b ca cb w hm hn hl ht hn2 h40
  · exact clash_no H T fr m n a b ca cb w hm hn h
end Go.Proofs.Ytleenbfldkmcaaa
