/- Proved: that the law ReplayOrder returns true for every input. Conditions: the numbers fit their types. -/
import Derived.Test.YtlofghfdcfpaiaaS4
import Derived.Test.YtlofghfdcfpaiaaR6
import Derived.Deep.RegionLaw
import Derived.Maps.AppendAt
namespace Go.Proofs.Ytlofghfdcfpaiaa
open Go.RowKit Go.Sort Go.BigFrame
set_option linter.unusedVariables false
attribute [local go_sem] cell_alloc_old

/-- append AT A STEP OF A REGION THAT DRAWS ITS ORDER, also of nothing. -/
theorem step_append_own {P : Program} {w : World} {ops : Array Oper} {o : Oper} {a : Act} {K : Act → World → Prop} {Q : Exit → Act → World → Prop} {E : Prop} (hgd : o.guard = none) (s x : Operand) (t : TypeId)
    (ho : o.op = .call { callee := .builtin .append, args := #[s, x], argTypes := #[t, t] })
    (base : Nat) (e : TypeId) (i : TypeInfo) (z : Value) (size bytes : Nat) (ht : P.underlying t = some (.slice e)) (hi : P.info? e = some i) (hz : i.zero = some z)
    (hsize : i.size = size) (hby : i.bytes = bytes) (hzs : z.cells.size = size) (hsz : 0 < size)
    (v : Value) (n : Nat) (xs : List Value) (hs : a.eval s = v) (hown : w.ownsRow base e size v n xs)
    (ad : Addr) (m c : Nat) (news : List Value) (hx : a.eval x = .slice (some ad) m c) (hl : news.length = m * size) (hnews : ∀ j u, news[j]? = some u → w.cell? (ad.add j) = some u) (h1 : ∀ u ∈ news, u.oneCell' = true)
    (h63 : n + m ≤ maxLen) (hbytes : (n + m) * bytes ≤ 140737488355328) (hbase : base ≤ w.heap.size)
    (h : ∀ v' w', w'.ownsRow base e size v' (n + m) (xs ++ news) → w.grownBy w' v.ownBlock → K (a.put o.dst v') w') :
    if Region.wanted o (yielded ops a.tmps) = true then Oper.wp P o a w K Q else E := by
  have hw : Region.wanted o (yielded ops a.tmps) = true := by simp [Region.wanted, hgd]
  rw [if_pos hw]
  obtain ⟨v', w', hr, h2, h3, h4, h5⟩ := run_append_own_at (P := P) w base t o.type e i z size bytes ht hi hz hsize hby hzs hsz v n xs hown ad m c news hl hnews h1 h63 hbytes hbase
  unfold Oper.wp execOp
  simp only [ho, resolve, invoke, builtin, Sem.run_bind, Sem.run_pure, Result.andThen_ok, List.map_toArray, List.map_cons, List.map_nil, hs, hx, hr]
  exact h v' w' h2 h3

theorem all_at (a : Option Addr) (cap : Nat) (zs : List Int) (n : Nat) (hn : n = zs.length) (T' B' : Int) (w : World) (hz : IntsAt .i64 w a zs) (hm : n ≤ maxLen)
    (hok : ∀ k, k < zs.length → noteE (stT 0 0 zs k).1 (stT 0 0 zs k).2 (zs.getD k 0) = 0) (h1 : (stT 0 0 zs zs.length).1 = T') (h2 : ((stT 0 0 zs zs.length).2 : Int) = B') :
    Calls Try.prog 17 #[.agg #[.int .i64 0, .int .u64 0], .slice a n cap] w fun e w' =>
      e = .returned (.tuple #[.agg #[.int .i64 T', .int .u64 B'], .bool true]) ∧ Below w.heap.size w w' := by
  subst hn
  rw [← h1, ← h2]
  exact all_any 0 0 a cap zs w (by decide) hz hm hok

set_option maxHeartbeats 2000000 in
theorem lawOrder (F : Int) (S : Nat) (t : Int) (w : World) (hF : 0 ≤ F) (hF' : F ≤ 65535) (hS : S < U) (ht : 0 ≤ t) (ht' : t ≤ 255) :
    Calls Try.prog 5 #[.int .u16 F, .int .u64 S, .int .u8 t] w fun e w' => e = .returned (.bool true) ∧ Below w.heap.size w w' := by
  obtain ⟨i0, hi, hz0, hz1, hz2⟩ := info_parts info3
  go_enter Try.func5, Try.ntmps5
  go_wp2_with fail
  refine (head_any _).mono ?_
  rintro e w1 ⟨rfl, hb1⟩
  go_wp2_with fail
  go_loopw [8, 21] (fun v i wr => ∃ k : Nat, k ≤ 64 ∧ i = .int .i64 k ∧ Own .i64 wr w1.heap.size 3 v (lst F S k) ∧ Below w1.heap.size w1 wr) (fun _ i _ => 64 - (intOf i).toNat)
  case atStart => exact ⟨0, Nat.zero_le _, rfl, Own.nil _ _ _ _, Below.refl _ _⟩
  case round =>
    obtain ⟨k, hk, rfl, hown, hB⟩ := hrel
    have hB' := hB.size
    by_cases hlt : k < 64
    · have hlt' : (k : Int) < 64 := by omega
      have hbit := bit_and S k hS
      have hl := lst_len F S k
      have HL := Lib.hid hl; clear hl
      cases hb : S.testBit k
      · have hst : lst F S (k + 1) = lst F S k := by rw [lst, hb]; rfl
        rw [hb] at hbit
        have HST := Lib.hid hst; clear hst hb
        go_wp2_with fail
        go_roundw
        case rel => exact ⟨k + 1, by omega, by go_num, by rw [HST.out]; exact hown, hB⟩
        case measure => simp [intOf]; omega
      · have hst : lst F S (k + 1) = lst F S k ++ [1 + F + (k : Int)] := by rw [lst, hb]; rfl
        rw [hb] at hbit
        have HST := Lib.hid hst; clear hst hb
        go_wp2_with (first
          | (at_builtin; refine wpList_append_own _ rfl _ _ 33 rfl w1.heap.size 3 i0 (.int .i64 0) 1 8 Try.underlying33 hi hz0 hz1 hz2 rfl (by decide) _ _ _ rfl (World.ownsRow.alloc hown _) ⟨wr.heap.size, 0, none⟩ 1 1 [.int .i64 (1 + F + k)] rfl rfl (one_new _ _ _) (one_int _ _) (by have := HL.out; unfold maxLen; omega) (by have := HL.out; omega) (by simp; omega) ?_; intro v' w2 hown' hgrow _))
        have hB2 := grown_below hB hown (Nat.le_refl _) hgrow
        have hown2 := Own.push hown'
        rw [← HST.out] at hown2
        clear hown' hgrow
        go_wp2
        go_roundw
        case rel => exact ⟨k + 1, by omega, by go_num, hown2, hB2⟩
        case measure => simp [intOf]; omega
    · have hk64 : k = 64 := by omega
      subst hk64
      obtain ⟨W, hW⟩ : ∃ W, W = wr := ⟨_, rfl⟩
      rw [← hW] at hown hB hB' ⊢
      clear hW
      obtain ⟨L, hL⟩ : ∃ L, L = lst F S 64 := ⟨_, rfl⟩
      rw [← hL] at hown
      have hlen : L.length ≤ 64 := by rw [hL]; exact lst_len F S 64
      have hsort : L.Pairwise (· < ·) := by rw [hL]; exact lst_sorted 64
      have hrange : ∀ m ∈ L, 1 + F ≤ m ∧ m ≤ 64 + F := fun m hm => by rw [hL] at hm; have := lst_mem 64 m hm; omega
      clear hL
      obtain ⟨a, c, rfl, hints, hlc, hcm⟩ := hown.shape
      obtain ⟨n, hn⟩ : ∃ n, n = L.length := ⟨_, rfl⟩
      rw [← hn] at hlen hlc hown ⊢
      have HN := Lib.hid hn; clear hn
      have HSo := Lib.hid hsort; clear hsort
      have HR := Lib.hid hrange; clear hrange
      have BW := bstep hb1 hB
      by_cases hn0 : n = 0
      · subst hn0
        go_wp2_with fail
        go_ret
        exact ⟨rfl, BW⟩
      · have hn0' : ((n : Int) == 0) = false := by simp; omega
        go_wp2_with fail
        go_loopw [9, 11] (fun v i wr => ∃ j : Nat, j ≤ n ∧ i = .int .i64 ((n : Int) - 1 - j) ∧ Own .i64 wr W.heap.size 3 v (L.reverse.take j) ∧ Below W.heap.size W wr) (fun _ i _ => (intOf i + 1).toNat)
        case atStart => exact ⟨0, Nat.zero_le _, by simp, Own.nil _ _ _ _, Below.refl _ _⟩
        case round =>
          obtain ⟨j, hj, rfl, hown2, hB2⟩ := hrel
          have hB2' := hB2.size
          by_cases hjn : j < n
          · obtain ⟨q, hq⟩ : ∃ q : Nat, (n : Int) - 1 - j = q := ⟨n - 1 - j, by omega⟩
            have hqn : q < n := by omega
            have hqn' : (q : Int) < (n : Int) := by omega
            rw [hq]
            have HQ := Lib.hid hq; clear hq
            obtain ⟨b, off, ha, hc⟩ : ∃ b off, a = some ⟨b, off, none⟩ ∧ W.cell? ⟨b, off + q, none⟩ = some (.int .i64 (L.getD q 0)) := by
              rcases hints with h | ⟨b, off, ha, h⟩
              · subst h; have := HN.out; simp at this; omega
              · exact ⟨b, off, ha, h q (by rw [← HN.out]; exact hqn)⟩
            subst ha
            have hcr := keep1 hB2 hc
            have hst : L.reverse.take (j + 1) = L.reverse.take j ++ [L.getD q 0] := by
              have := HN.out; have := HQ.out
              rw [take_push (by simp; omega)]
              congr 2
              simp only [List.getD_eq_getElem?_getD]
              rw [List.getElem?_reverse (by omega), show L.length - 1 - j = q from by omega]
            have hl : (L.reverse.take j).length ≤ 64 := by have := HN.out; simp; omega
            have HST := Lib.hid hst; clear hst
            have HL := Lib.hid hl; clear hl
            generalize L.getD q 0 = x at *
            generalize L.reverse.take j = L1 at *
            go_wp2_with (first
              | (at_builtin; refine wpList_append_own _ rfl _ _ 33 rfl W.heap.size 3 i0 (.int .i64 0) 1 8 Try.underlying33 hi hz0 hz1 hz2 rfl (by decide) _ _ _ rfl (World.ownsRow.alloc hown2 _) ⟨wr.heap.size, 0, none⟩ 1 1 [.int .i64 x] rfl rfl (one_new _ _ _) (one_int _ _) (by have := HL.out; unfold maxLen; omega) (by have := HL.out; omega) (by simp; omega) ?_; intro v' w2 hown' hgrow _))
            have hB3 := grown_below hB2 hown2 (Nat.le_refl _) hgrow
            have hown3 := Own.push hown'
            rw [← HST.out] at hown3
            clear hown' hgrow
            go_wp2
            go_roundw
            case rel => refine ⟨_, _, _, _, _, _, _, _, _, _, _, _, _, ?_, rfl⟩; exact ⟨j + 1, by omega, by have := HQ.out; simp; omega, hown3, hB3⟩
            case measure => have := HQ.out; first | (simp [intOf]; done) | (simp [intOf]; omega)
          · have hjn' : j = n := by omega
            have hq : (n : Int) - 1 - j = -1 := by omega
            rw [hq]
            obtain ⟨V, hV⟩ : ∃ V, V = wr := ⟨_, rfl⟩
            rw [← hV] at hown2 hB2 hB2' ⊢
            clear hV hq
            have hrev : L.reverse.take j = L.reverse := by rw [hjn', HN.out]; exact List.take_of_length_le (by simp)
            rw [hrev] at hown2
            obtain ⟨a2, c2, rfl, hints2, hlc2, hcm2⟩ := hown2.shape
            have hlr : L.reverse.length = n := by rw [HN.out]; simp
            rw [hlr] at hlc2 hown2 ⊢
            have HLR := Lib.hid hlr; clear hlr hrev hjn' hj
            have BV := bstep BW hB2
            have hL := hown.keep hB2
            obtain ⟨b, off, ha, hc⟩ : ∃ b off, a = some ⟨b, off, none⟩ ∧ ∀ q, q < n → V.cell? ⟨b, off + q, none⟩ = some (.int .i64 (L.getD q 0)) := by
              rcases hints with h | ⟨b, off, ha, h⟩
              · subst h; have := HN.out; simp at this; omega
              · exact ⟨b, off, ha, fun q hq => keep1 hB2 (h q (by rw [← HN.out]; exact hq))⟩
            subst ha
            obtain ⟨k, hk⟩ : ∃ k : Nat, t.tmod n = k := ⟨(t.tmod n).toNat, by rw [Int.tmod_eq_emod_of_nonneg ht]; have := Int.emod_nonneg t (b := (n : Int)) (by omega); omega⟩
            have hkn : k < n := by
              rw [Int.tmod_eq_emod_of_nonneg ht] at hk; have := Int.emod_lt_of_pos t (b := (n : Int)) (by omega); omega
            have hkn1 : (k : Int) ≤ (n : Int) := by omega
            have hkn2 : (k : Int) < (n : Int) := by omega
            have hkc : (k : Int) ≤ (c : Int) := by omega
            have hnc : (n : Int) ≤ (c : Int) := by omega
            have hck : ¬ c = k := by omega
            have hck' : ¬ (c : Int) = (k : Int) := by omega
            have hsub : (n : Int) - (k : Int) = ((n - k : Nat) : Int) := by omega
            have hlen64 : n - k ≤ 64 := by omega
            have cells1 : ∀ (j : Nat) (u : Value), ((L.drop k).map (Value.int .i64))[j]? = some u → V.cell? ((⟨b, off + k, none⟩ : Addr).add j) = some u := by
              intro j u hu
              rw [List.getElem?_map, List.getElem?_drop] at hu
              by_cases hj : k + j < L.length
              · rw [List.getElem?_eq_getElem hj] at hu
                simp only [Option.map_some, Option.some.injEq] at hu
                have := hc (k + j) (by rw [HN.out]; exact hj)
                rw [List.getD_eq_getElem?_getD, List.getElem?_eq_getElem hj] at this
                rw [← hu, show (⟨b, off + k, none⟩ : Addr).add j = ⟨b, off + (k + j), none⟩ from by unfold Addr.add; simp [Nat.add_assoc]]
                exact this
              · rw [List.getElem?_eq_none (by omega)] at hu; cases hu
            have cells2 : ∀ (j : Nat) (u : Value), ((L.take k).map (Value.int .i64))[j]? = some u → V.cell? ((⟨b, off, none⟩ : Addr).add j) = some u := by
              intro j u hu
              rw [List.getElem?_map, List.getElem?_take] at hu
              by_cases hj : j < k
              · rw [if_pos hj, List.getElem?_eq_getElem (by have := HN.out; omega)] at hu
                simp only [Option.map_some, Option.some.injEq] at hu
                have := hc j (by omega)
                rw [List.getD_eq_getElem?_getD, List.getElem?_eq_getElem (by have := HN.out; omega)] at this
                rw [← hu, show (⟨b, off, none⟩ : Addr).add j = ⟨b, off + j, none⟩ from by unfold Addr.add; simp]
                exact this
              · rw [if_neg hj] at hu; cases hu
            have addb : ∀ j, ((⟨b, off, none⟩ : Addr).add j).block = b := fun j => by unfold Addr.add; split <;> rfl
            have hbne : some b ≠ some V.heap.size := by
              have := World.block_lt_of_cell? _ _ (hc 0 (by omega)); simp only at this
              intro h; simp at h; omega
            have one : ∀ (X : List Int), ∀ u ∈ X.map (Value.int .i64), u.oneCell' = true := fun X u hu => by
              obtain ⟨x, _, rfl⟩ := List.mem_map.1 hu; rfl
            have ld : ((L.drop k).map (Value.int .i64)).length = (n - k) * 1 := by have := HN.out; simp; omega
            have lt' : ((L.take k).map (Value.int .i64)).length = k * 1 := by have := HN.out; simp; omega
            go_wp2_with fail
            go_region_law (first
              | (refine step_append_own rfl (.tmp 61) (.tmp 64) 33 rfl V.heap.size 3 i0 (.int .i64 0) 1 8 Try.underlying33 hi hz0 hz1 hz2 rfl (by decide) (.slice (some ⟨V.heap.size, 0, none⟩) 0 0) 0 [] (by rfl) (World.ownsRow_made V #[] 0 (Nat.le_refl _) (by decide) rfl) ⟨b, off + k, none⟩ (n - k) (c - k) ((L.drop k).map (Value.int .i64)) (by rfl) ld (fun j u hu => old1 (cells1 j u hu) _) (one _) (by unfold maxLen; omega) (by omega) (by simp) ?_; intro v1 w2 hown1 hgrow1)
              | (refine step_append_own rfl (.tmp 65) (.tmp 68) 33 rfl V.heap.size 3 i0 (.int .i64 0) 1 8 Try.underlying33 hi hz0 hz1 hz2 rfl (by decide) v1 (0 + (n - k)) _ (by rfl) hown1 ⟨b, off, none⟩ k c ((L.take k).map (Value.int .i64)) (by rfl) lt' (fun j u hu => hgrow1.cell (old1 (cells2 j u hu) _) (by rw [addb]; exact hbne)) (one _) (by unfold maxLen; omega) (by omega) (by have := hgrow1.size; simp at this; omega) ?_; intro v2 w3 hown3 hgrow3))
            have B3 : Below V.heap.size V w3 := by
              have z1 : V.heap.size ≤ w2.heap.size := by have := hgrow1.size; first | omega | (simp at this; omega)
              refine Below.grown (Below.grown (Below.drew (ball (Below.refl _ _) _)) hgrow1 (by simp) (fun j hj => ?_)) hgrow3 (by omega) (fun j hj => (hown1.lt j hj).1)
              have hj' : (Value.slice (some ⟨V.heap.size, 0, none⟩) 0 0).ownBlock = some j := hj
              simp only [Value.ownBlock, Option.some.injEq] at hj'; omega
            have hownT : Own .i64 w3 V.heap.size 3 v2 (L.drop k ++ L.take k) := by
              unfold Own
              have e : (L.drop k ++ L.take k).length = 0 + (n - k) + k := by have := HN.out; simp; omega
              rw [e]; simpa using hown3
            clear hown3 hgrow3 hgrow1 hown1
            have BB := bstep BV B3
            obtain ⟨a3, c3, rfl, hints3, hlc3, hcm3⟩ := hownT.shape
            have hlt3 : (L.drop k ++ L.take k).length = n := by have := HN.out; simp; omega
            rw [hlt3]
            have hne : L ≠ [] := by intro h; have := HN.out; rw [h] at this; simp at this; omega
            have hnd : L.Nodup := HSo.out.imp fun h => by omega
            obtain ⟨q1, q2⟩ := same_all (F := F) hF hF' hnd ((List.reverse_perm L).nodup_iff.2 hnd) HR.out (fun m => List.mem_reverse.symm) hne
            obtain ⟨q3, q4⟩ := same_all (F := F) hF hF' hnd (turn_nodup hnd k) HR.out (turn_mem k) hne
            have qt := top_last hF hF' HSo.out HR.out (by have := HN.out; omega)
            have ok1 := fun k hk => all_ok (k := k) hF hF' hnd HR.out hk
            have ok2 := fun k hk => all_ok (L := L.reverse) (k := k) hF hF' ((List.reverse_perm L).nodup_iff.2 hnd) (fun m hm => HR.out m (List.mem_reverse.1 hm)) hk
            have ok3 := fun k' hk => all_ok (L := L.drop k ++ L.take k) (k := k') hF hF' (turn_nodup hnd k) (fun m hm => HR.out m ((turn_mem k m).2 hm)) hk
            obtain ⟨P, hP⟩ : ∃ P, P = stT 0 0 L L.length := ⟨_, rfl⟩
            rw [← hP] at q1 q2 q3 q4 qt
            have hlast := keep1 B3 (hc (n - 1) (by omega))
            rw [show L.getD (n - 1) 0 = P.1 from by rw [qt, ← HN.out]] at hlast
            have h1 := IntsAt.keep (.inr ⟨b, off, rfl, fun j hj => hc j (by rw [HN.out]; exact hj)⟩ : IntsAt .i64 V (some ⟨b, off, none⟩) L) B3
            have h2 := hints2.keep B3
            have hn1 : ((n - 1 : Nat) : Int) = (n : Int) - 1 := by omega
            obtain ⟨m1, hm1⟩ : ∃ m1 : Nat, m1 = n - 1 := ⟨_, rfl⟩
            have hn2 : (n : Int) - 1 = (m1 : Int) := by omega
            have hn3 : (m1 : Int) < (n : Int) := by omega
            rw [← hm1] at hlast
            have HM1 := Lib.hid hm1; clear hm1 hn1
            have HP := Lib.hid hP; have HQ1 := Lib.hid q1; have HQ2 := Lib.hid q2; have HQ3 := Lib.hid q3; have HQ4 := Lib.hid q4
            have OK1 := Lib.hid ok1; have OK2 := Lib.hid ok2; have OK3 := Lib.hid ok3
            clear hP q1 q2 q3 q4 qt ok1 ok2 ok3 hints hints2 hown hown2 hL hc cells1 cells2 ld lt'
            go_wp2_with fail
            refine (all_at _ _ L n HN.out P.1 P.2 _ h1 (by unfold maxLen; omega) OK1.out (by rw [HP.out]) (by rw [HP.out])).mono ?_
            rintro e w11 ⟨rfl, hb11⟩
            have hlast := keep1 hb11 (hlast)
            have BB := bstep BB hb11
            replace h2 := h2.keep hb11
            replace hints3 := hints3.keep hb11
            go_wp2_with fail
            refine (all_at _ _ L.reverse n HLR.out.symm P.1 P.2 _ (h2.keep (ball (Below.refl _ _) _)) (by unfold maxLen; omega) OK2.out HQ1.out.symm (by rw [← HQ2.out])).mono ?_
            rintro e w12 ⟨rfl, hb12⟩
            have hlast := keep1 hb12 (old1 hlast _)
            have p1 : w12.cell? ⟨w11.heap.size, 0, none⟩ = some (.int .i64 P.1) := keep1 hb12 (by simp)
            have s1 : w12.cell? ⟨w11.heap.size, 1, none⟩ = some (.int .u64 P.2) := keep1 hb12 (by simp)
            have BB := bstep (ball BB _) hb12
            replace hints3 := (hints3.keep (ball (Below.refl _ _) _)).keep hb12
            go_wp2_with fail
            refine (all_at _ _ (L.drop k ++ L.take k) n hlt3.symm P.1 P.2 _ (hints3.keep (ball (Below.refl _ _) _)) (by unfold maxLen; omega) OK3.out HQ3.out.symm (by rw [← HQ4.out])).mono ?_
            rintro e w13 ⟨rfl, hb13⟩
            have hlast := keep1 hb13 (old1 hlast _)
            have p1 := keep1 hb13 (old1 p1 _)
            have s1 := keep1 hb13 (old1 s1 _)
            have p2 : w13.cell? ⟨w12.heap.size, 0, none⟩ = some (.int .i64 P.1) := keep1 hb13 (by simp)
            have s2 : w13.cell? ⟨w12.heap.size, 1, none⟩ = some (.int .u64 P.2) := keep1 hb13 (by simp)
            have BB := bstep (ball BB _) hb13
            go_wp2_with fail
            obtain ⟨Z, hZ⟩ : ∃ Z, Z = (w13.alloc (.cells #[.int .i64 P.1, .int .u64 P.2] 24)) := ⟨_, rfl⟩
            replace hlast := (old1 hlast (.cells #[.int .i64 P.1, .int .u64 P.2] 24))
            rw [← hZ] at hlast
            replace p1 := (old1 p1 (.cells #[.int .i64 P.1, .int .u64 P.2] 24))
            rw [← hZ] at p1
            replace s1 := (old1 s1 (.cells #[.int .i64 P.1, .int .u64 P.2] 24))
            rw [← hZ] at s1
            replace p2 := (old1 p2 (.cells #[.int .i64 P.1, .int .u64 P.2] 24))
            rw [← hZ] at p2
            replace s2 := (old1 s2 (.cells #[.int .i64 P.1, .int .u64 P.2] 24))
            rw [← hZ] at s2
            have p3 : Z.cell? ⟨w13.heap.size, 0, none⟩ = some (.int .i64 P.1) := by rw [hZ]; simp
            have s3 : Z.cell? ⟨w13.heap.size, 1, none⟩ = some (.int .u64 P.2) := by rw [hZ]; simp
            have BB := (ball BB (.cells #[.int .i64 P.1, .int .u64 P.2] 24))
            rw [← hZ] at BB ⊢
            clear hZ
            have khlast := cell_regrown hlast
            have kp1 := cell_regrown p1
            have ks1 := cell_regrown s1
            have kp2 := cell_regrown p2
            have ks2 := cell_regrown s2
            have kp3 := cell_regrown p3
            have ks3 := cell_regrown s3
            refine wp_region_quiet_below (by kernel_rfl) (by kernel_rfl) ?_
            repeat (go_big_quiet_step (first
              | (fail)))
            refine wpQuiet_nil ?_
            intro _ hw'
            obtain ⟨⟨dq, osq⟩, hw''⟩ := hw'
            subst hw''
            go_wp2
            go_ret
            exact ⟨rfl, bstep BB (below_regrown Z dq osq)⟩
end Go.Proofs.Ytlofghfdcfpaiaa
