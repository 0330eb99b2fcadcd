/- Proved: that the law GraphTrees of the statements returns true for every input. Conditions: the table and the list lie in memory. -/
import Derived.Test.YtkomgjkeikaigaaG19
import Derived.Test.YtkomgjkeikaigaaBd
namespace Go.Proofs.Ytkomgjkeikaigaa
open Go.RowKit Go.Sort Go.BigFrame
set_option linter.unusedVariables false
set_option linter.unusedSimpArgs false
attribute [local go_sem] cell_alloc_old

def candTo (h : Tab) (d : List Int) (i : Nat) : Nat → List Int
  | 0 => []
  | k + 1 => if hb h i k = true ∧ 0 ≤ at' d k ∧ at' d k < at' d i then candTo h d i k ++ [(k : Int)] else candTo h d i k
def parV (h : Tab) (d c : List Int) (i : Nat) : Int := if candTo h d i h.length = [] then -1 else (candTo h d i h.length).getD (pickV (c.getD i 0) (candTo h d i h.length).length) 0
def parTo (h : Tab) (d c : List Int) : Nat → List Int
  | 0 => []
  | i + 1 => parTo h d c i ++ [parV h d c i]
theorem parTo_len {h : Tab} {d c : List Int} : ∀ i, (parTo h d c i).length = i
  | 0 => rfl
  | i + 1 => by rw [parTo, List.length_append, parTo_len i]; rfl
theorem parTo_at {h : Tab} {d c : List Int} : ∀ (n i : Nat), i < n → (parTo h d c n).getD i 0 = parV h d c i
  | 0, i, hi => absurd hi (Nat.not_lt_zero _)
  | n + 1, i, hi => by
    rw [parTo, List.getD_eq_getElem?_getD]
    by_cases h1 : i < n
    · rw [List.getElem?_append_left (by rw [parTo_len]; exact h1), ← List.getD_eq_getElem?_getD]; exact parTo_at n i h1
    · have : i = n := by omega
      subst this
      rw [List.getElem?_append_right (by rw [parTo_len]; exact Nat.le_refl _), parTo_len, Nat.sub_self]; rfl
theorem candTo_len {h : Tab} {d : List Int} {i : Nat} : ∀ k, (candTo h d i k).length ≤ k
  | 0 => Nat.le_refl _
  | k + 1 => by unfold candTo; have := candTo_len (h := h) (d := d) (i := i) k; split <;> simp <;> omega
theorem candTo_mem {h : Tab} {d : List Int} {i : Nat} : ∀ {k : Nat} {x : Int}, x ∈ candTo h d i k ↔ ∃ j : Nat, j < k ∧ x = j ∧ hb h i j = true ∧ 0 ≤ at' d j ∧ at' d j < at' d i
  | 0, x => by simp [candTo]
  | k + 1, x => by
    unfold candTo
    split
    · rename_i hc
      rw [List.mem_append, candTo_mem, List.mem_singleton]
      constructor
      · rintro (⟨j, h1, h2⟩ | rfl)
        · exact ⟨j, by omega, h2⟩
        · exact ⟨k, by omega, rfl, hc⟩
      · rintro ⟨j, h1, h2, h3⟩
        by_cases e : j = k
        · subst e; exact .inr h2
        · exact .inl ⟨j, by omega, h2, h3⟩
    · rename_i hc
      rw [candTo_mem]
      constructor
      · rintro ⟨j, h1, h2⟩; exact ⟨j, by omega, h2⟩
      · rintro ⟨j, h1, h2, h3⟩
        by_cases e : j = k
        · subst e; exact absurd h3 hc
        · exact ⟨j, by omega, h2, h3⟩
theorem parV_spec {h : Tab} {root : Nat} {d c : List Int} (D : DepthOk h root d) {i : Nat} (hi : i < h.length) : (parV h d c i = -1 ∧ at' d i ≤ 0) ∨ ∃ j : Nat, j < h.length ∧ parV h d c i = j ∧ 0 ≤ at' d j ∧ at' d j < at' d i := by
  unfold parV
  by_cases e : candTo h d i h.length = []
  · left
    rw [if_pos e]
    refine ⟨rfl, Int.not_lt.1 fun hp => ?_⟩
    obtain ⟨k, hk, h1, h2⟩ := D.pred i hi hp
    have : ((k : Nat) : Int) ∈ candTo h d i h.length := candTo_mem.2 ⟨k, hk, rfl, h1, by omega, by omega⟩
    rw [e] at this; cases this
  · right
    rw [if_neg e]
    have hl : 0 < (candTo h d i h.length).length := List.length_pos_iff.2 e
    have hlt := pick_lt (c.getD i 0) hl
    have hm : (candTo h d i h.length).getD (pickV (c.getD i 0) (candTo h d i h.length).length) 0 ∈ candTo h d i h.length := by
      rw [List.getD_eq_getElem?_getD, List.getElem?_eq_getElem hlt]; exact List.getElem_mem _
    obtain ⟨j, h1, h2, h3, h4, h5⟩ := candTo_mem.1 hm
    exact ⟨j, h1, h2, h4, h5⟩
section
variable {h : Tab} {root : Nat} {d c : List Int} (D : DepthOk h root d)
include D
theorem par_step (hr : root < h.length) {i : Nat} (hi : i < h.length) : stepI (parTo h d c h.length) (i : Int) = parV h d c i := by
  have hp : pAt (parTo h d c h.length) ((i : Int).toNat) = parV h d c i := by unfold pAt; rw [Int.toNat_natCast]; exact parTo_at _ i hi
  have hir : inR (parTo h d c h.length) (i : Int) := ⟨by omega, by rw [parTo_len]; omega⟩
  unfold stepI
  rw [hp]
  rcases parV_spec (c := c) D hi with ⟨e, _⟩ | ⟨j, hj, e, _⟩
  · rw [e, if_neg (fun x => by have := x.2.1; omega)]
  · rw [if_pos ⟨hir, by rw [e]; exact ⟨by omega, by rw [parTo_len]; omega⟩⟩]
theorem par_fall (hr : root < h.length) : ∀ i, inR (parTo h d c h.length) i → 0 ≤ stepI (parTo h d c h.length) i → (fun i : Int => at' d i.toNat) (stepI (parTo h d c h.length) i) < (fun i : Int => at' d i.toNat) i := fun i hi h0 => by
  have h1 := hi.1; have h2 := hi.2
  rw [parTo_len] at h2
  have e : ((i.toNat : Nat) : Int) = i := by omega
  have hs := par_step (c := c) D hr (i := i.toNat) (by omega)
  rw [e] at hs
  rw [hs] at h0 ⊢
  rcases parV_spec (c := c) D (i := i.toNat) (by omega) with ⟨e2, _⟩ | ⟨j, hj, e2, _, h4⟩
  · rw [e2] at h0; omega
  · rw [e2]; simpa using h4
theorem par_reach (hr : root < h.length) {i : Nat} (hi : i < h.length) : reachB (parTo h d c h.length) (root : Int) (i : Int) = decide (0 ≤ at' d i) := by
  have hg : inR (parTo h d c h.length) (root : Int) := ⟨by omega, by rw [parTo_len]; omega⟩
  rw [Bool.eq_iff_iff, reach_iff hg, decide_eq_true_eq]
  constructor
  · rintro ⟨k, hk⟩
    cases k with
    | zero =>
      have e : i = root := by have : (i : Int) = root := hk; omega
      rw [e, (D.zero root hr).2 rfl]; exact Int.le_refl _
    | succ k =>
      have hs : inR (parTo h d c h.length) (stepI (parTo h d c h.length) (i : Int)) := itr_back (l := parTo h d c h.length) (i := (i : Int)) (k := k + 1) (by rw [hk]; exact hg) 1 (by omega)
      rw [par_step (c := c) D hr hi] at hs
      rcases parV_spec (c := c) D hi with ⟨e, _⟩ | ⟨j, hj, e, h3, h4⟩
      · rw [e] at hs; exact absurd hs.1 (by omega)
      · omega
  · intro h0
    have key : ∀ (m : Nat) (i : Nat), i < h.length → 0 ≤ at' d i → at' d i ≤ m → ∃ k, itr (parTo h d c h.length) (i : Int) k = root := by
      intro m
      induction m with
      | zero => intro i hi h0 hm; exact ⟨0, by have := (D.zero i hi).1 (by omega); show (i : Int) = root; omega⟩
      | succ m ih =>
        intro i hi h0 hm
        by_cases hz : at' d i = 0
        · exact ⟨0, by have := (D.zero i hi).1 hz; show (i : Int) = root; omega⟩
        · rcases parV_spec (c := c) D hi with ⟨_, h2⟩ | ⟨j, hj, e, h3, h4⟩
          · omega
          · obtain ⟨k, hk⟩ := ih j hj h3 (by omega)
            exact ⟨k + 1, by rw [itr_succ, par_step (c := c) D hr hi, e]; exact hk⟩
    exact key (at' d i).toNat i hi h0 (by omega)
end

set_option maxRecDepth 100000 in
set_option maxHeartbeats 4000000 in
theorem lawTrees (h : Tab) (a : Option Addr) (cap : Nat) (root : Int) (a2 : Option Addr) (cap2 : Nat) (c : List Int) (w : World) (hH : TabAt w a h) (hm : h.length ≤ maxLen) (hC : IntsAt .i64 w a2 c) (hm3 : c.length ≤ maxLen) (hcw : ∀ z ∈ c, (Lit.int .i64 z).wf = true) : Calls Try.prog 9 #[.slice a h.length cap, .int .i64 root, .slice a2 c.length cap2] w (Yes true w) := by
  obtain ⟨n, hn⟩ : ∃ n, n = h.length := ⟨_, rfl⟩
  obtain ⟨q, hq⟩ : ∃ q, q = c.length := ⟨_, rfl⟩
  rw [← hn] at hm ⊢
  rw [← hq] at hm3 ⊢
  have HN := Lib.hid hn; have HQ := Lib.hid hq; clear hn hq
  have hm2 := hm
  unfold maxLen at hm2 hm3
  have HCW := Lib.hid hcw; clear hcw
  cases hv : validB h
  ·
    have HV := Lib.hid hv; clear hv
    go_enter Try.func9, Try.ntmps9
    go_wp2_with fail
    refine (head_any w).mono ?_
    rintro e w1 ⟨rfl, b1⟩
    have BB := b1
    clear b1
    replace hH := hH.keep BB
    go_wp2_with fail
    refine (few_at h n 0 a none cap 0 _ HN.out hH hm (by simp [maxLen])).mono ?_
    rintro e w2 ⟨y, rfl, b2⟩
    replace BB := bstep BB b2
    replace hH := hH.keep b2
    clear b2
    cases y
    ·
      go_wp2_with fail
      refine (rvalid_at h n a cap false w2 HN.out hH hm HV.out).mono ?_
      rintro e w3 ⟨rfl, b3⟩
      replace BB := bstep BB b3
      clear b3
      go_wp2_with fail
      go_ret
      exact ⟨rfl, BB⟩
    ·
      go_wp2_with fail
      refine (rvalid_at h n a cap false w2 HN.out hH hm HV.out).mono ?_
      rintro e w3 ⟨rfl, b3⟩
      replace BB := bstep BB b3
      clear b3
      go_wp2_with fail
      go_ret
      exact ⟨rfl, BB⟩
  ·
    have hV := valid_of hv
    have HV := Lib.hid hv; have HVD := Lib.hid hV
    have h60 : n ≤ 60 := by rw [HN.out]; exact hV.1
    clear hv hV
    by_cases hr : 0 ≤ root ∧ root < (n : Int)
    ·
      obtain ⟨t, rfl⟩ : ∃ t : Nat, root = t := ⟨root.toNat, by omega⟩
      have htn : t < n := by omega
      have ht1 : (t : Int) < (n : Int) := by omega
      have ht0 : (0 : Int) ≤ (t : Int) := by omega
      clear hr
      by_cases hqn : (q : Int) < (n : Int)
      ·
        have hqn2 : decide (q < n) = true := by simp; omega
        go_enter Try.func9, Try.ntmps9
        go_wp2_with fail
        refine (head_any w).mono ?_
        rintro e w1 ⟨rfl, b1⟩
        have BB := b1
        clear b1
        replace hH := hH.keep BB
        go_wp2_with fail
        refine (few_at h n 0 a none cap 0 _ HN.out hH hm (by simp [maxLen])).mono ?_
        rintro e w2 ⟨y, rfl, b2⟩
        replace BB := bstep BB b2
        replace hH := hH.keep b2
        clear b2
        cases y
        ·
          go_wp2_with fail
          refine (rvalid_at h n a cap true w2 HN.out hH hm HV.out).mono ?_
          rintro e w3 ⟨rfl, b3⟩
          replace BB := bstep BB b3
          clear b3
          go_wp2_with fail
          go_ret
          exact ⟨rfl, BB⟩
        ·
          go_wp2_with fail
          refine (rvalid_at h n a cap true w2 HN.out hH hm HV.out).mono ?_
          rintro e w3 ⟨rfl, b3⟩
          replace BB := bstep BB b3
          clear b3
          go_wp2_with fail
          go_ret
          exact ⟨rfl, BB⟩
      ·
        have hqn2 : ¬ q < n := by omega
        have hqn3 : decide (q < n) = false := by simp; omega
        have D := ref_depth HVD.out (root := t) (by rw [← HN.out]; exact htn)
        obtain ⟨d, hd0⟩ : ∃ d, levelTo h (startD h t) (h.length - 1) = d := ⟨_, rfl⟩
        rw [hd0] at D
        have hdl : d.length = n := by rw [D.len, HN.out]
        have DD := Lib.hid D; have HDL := Lib.hid hdl
        clear D hdl hd0
        obtain ⟨i0, hi0z, hz0, hz1, hz2⟩ := info_parts inf3
        go_enter Try.func9, Try.ntmps9
        go_wp2_with fail
        refine (head_any w).mono ?_
        rintro e w1 ⟨rfl, b1⟩
        have BB := b1
        clear b1
        have hH0 := Lib.hid hH
        replace hH := hH.keep BB
        go_wp2_with fail
        refine (few_at h n 0 a none cap 0 _ HN.out hH hm (by simp [maxLen])).mono ?_
        rintro e w2 ⟨y, rfl, b2⟩
        replace BB := bstep BB b2
        replace hH := hH.keep b2
        clear b2
        cases y
        ·
          go_wp2_with fail
          refine (rvalid_at h n a cap true w2 HN.out hH hm HV.out).mono ?_
          rintro e w3 ⟨rfl, b3⟩
          replace hH := hH.keep b3
          replace BB := bstep BB b3
          clear b3
          go_wp2_with fail
          go_ret
          exact ⟨rfl, BB⟩
        ·
          go_wp2_with fail
          refine (rvalid_at h n a cap true w2 HN.out hH hm HV.out).mono ?_
          rintro e w3 ⟨rfl, b3⟩
          replace hH := hH.keep b3
          replace BB := bstep BB b3
          clear b3
          go_wp2_with fail
          refine (depths_at h n a cap t w3 HN.out hH hm d 0 (.inl ⟨okD_true HVD.out (by rw [← HN.out]; exact htn), by rw [Int.toNat_natCast]; exact depth_eq HVD.out DD.out, rfl⟩)).mono ?_
          rintro e w4 ⟨ad, cd, rfl, hd, _, _, b4⟩
          replace BB := bstep BB b4
          clear b4
          clear hH
          rw [HDL.out]
          go_wp2_with fail
          obtain ⟨b, off, rfl, hT⟩ := tab_at hH0.out (i := t) (by rw [← HN.out]; exact htn)
          have HT := Lib.hid hT; clear hT hH0
          have HBW := Lib.hid BB; have HD0 := Lib.hid hd
          obtain ⟨bc, oc, rfl, hcc⟩ := ints_at hC (i := t) (by rw [← HQ.out]; omega)
          have HCC := Lib.hid hcc; clear hcc hC
          go_loopw [12, 13] (fun v j wr => ∃ k : Nat, k ≤ n ∧ j = .int .i64 k ∧ Own .i64 wr w4.heap.size 3 v (parTo h d c k) ∧ Below w4.heap.size w4 wr) (fun _ j _ => n - (intOf j).toNat)
          case atStart => exact ⟨0, Nat.zero_le _, rfl, Own.nil _ _ _ _, Below.refl _ _⟩
          case round =>
            clear BB hd
            obtain ⟨i, hin, rfl, hown, BB0⟩ := hrel
            have hd := HD0.out.keep BB0
            have BB := bstep HBW.out BB0
            by_cases hlt : i < n
            · have hi' : (i : Int) < (n : Int) := by omega
              have hi0 : (0 : Int) ≤ (i : Int) := by omega
              obtain ⟨W, hW⟩ : ∃ W, W = wr := ⟨_, rfl⟩
              rw [← hW] at hown BB BB0 hd ⊢
              clear hW
              have hWw := BB0.size
              have hst : parTo h d c (i + 1) = parTo h d c i ++ [parV h d c i] := rfl
              have hlp := parTo_len (h := h) (d := d) (c := c) i
              obtain ⟨ps, hps⟩ : ∃ ps, parTo h d c i = ps := ⟨_, rfl⟩
              rw [hps] at hst hlp hown
              have HST := Lib.hid hst; have HLP := Lib.hid hlp
              clear hst hlp hps
              go_wp2_with fail
              go_loopw [14, 15] (fun v j wz => ∃ k : Nat, k ≤ n ∧ j = .int .i64 k ∧ Own .i64 wz W.heap.size 3 v (candTo h d i k) ∧ Below W.heap.size W wz) (fun _ j _ => n - (intOf j).toNat)
              case atStart => exact ⟨0, Nat.zero_le _, rfl, Own.nil _ _ _ _, Below.refl _ _⟩
              case round =>
                obtain ⟨k, hkn, rfl, hown2, B2⟩ := hrel
                have hB2' := B2.size
                have B3 := bstep BB B2
                have B30 := bstep BB0 B2
                have hB30 := B30.size
                by_cases hlt2 : k < n
                · have hk' : (k : Int) < (n : Int) := by omega
                  have hk0 : (0 : Int) ≤ (k : Int) := by omega
                  obtain ⟨rb, roff, rc, d1, d2⟩ := row_cell HT.out B3 (i := i) (k := k) (by rw [← HN.out]; exact hlt) (by rw [HVD.out.2.1 i (by rw [← HN.out]; exact hlt), ← HN.out]; exact hlt2)
                  rw [HVD.out.2.1 i (by rw [← HN.out]; exact hlt), ← HN.out] at d1
                  obtain ⟨b1, o1, ha1, hc⟩ := ints_at hd (i := i) (by rw [HDL.out]; exact hlt)
                  have HA1 := Lib.hid ha1
                  have ci : wr.cell? ⟨b1, o1 + i, none⟩ = some (.int .i64 (at' d i)) := keep1 B2 (hc i (by rw [HDL.out]; exact hlt))
                  have ck : wr.cell? ⟨b1, o1 + k, none⟩ = some (.int .i64 (at' d k)) := keep1 B2 (hc k (by rw [HDL.out]; exact hlt2))
                  have hst2 : candTo h d i (k + 1) = if hb h i k = true ∧ 0 ≤ at' d k ∧ at' d k < at' d i then candTo h d i k ++ [(k : Int)] else candTo h d i k := rfl
                  have hlc := candTo_len (h := h) (d := d) (i := i) k
                  obtain ⟨cs, hcs⟩ : ∃ cs, candTo h d i k = cs := ⟨_, rfl⟩
                  obtain ⟨x, hx⟩ : ∃ x, at' d i = x := ⟨_, rfl⟩
                  obtain ⟨z, hz⟩ : ∃ z, at' d k = z := ⟨_, rfl⟩
                  obtain ⟨u, hu⟩ : ∃ u, hb h i k = u := ⟨_, rfl⟩
                  rw [hcs, hx, hz, hu] at hst2
                  rw [hcs] at hown2 hlc
                  rw [hx] at ci; rw [hz] at ck; rw [hu] at d2
                  have HST2 := Lib.hid hst2; have HLC := Lib.hid hlc
                  have kci := cell_regrown ci; have kck := cell_regrown ck; have kd1 := cell_regrown d1; have kd2 := cell_regrown d2
                  clear hcs hx hz hu hst2 hlc hc
                  subst ha1
                  cases u
                  ·
                    go_wp2_with fail
                    refine wp_region_quiet_below (by kernel_rfl) (by kernel_rfl) ?_
                    repeat (go_big_quiet_step (fail))
                    refine wpQuiet_nil ?_
                    intro _ hw'
                    obtain ⟨⟨dq, osq⟩, hw''⟩ := hw'
                    subst hw''
                    have bq := below_regrown wr dq osq
                    replace B2 := bstep B2 bq; replace hown2 := hown2.keep bq
                    obtain ⟨WW, hWW⟩ : ∃ W, grow (redrawn wr dq) osq = W := ⟨_, rfl⟩
                    rw [hWW] at B2 hown2 ⊢
                    clear hWW bq dq osq ci ck kci kck d1 d2 kd1 kd2
                    go_wp2_with fail
                    go_roundw
                    case rel => exact ⟨k + 1, by omega, by go_num, by rw [HST2.out, if_neg (fun hh => by cases hh.1)]; exact hown2, B2⟩
                    case measure => simp [intOf]; omega
                  ·
                    by_cases hzn : 0 ≤ z
                    ·
                      have e1 : decide (0 ≤ z) = true := by simp [hzn]
                      by_cases hzx : z < x
                      ·
                        have e2 : decide (z < x) = true := by simp [hzx]
                        go_wp2_with fail
                        refine wp_region_quiet_below (by kernel_rfl) (by kernel_rfl) ?_
                        repeat (go_big_quiet_step (fail))
                        refine wpQuiet_nil ?_
                        intro _ hw'
                        obtain ⟨⟨dq, osq⟩, hw''⟩ := hw'
                        subst hw''
                        have bq := below_regrown wr dq osq
                        replace B2 := bstep B2 bq; replace hown2 := hown2.keep bq
                        obtain ⟨WW, hWW⟩ : ∃ W, grow (redrawn wr dq) osq = W := ⟨_, rfl⟩
                        rw [hWW] at B2 hown2 ⊢
                        clear hWW bq dq osq ci ck kci kck d1 d2 kd1 kd2
                        have hBW := B2.size
                        go_wp2_with (first
                          | (at_builtin; refine wpList_append_own _ rfl _ _ 23 rfl W.heap.size 3 i0 (.int .i64 0) 1 8 Try.underlying23 hi0z hz0 hz1 hz2 rfl (by decide) _ _ _ rfl (World.ownsRow.alloc hown2 _) ⟨WW.heap.size, 0, none⟩ 1 1 [.int .i64 k] rfl rfl (one_new _ _ _) (one_int _ _) (by have := HLC.out; unfold maxLen; omega) (by have := HLC.out; omega) (by simp; omega) ?_; intro v' w9 hown' hgrow _))
                        have hB9 := grown_below B2 hown2 (Nat.le_refl _) hgrow
                        have hown9 := Own.push hown'
                        clear hown' hgrow
                        go_wp2
                        go_roundw
                        case rel => exact ⟨k + 1, by omega, by go_num, by rw [HST2.out]; rw [if_pos (by simp [hzn, hzx])]; exact hown9, hB9⟩
                        case measure => simp [intOf]; omega
                      ·
                        have e2 : decide (z < x) = false := by simp; omega
                        go_wp2_with fail
                        refine wp_region_quiet_below (by kernel_rfl) (by kernel_rfl) ?_
                        repeat (go_big_quiet_step (fail))
                        refine wpQuiet_nil ?_
                        intro _ hw'
                        obtain ⟨⟨dq, osq⟩, hw''⟩ := hw'
                        subst hw''
                        have bq := below_regrown wr dq osq
                        replace B2 := bstep B2 bq; replace hown2 := hown2.keep bq
                        obtain ⟨WW, hWW⟩ : ∃ W, grow (redrawn wr dq) osq = W := ⟨_, rfl⟩
                        rw [hWW] at B2 hown2 ⊢
                        clear hWW bq dq osq ci ck kci kck d1 d2 kd1 kd2
                        go_wp2_with fail
                        go_roundw
                        case rel => exact ⟨k + 1, by omega, by go_num, by rw [HST2.out, if_neg (fun hh => by have h1 := hh.2.1; have h2 := hh.2.2; omega)]; exact hown2, B2⟩
                        case measure => simp [intOf]; omega
                    ·
                      have e1 : decide (0 ≤ z) = false := by simp; omega
                      go_wp2_with fail
                      refine wp_region_quiet_below (by kernel_rfl) (by kernel_rfl) ?_
                      repeat (go_big_quiet_step (fail))
                      refine wpQuiet_nil ?_
                      intro _ hw'
                      obtain ⟨⟨dq, osq⟩, hw''⟩ := hw'
                      subst hw''
                      have bq := below_regrown wr dq osq
                      replace B2 := bstep B2 bq; replace hown2 := hown2.keep bq
                      obtain ⟨WW, hWW⟩ : ∃ W, grow (redrawn wr dq) osq = W := ⟨_, rfl⟩
                      rw [hWW] at B2 hown2 ⊢
                      clear hWW bq dq osq ci ck kci kck d1 d2 kd1 kd2
                      go_wp2_with fail
                      go_roundw
                      case rel => exact ⟨k + 1, by omega, by go_num, by rw [HST2.out, if_neg (fun hh => by have h1 := hh.2.1; omega)]; exact hown2, B2⟩
                      case measure => simp [intOf]; omega
                ·
                  have hkn2 : k = h.length := by rw [← HN.out]; omega
                  have hlt3 : ¬ (k : Int) < (n : Int) := by omega
                  have hpv : parV h d c i = if candTo h d i k = [] then -1 else (candTo h d i k).getD (pickV (c.getD i 0) (candTo h d i k).length) 0 := by rw [hkn2]; rfl
                  have hlc := candTo_len (h := h) (d := d) (i := i) k
                  obtain ⟨cs, hcs⟩ : ∃ cs, candTo h d i k = cs := ⟨_, rfl⟩
                  rw [hcs] at hpv hown2 hlc
                  have HPV := Lib.hid hpv; have HK := Lib.hid hkn2
                  replace hd := hd.keep B2
                  replace hown := hown.keep B2
                  clear hpv hcs hkn2 hlt2
                  obtain ⟨m, hmm⟩ : ∃ m, cs.length = m := ⟨_, rfl⟩
                  rw [hmm] at hlc
                  have HMM := Lib.hid hmm
                  obtain ⟨al, cl, rfl, hil, hlcl, hcml⟩ := hown2.shape
                  rw [hmm] at hlcl hown2 ⊢
                  clear hmm
                  by_cases hm0 : m = 0
                  ·
                    have hcn : cs = [] := List.length_eq_zero_iff.1 (by rw [HMM.out]; exact hm0)
                    have HCN := Lib.hid hcn; clear hcn
                    have e1 : ((m : Int) == 0) = true := by simp [hm0]
                    have HM0 := Lib.hid hm0; clear hm0
                    go_wp2_with (first
                      | (at_builtin; refine wpList_append_own _ rfl _ _ 23 rfl w4.heap.size 3 i0 (.int .i64 0) 1 8 Try.underlying23 hi0z hz0 hz1 hz2 rfl (by decide) _ _ _ rfl (World.ownsRow.alloc hown _) ⟨wr.heap.size, 0, none⟩ 1 1 [.int .i64 (-1)] rfl rfl (one_new _ _ _) (one_int _ _) (by have := HLP.out; unfold maxLen; omega) (by have := HLP.out; omega) (by simp; omega) ?_; intro v' w9 hown' hgrow _))
                    have hB9 := grown_below B30 hown (Nat.le_refl _) hgrow
                    have hown9 := Own.push hown'
                    clear hown' hgrow
                    go_wp2
                    go_roundw
                    case rel => exact ⟨i + 1, by omega, by go_num, by rw [HST.out, HPV.out, if_pos HCN.out]; exact hown9, hB9⟩
                    case measure => simp [intOf]; omega
                  ·
                    have hcn : ¬ cs = [] := fun e => hm0 (by rw [← HMM.out, e]; rfl)
                    have HCN := Lib.hid hcn; clear hcn
                    have e1 : ((m : Int) == 0) = false := by simp; omega
                    have hci : c.getD i 0 ∈ c := by rw [List.getD_eq_getElem?_getD, List.getElem?_eq_getElem (by rw [← HQ.out]; omega)]; exact List.getElem_mem _
                    have hcb := i64_bd (HCW.out _ hci)
                    have cc : wr.cell? ⟨bc, oc + i, none⟩ = some (.int .i64 (c.getD i 0)) := keep1 B3 (HCC.out i (by rw [← HQ.out]; omega))
                    have hiq : (i : Int) < (q : Int) := by omega
                    obtain ⟨ch, hch⟩ : ∃ ch, c.getD i 0 = ch := ⟨_, rfl⟩
                    rw [hch] at cc hcb
                    obtain ⟨g, hg⟩ : ∃ g, pickV ch m = g := ⟨_, rfl⟩
                    have hgm : g < m := by rw [← hg]; exact pick_lt ch (by omega)
                    obtain ⟨b5, o5, ha5, hc5⟩ := ints_at hil (i := g) (by rw [HMM.out]; exact hgm)
                    have cg := hc5 g (by rw [HMM.out]; exact hgm)
                    obtain ⟨pv, hpv⟩ : ∃ pv, cs.getD g 0 = pv := ⟨_, rfl⟩
                    rw [hpv] at cg
                    have hgm1 : (g : Int) < (m : Int) := by omega
                    have hg0 : (0 : Int) ≤ (g : Int) := by omega
                    have HG := Lib.hid hg; have HCH := Lib.hid hch; have HPG := Lib.hid hpv
                    have hPV2 : parV h d c i = pv := by rw [HPV.out, if_neg HCN.out, HMM.out, HCH.out, HG.out, HPG.out]
                    have HPV2 := Lib.hid hPV2
                    clear hg hch hc5 hpv hci hPV2
                    subst ha5
                    go_wp2_with fail
                    refine (pick_at ch m g _ (by omega) hcb.1 hcb.2 (by unfold maxLen; omega) HG.out).mono ?_
                    rintro e w8 ⟨rfl, b8⟩
                    replace cg := keep1 b8 cg
                    replace hd := hd.keep b8; replace hown := hown.keep b8
                    replace B3 := bstep B3 b8
                    replace B30 := bstep B30 b8
                    clear cc b8
                    have hB8 := B30.size
                    go_wp2_with (first
                      | (at_builtin; refine wpList_append_own _ rfl _ _ 23 rfl w4.heap.size 3 i0 (.int .i64 0) 1 8 Try.underlying23 hi0z hz0 hz1 hz2 rfl (by decide) _ _ _ rfl (World.ownsRow.alloc hown _) ⟨w8.heap.size, 0, none⟩ 1 1 [.int .i64 pv] rfl rfl (one_new _ _ _) (one_int _ _) (by have := HLP.out; unfold maxLen; omega) (by have := HLP.out; omega) (by simp; omega) ?_; intro v' w9 hown' hgrow _))
                    have hB9 := grown_below B30 hown (Nat.le_refl _) hgrow
                    have hown9 := Own.push hown'
                    clear hown' hgrow
                    go_wp2
                    go_roundw
                    case rel => exact ⟨i + 1, by omega, by go_num, by rw [HST.out, HPV2.out]; exact hown9, hB9⟩
                    case measure => simp [intOf]; omega
            · have hlt3 : ¬ (i : Int) < (n : Int) := by omega
              have hie : i = h.length := by rw [← HN.out]; omega
              have hie2 : n = i := by omega
              have HIE := Lib.hid hie; have HIE2 := Lib.hid hie2
              obtain ⟨ap, cp, rfl, hips, _, hcmp⟩ := hown.shape
              have hsz9 := BB0.size
              have hlp := parTo_len (h := h) (d := d) (c := c) i
              obtain ⟨ps, hps⟩ : ∃ ps, parTo h d c i = ps := ⟨_, rfl⟩
              rw [hps] at hips hlp ⊢
              have hps2 : parTo h d c h.length = ps := by rw [← hie]; exact hps
              have hpn : n = ps.length := by rw [hlp]; omega
              rw [← hpn]
              have hfall := par_fall (c := c) DD.out (by rw [← HN.out]; exact htn)
              have hreach := fun (j : Nat) (hj : j < h.length) => par_reach (c := c) DD.out (by rw [← HN.out]; exact htn) hj
              rw [hps2] at hfall hreach
              have hl60 : ps.length ≤ 60 := by rw [← hpn]; exact h60
              have HPN := Lib.hid hpn; have HFALL := Lib.hid hfall; have HRE := Lib.hid hreach; have HL60 := Lib.hid hl60
              clear hie hie2 hown hps hps2 hpn hfall hreach hl60 hlp hlt
              go_wp2_with fail
              refine (reaches_at ps n ap cp t wr HPN.out hips hm).mono ?_
              rintro e w96 ⟨ar, cr, rfl, hR, _, _, b96⟩
              replace hd := hd.keep b96
              replace hips := hips.keep b96
              replace BB := bstep BB b96
              clear b96
              have hlr : (reachL ps (t : Int)).length = n := by rw [reachL_len HL60.out, HPN.out]
              rw [hlr]
              go_wp2_with fail
              refine (loop_at ps n ap cp w96 HPN.out hips hm).mono ?_
              rintro e w97 ⟨al, cl, rfl, _, _, _, b97⟩
              replace hd := hd.keep b97
              replace hips := hips.keep b97
              replace hR := hR.keep b97
              replace BB := bstep BB b97
              clear b97
              rw [fall_loop HFALL.out]
              go_wp2_with fail
              have HLR := Lib.hid hlr; clear hlr
              go_loopw [7, 17] (fun u j wr => ∃ k : Nat, k ≤ n ∧ j = .int .i64 k ∧ u = .bool true ∧ Below w.heap.size w wr ∧ IntsAt .i64 wr ad d ∧ BoolsAt wr ar (reachL ps (t : Int))) (fun _ j _ => n - (intOf j).toNat)
              case atStart => exact ⟨0, Nat.zero_le _, rfl, rfl, BB, hd, hR⟩
              case round =>
                clear BB hd hR
                obtain ⟨k, hkn, rfl, rfl, BB, hd, hR⟩ := hrel
                by_cases hlt4 : k < n
                · have hk' : (k : Int) < (n : Int) := by omega
                  have hk0 : (0 : Int) ≤ (k : Int) := by omega
                  obtain ⟨b1, o1, ha1, hc1⟩ := ints_at hd (i := k) (by rw [HDL.out]; exact hlt4)
                  obtain ⟨b3, o3, ha3, hc3⟩ := bools_at hR (i := k) (by rw [HLR.out]; exact hlt4)
                  have ck : wr.cell? ⟨b1, o1 + k, none⟩ = some (.int .i64 (at' d k)) := hc1 k (by rw [HDL.out]; exact hlt4)
                  have dk := hc3 k (by rw [HLR.out]; exact hlt4)
                  have hval : (reachL ps (t : Int)).getD k false = decide (0 ≤ at' d k) := by
                    rw [reachL_at HL60.out (by rw [← HPN.out]; exact hlt4), decide_eq_true (show inR ps (t : Int) from ⟨ht0, by rw [← HPN.out]; exact ht1⟩), Bool.true_and]
                    exact HRE.out k (by rw [← HN.out]; exact hlt4)
                  rw [hval] at dk
                  obtain ⟨x, hx⟩ : ∃ x, at' d k = x := ⟨_, rfl⟩
                  rw [hx] at ck dk
                  obtain ⟨v, hv⟩ : ∃ v, decide (0 ≤ x) = v := ⟨_, rfl⟩
                  rw [hv] at dk
                  have kck := cell_regrown ck; have kdk := cell_regrown dk
                  clear hc1 hc3 hx hval
                  subst ha1 ha3
                  go_wp2_with fail
                  refine wp_region_quiet_below (by kernel_rfl) (by kernel_rfl) ?_
                  repeat (go_big_quiet_step (fail))
                  refine wpQuiet_nil ?_
                  intro _ hw'
                  obtain ⟨⟨dq, osq⟩, hw''⟩ := hw'
                  subst hw''
                  have bq := below_regrown wr dq osq
                  go_wp2_with fail
                  go_roundw
                  case rel => exact ⟨k + 1, by omega, by go_num, by first | rfl | simp, bstep BB bq, hd.keep bq, hR.keep bq⟩
                  case measure => simp [intOf]; omega
                · have hlt5 : ¬ (k : Int) < (n : Int) := by omega
                  go_wp2_with fail
                  go_ret
                  exact ⟨rfl, BB⟩
    ·
      by_cases hr0 : 0 ≤ root
      ·
        have hrn : ¬ root < (n : Int) := fun h2 => hr ⟨hr0, h2⟩
        clear hr
        go_enter Try.func9, Try.ntmps9
        go_wp2_with fail
        refine (head_any w).mono ?_
        rintro e w1 ⟨rfl, b1⟩
        have BB := b1
        clear b1
        replace hH := hH.keep BB
        go_wp2_with fail
        refine (few_at h n 0 a none cap 0 _ HN.out hH hm (by simp [maxLen])).mono ?_
        rintro e w2 ⟨y, rfl, b2⟩
        replace BB := bstep BB b2
        replace hH := hH.keep b2
        clear b2
        cases y
        ·
          go_wp2_with fail
          refine (rvalid_at h n a cap true w2 HN.out hH hm HV.out).mono ?_
          rintro e w3 ⟨rfl, b3⟩
          replace BB := bstep BB b3
          clear b3
          go_wp2_with fail
          go_ret
          exact ⟨rfl, BB⟩
        ·
          go_wp2_with fail
          refine (rvalid_at h n a cap true w2 HN.out hH hm HV.out).mono ?_
          rintro e w3 ⟨rfl, b3⟩
          replace BB := bstep BB b3
          clear b3
          go_wp2_with fail
          go_ret
          exact ⟨rfl, BB⟩
      ·
        clear hr
        go_enter Try.func9, Try.ntmps9
        go_wp2_with fail
        refine (head_any w).mono ?_
        rintro e w1 ⟨rfl, b1⟩
        have BB := b1
        clear b1
        replace hH := hH.keep BB
        go_wp2_with fail
        refine (few_at h n 0 a none cap 0 _ HN.out hH hm (by simp [maxLen])).mono ?_
        rintro e w2 ⟨y, rfl, b2⟩
        replace BB := bstep BB b2
        replace hH := hH.keep b2
        clear b2
        cases y
        ·
          go_wp2_with fail
          refine (rvalid_at h n a cap true w2 HN.out hH hm HV.out).mono ?_
          rintro e w3 ⟨rfl, b3⟩
          replace BB := bstep BB b3
          clear b3
          go_wp2_with fail
          go_ret
          exact ⟨rfl, BB⟩
        ·
          go_wp2_with fail
          refine (rvalid_at h n a cap true w2 HN.out hH hm HV.out).mono ?_
          rintro e w3 ⟨rfl, b3⟩
          replace BB := bstep BB b3
          clear b3
          go_wp2_with fail
          go_ret
          exact ⟨rfl, BB⟩
end Go.Proofs.Ytkomgjkeikaigaa
