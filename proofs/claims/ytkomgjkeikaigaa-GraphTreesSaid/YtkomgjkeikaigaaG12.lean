/- Proved: that the law GraphMatchesReference of the statements returns true for every input. Conditions: the table and the list lie in memory. -/
import Derived.Test.YtkomgjkeikaigaaG11
namespace Go.Proofs.Ytkomgjkeikaigaa
open Go.RowKit Go.Sort Go.BigFrame
set_option linter.unusedVariables false
set_option linter.unusedSimpArgs false
attribute [local go_sem] cell_alloc_old

set_option maxRecDepth 100000 in
set_option maxHeartbeats 4000000 in
theorem matches_any (h : Tab) (n k : Nat) (a b : Option Addr) (cap cap2 : Nat) (l : List Int) (root : Int) (w : World) (hn : Hid (n = h.length)) (hk : Hid (k = l.length)) (hH : TabAt w a h) (hP : IntsAt .i64 w b l) (hm : n ≤ maxLen) (hm2 : k ≤ maxLen) (o : List Int) (er : Int) (ho : Hid ((okD h root = true ∧ depthV h root.toNat = o ∧ er = 0) ∨ (okD h root = false ∧ o = [] ∧ er = 1))) (o2 : List Int) (er2 : Int) (ho2 : Hid ((validB h = true ∧ isleV h = o2 ∧ er2 = 0) ∨ (validB h = false ∧ o2 = [] ∧ er2 = 1))) (hol : o.length ≤ maxLen) (hol2 : o2.length ≤ maxLen) : Calls Try.prog 3 #[.slice a n cap, .slice b k cap2, .int .i64 root] w (Yes true w) := by
  go_enter Try.func3, Try.ntmps3
  go_wp2_with fail
  refine (head_any w).mono ?_
  rintro e w1 ⟨rfl, b1⟩
  replace hH := hH.keep b1
  replace hP := hP.keep b1
  have BB := b1
  clear b1
  go_wp2_with fail
  refine (few_at h n k a b cap cap2 _ hn.out hH hm hm2).mono ?_
  rintro e w2 ⟨y, rfl, b2⟩
  replace hH := hH.keep b2
  replace hP := hP.keep b2
  replace BB := bstep BB b2
  clear b2
  cases y
  ·
    go_wp2_with fail
    go_ret
    exact ⟨rfl, BB⟩
  ·
    go_wp2_with fail
    refine (depths_at h n a cap root w2 hn.out hH hm o er ho.out).mono ?_
    rintro e w3 ⟨a1, c1, rfl, h1, _, m1, b3⟩
    replace hH := hH.keep b3
    replace hP := hP.keep b3
    replace BB := bstep BB b3
    clear b3
    go_wp2_with fail
    refine (rdepths_at h n a cap root w3 hn.out hH hm o er ho.out).mono ?_
    rintro e w4 ⟨a2, c2, rfl, h2, _, m2, b4⟩
    replace hH := hH.keep b4
    replace hP := hP.keep b4
    replace h1 := h1.keep b4
    replace BB := bstep BB b4
    clear b4
    go_wp2_with fail
    refine (isles_at h n a cap w4 hn.out hH hm o2 er2 ho2.out).mono ?_
    rintro e w5 ⟨a3, c3, rfl, h3, _, m3, b5⟩
    replace hH := hH.keep b5
    replace hP := hP.keep b5
    replace h1 := h1.keep b5
    replace h2 := h2.keep b5
    replace BB := bstep BB b5
    clear b5
    go_wp2_with fail
    refine (risles_at h n a cap w5 hn.out hH hm o2 er2 ho2.out).mono ?_
    rintro e w6 ⟨a4, c4, rfl, h4, _, m4, b6⟩
    replace hH := hH.keep b6
    replace hP := hP.keep b6
    replace h1 := h1.keep b6
    replace h2 := h2.keep b6
    replace h3 := h3.keep b6
    replace BB := bstep BB b6
    clear b6
    go_wp2_with fail
    refine (ints_eq_at o o _ _ a1 a2 _ _ true w6 rfl rfl h1 h2 hol (by simp)).mono ?_
    rintro e w7 ⟨rfl, b7⟩
    replace hH := hH.keep b7
    replace hP := hP.keep b7
    replace h1 := h1.keep b7
    replace h2 := h2.keep b7
    replace h3 := h3.keep b7
    replace h4 := h4.keep b7
    replace BB := bstep BB b7
    clear b7
    go_wp2_with fail
    refine (ints_eq_at o2 o2 _ _ a3 a4 _ _ true w7 rfl rfl h3 h4 hol2 (by simp)).mono ?_
    rintro e w8 ⟨rfl, b8⟩
    replace hH := hH.keep b8
    replace hP := hP.keep b8
    replace h1 := h1.keep b8
    replace h2 := h2.keep b8
    replace h3 := h3.keep b8
    replace h4 := h4.keep b8
    replace BB := bstep BB b8
    clear b8
    go_wp2_with fail
    refine (loop_at l k b cap2 w8 hk.out hP hm2).mono ?_
    rintro e w9 ⟨a5, c5, rfl, h5, _, m5, b9⟩
    replace hH := hH.keep b9
    replace hP := hP.keep b9
    replace h1 := h1.keep b9
    replace h2 := h2.keep b9
    replace h3 := h3.keep b9
    replace h4 := h4.keep b9
    replace BB := bstep BB b9
    clear b9
    go_wp2_with fail
    refine (rloop_at l k b cap2 w9 hk.out hP hm2).mono ?_
    rintro e w10 ⟨a6, c6, rfl, h6, _, m6, b10⟩
    replace hH := hH.keep b10
    replace hP := hP.keep b10
    replace h1 := h1.keep b10
    replace h2 := h2.keep b10
    replace h3 := h3.keep b10
    replace h4 := h4.keep b10
    replace h5 := h5.keep b10
    replace BB := bstep BB b10
    clear b10
    go_wp2_with fail
    refine (ints_eq_at (loopL l) (loopL l) _ _ a5 a6 _ _ true w10 rfl rfl h5 h6 (by unfold loopL; split; have := loopTo_len (l := l) l.length; (unfold maxLen; omega); simp [maxLen]) (by simp)).mono ?_
    rintro e w11 ⟨rfl, b11⟩
    replace hH := hH.keep b11
    replace hP := hP.keep b11
    replace h1 := h1.keep b11
    replace h2 := h2.keep b11
    replace h3 := h3.keep b11
    replace h4 := h4.keep b11
    replace h5 := h5.keep b11
    replace h6 := h6.keep b11
    replace BB := bstep BB b11
    clear b11
    go_wp2_with fail
    refine (reaches_at l k b cap2 root w11 hk.out hP hm2).mono ?_
    rintro e w12 ⟨a7, c7, rfl, h7, _, m7, b12⟩
    replace hH := hH.keep b12
    replace hP := hP.keep b12
    replace h1 := h1.keep b12
    replace h2 := h2.keep b12
    replace h3 := h3.keep b12
    replace h4 := h4.keep b12
    replace h5 := h5.keep b12
    replace h6 := h6.keep b12
    replace BB := bstep BB b12
    clear b12
    go_wp2_with fail
    refine (rreach_at l k b cap2 root w12 hk.out hP hm2).mono ?_
    rintro e w13 ⟨a8, c8, rfl, h8, _, m8, b13⟩
    replace hH := hH.keep b13
    replace hP := hP.keep b13
    replace h1 := h1.keep b13
    replace h2 := h2.keep b13
    replace h3 := h3.keep b13
    replace h4 := h4.keep b13
    replace h5 := h5.keep b13
    replace h6 := h6.keep b13
    replace h7 := h7.keep b13
    replace BB := bstep BB b13
    clear b13
    go_wp2_with fail
    refine (bools_eq_at (reachL l root) (reachL l root) _ _ a7 a8 _ _ true w13 rfl rfl h7 h8 (by unfold reachL; split <;> simp [maxLen] <;> omega) (by simp)).mono ?_
    rintro e w14 ⟨rfl, b14⟩
    replace hH := hH.keep b14
    replace hP := hP.keep b14
    replace h1 := h1.keep b14
    replace h2 := h2.keep b14
    replace h3 := h3.keep b14
    replace h4 := h4.keep b14
    replace h5 := h5.keep b14
    replace h6 := h6.keep b14
    replace h7 := h7.keep b14
    replace h8 := h8.keep b14
    replace BB := bstep BB b14
    clear b14
    go_wp2_with fail
    go_ret
    exact ⟨rfl, BB⟩
theorem depth_len {h : Tab} {root : Int} (ho : okD h root = true) : (depthV h root.toNat).length ≤ maxLen := by
  unfold okD at ho
  simp only [Bool.and_eq_true, decide_eq_true_eq] at ho
  have hv := valid_of ho.1
  have D := ref_depth hv (root := root.toNat) (by omega)
  rw [depth_eq hv D, D.len]
  have := hv.1
  unfold maxLen; omega
theorem isle_len {h : Tab} (ho : validB h = true) : (isleV h).length ≤ maxLen := by
  have hv := valid_of ho
  have D := ref_isle hv
  rw [isle_eq hv D, D.len]
  have := hv.1
  unfold maxLen; omega
theorem lawMatches (h : Tab) (a b : Option Addr) (cap cap2 : Nat) (l : List Int) (root : Int) (w : World) (hH : TabAt w a h) (hP : IntsAt .i64 w b l) (hm : h.length ≤ maxLen) (hm2 : l.length ≤ maxLen) : Calls Try.prog 3 #[.slice a h.length cap, .slice b l.length cap2, .int .i64 root] w (Yes true w) := by
  cases ho : okD h root <;> cases hv : validB h
  · exact matches_any h _ _ a b cap cap2 l root w (Lib.hid rfl) (Lib.hid rfl) hH hP hm hm2 [] 1 (Lib.hid (.inr ⟨ho, rfl, rfl⟩)) [] 1 (Lib.hid (.inr ⟨hv, rfl, rfl⟩)) (by simp [maxLen]) (by simp [maxLen])
  · exact matches_any h _ _ a b cap cap2 l root w (Lib.hid rfl) (Lib.hid rfl) hH hP hm hm2 [] 1 (Lib.hid (.inr ⟨ho, rfl, rfl⟩)) _ 0 (Lib.hid (.inl ⟨hv, rfl, rfl⟩)) (by simp [maxLen]) (isle_len hv)
  · exact matches_any h _ _ a b cap cap2 l root w (Lib.hid rfl) (Lib.hid rfl) hH hP hm hm2 _ 0 (Lib.hid (.inl ⟨ho, rfl, rfl⟩)) [] 1 (Lib.hid (.inr ⟨hv, rfl, rfl⟩)) (depth_len ho) (by simp [maxLen])
  · exact matches_any h _ _ a b cap cap2 l root w (Lib.hid rfl) (Lib.hid rfl) hH hP hm hm2 _ 0 (Lib.hid (.inl ⟨ho, rfl, rfl⟩)) _ 0 (Lib.hid (.inl ⟨hv, rfl, rfl⟩)) (depth_len ho) (isle_len hv)
end Go.Proofs.Ytkomgjkeikaigaa
