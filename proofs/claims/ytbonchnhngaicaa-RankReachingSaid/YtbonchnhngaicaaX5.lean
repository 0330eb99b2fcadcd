/- Proved: what rank.first returns for the two function values of Choose. Conditions: the list lies in memory; its offers are valid. -/
import Derived.Test.YtbonchnhngaicaaX4
namespace Go.Proofs.Ytbonchnhngaicaa
open Go.RowKit Go.Sort Go.BigFrame
set_option linter.unusedVariables false
set_option linter.unusedSimpArgs false
attribute [local go_sem] cell_alloc_old

def bestV (r : Rt) (l : List Ofr) (k : Nat) : Ofr := if bestTo r l k < 0 then ⟨0, ⟨0, 0⟩, 0⟩ else l.getD (bestTo r l k).toNat default
theorem best_take {r : Rt} {l : List Ofr} {k : Nat} (hp : possB r (l.getD k default) = true) (h : bestTo r l k < 0 ∨ beforeB (l.getD k default) (bestV r l k) = true) : bestV r l (k + 1) = l.getD k default ∧ decide (0 ≤ bestTo r l (k + 1)) = true := by
  have e : bestTo r l (k + 1) = k := by
    have hc : bestTo r l k < 0 ∨ beforeB (l.getD k default) (l.getD (bestTo r l k).toNat default) = true := by
      rcases h with h | h
      · exact .inl h
      · by_cases hb : bestTo r l k < 0
        · exact .inl hb
        · right; unfold bestV at h; rw [if_neg hb] at h; exact h
    exact if_pos ⟨hp, hc⟩
  refine ⟨?_, by rw [e]; simp⟩
  unfold bestV; rw [e, if_neg (by omega)]; simp
theorem best_skip {r : Rt} {l : List Ofr} {k : Nat} (h : possB r (l.getD k default) = false ∨ (0 ≤ bestTo r l k ∧ beforeB (l.getD k default) (bestV r l k) = false)) : bestV r l (k + 1) = bestV r l k ∧ decide (0 ≤ bestTo r l (k + 1)) = decide (0 ≤ bestTo r l k) := by
  have e : bestTo r l (k + 1) = bestTo r l k := by
    conv => lhs; unfold bestTo
    rw [if_neg]
    rintro ⟨h1, h2⟩
    rcases h with h | ⟨h3, h4⟩
    · rw [h] at h1; cases h1
    · rcases h2 with h2 | h2
      · omega
      · unfold bestV at h4; rw [if_neg (by omega), h2] at h4; cases h4
  exact ⟨by unfold bestV; rw [e], by rw [e]⟩
theorem bestV_mem {r : Rt} {l : List Ofr} {k : Nat} (hk : k ≤ l.length) (h : 0 ≤ bestTo r l k) : bestV r l k ∈ l := by
  rcases best_spec r l k with ⟨h1, _⟩ | ⟨b, h1, hb, _⟩
  · omega
  · unfold bestV; rw [if_neg (by omega), h1]
    rw [List.getD_eq_getElem?_getD, Int.toNat_natCast, List.getElem?_eq_getElem (by omega)]
    exact List.getElem_mem _
theorem off_bd {o : Ofr} (h : offB o = true) : 0 ≤ o.p ∧ o.p ≤ 59 ∧ 0 ≤ o.t.s ∧ o.t.s ≤ 1000000000 ∧ 0 ≤ o.t.r ∧ o.t.r ≤ 1000000 ∧ 1 ≤ o.c ∧ o.c ≤ 4096 := by
  obtain ⟨a, b, c, d, e⟩ := off_iff.1 h
  rw [dist_iff] at c
  omega
def FirstPost (o : Ofr) (y : Bool) (w : World) (e : Ending) (w' : World) : Prop := e = .returned (.tuple #[o.v, .bool y]) ∧ Below w.heap.size w w'

set_option maxRecDepth 100000 in
set_option maxHeartbeats 4000000 in
theorem first_any (r : Rt) (kr : Nat) (a : Option Addr) (cap : Nat) (l : List Ofr) (w : World) (hr : CAt w kr [.int .i64 r.o.s, .int .i64 r.o.r, .int .i64 r.l.s, .int .i64 r.l.r, .int .i64 r.p]) (hl : OfAt w a l) (ho : offsB l = true) (hm : l.length ≤ maxLen) :
    Calls Try.prog 37 #[.slice a l.length cap, .func (.func 35) #[] #[.pointer (some ⟨kr, 0, none⟩)], .func (.func 38) #[] #[]] w (FirstPost (bestV r l l.length) (decide (0 ≤ bestTo r l l.length)) w) := by
  unfold maxLen at hm
  obtain ⟨n, hn⟩ : ∃ n, n = l.length := ⟨_, rfl⟩
  rw [← hn] at hm ⊢
  have HN := Lib.hid hn; clear hn
  have HO := Lib.hid ho; clear ho
  have TZ := CAt.new w [.int .i64 0, .int .i64 0, .int .i64 0, .int .i64 0] 40
  have FZ := Fz.new w #[.int .i64 0, .int .i64 0, .int .i64 0, .int .i64 0] 40
  have TB := CAt.new (w.alloc (.cells #[.int .i64 0, .int .i64 0, .int .i64 0, .int .i64 0] 40)) [.int .i64 0, .int .i64 0, .int .i64 0, .int .i64 0] 40
  have FB := Fz.new (w.alloc (.cells #[.int .i64 0, .int .i64 0, .int .i64 0, .int .i64 0] 40)) #[.int .i64 0, .int .i64 0, .int .i64 0, .int .i64 0] 40
  replace TZ := TZ.alloc (.cells #[.int .i64 0, .int .i64 0, .int .i64 0, .int .i64 0] 40)
  replace FZ := FZ.alloc (.cells #[.int .i64 0, .int .i64 0, .int .i64 0, .int .i64 0] 40)
  have BB : Below w.heap.size w ((w.alloc (.cells #[.int .i64 0, .int .i64 0, .int .i64 0, .int .i64 0] 40)).alloc (.cells #[.int .i64 0, .int .i64 0, .int .i64 0, .int .i64 0] 40)) := ball (ball (Below.refl _ _) _) _
  have hsz : ((w.alloc (.cells #[.int .i64 0, .int .i64 0, .int .i64 0, .int .i64 0] 40)).alloc (.cells #[.int .i64 0, .int .i64 0, .int .i64 0, .int .i64 0] 40)).heap.size = w.heap.size + 2 := by simp
  simp only [World.size_alloc] at TB FB
  go_enter Try.func37, Try.ntmps37
  go_wp2_with fail
  obtain ⟨V, hV⟩ : ∃ V, (w.alloc (.cells #[.int .i64 0, .int .i64 0, .int .i64 0, .int .i64 0] 40)).alloc (.cells #[.int .i64 0, .int .i64 0, .int .i64 0, .int .i64 0] 40) = V := ⟨_, rfl⟩
  rw [hV] at TZ FZ TB FB BB hsz ⊢
  have hsz2 : w.heap.size + 2 ≤ V.heap.size := by omega
  clear hV hsz
  go_loopw [9, 14] (fun fd i wr => ∃ k : Nat, k ≤ n ∧ i = .int .i64 k ∧ fd = .bool (decide (0 ≤ bestTo r l k)) ∧ Below w.heap.size w wr ∧ CAt wr w.heap.size [.int .i64 0, .int .i64 0, .int .i64 0, .int .i64 0] ∧ Fz wr w.heap.size ∧ CAt wr (w.heap.size + 1) (bestV r l k).cs ∧ Fz wr (w.heap.size + 1) ∧ w.heap.size + 2 ≤ wr.heap.size) (fun _ i _ => n - (intOf i).toNat)
  case atStart => exact ⟨0, Nat.zero_le _, rfl, rfl, BB, TZ, FZ, TB, FB, hsz2⟩
  case round =>
    clear BB TZ FZ TB FB hsz2
    obtain ⟨k, hk, rfl, rfl, BB, TZ, FZ, TB, FB, hsz⟩ := hrel
    have Tr := hr.keep BB
    obtain ⟨fd, hfd⟩ : ∃ fd, decide (0 ≤ bestTo r l k) = fd := ⟨_, rfl⟩
    obtain ⟨bst, hbst⟩ : ∃ bst, bestV r l k = bst := ⟨_, rfl⟩
    rw [hbst] at TB
    rw [hfd]
    have HFD := Lib.hid hfd; have HB := Lib.hid hbst
    clear hfd hbst
    by_cases hlt : k < n
    · have hlt' : (k : Int) < (n : Int) := by omega
      have hk0 : (0 : Int) ≤ (k : Int) := by omega
      obtain ⟨b, off, rfl, hc⟩ := hl.at (i := k) (by rw [← HN.out]; exact hlt)
      obtain ⟨c0, c1, c2, c3⟩ := hc k (by rw [← HN.out]; exact hlt)
      replace c0 := keep1 BB c0; replace c1 := keep1 BB c1; replace c2 := keep1 BB c2; replace c3 := keep1 BB c3
      have hxm : l.getD k default ∈ l := by
        rw [List.getD_eq_getElem?_getD, List.getElem?_eq_getElem (by rw [← HN.out]; exact hlt)]; exact List.getElem_mem _
      have hxo := off_bd (offs_mem HO.out _ hxm)
      have htk := fun h1 h2 => best_take (r := r) (l := l) (k := k) h1 h2
      have hsk := fun h1 => best_skip (r := r) (l := l) (k := k) h1
      rw [HB.out, HFD.out] at hsk
      rw [HB.out] at htk
      obtain ⟨x, hx⟩ : ∃ x, l.getD k default = x := ⟨_, rfl⟩
      rw [hx] at c0 c1 c2 c3 hxo htk hsk
      have HTK := Lib.hid htk; have HSK := Lib.hid hsk
      obtain ⟨p0, p1, _, _, x0, x1, x2, x3⟩ := hxo
      clear hc hx hxm htk hsk hl
      obtain ⟨y, hy⟩ : ∃ y, possB r x = y := ⟨_, rfl⟩
      have HY := Lib.hid hy; clear hy
      go_wp2_with fail
      have Tx := CAt.new wr [.int .i64 x.p, .int .i64 x.t.s, .int .i64 x.t.r, .int .i64 x.c] 40
      replace TZ := TZ.alloc (.cells #[.int .i64 x.p, .int .i64 x.t.s, .int .i64 x.t.r, .int .i64 x.c] 40); replace FZ := FZ.alloc (.cells #[.int .i64 x.p, .int .i64 x.t.s, .int .i64 x.t.r, .int .i64 x.c] 40); replace TB := TB.alloc (.cells #[.int .i64 x.p, .int .i64 x.t.s, .int .i64 x.t.r, .int .i64 x.c] 40); replace FB := FB.alloc (.cells #[.int .i64 x.p, .int .i64 x.t.s, .int .i64 x.t.r, .int .i64 x.c] 40); replace Tr := Tr.alloc (.cells #[.int .i64 x.p, .int .i64 x.t.s, .int .i64 x.t.r, .int .i64 x.c] 40)
      replace BB := ball BB (.cells #[.int .i64 x.p, .int .i64 x.t.s, .int .i64 x.t.r, .int .i64 x.c] 40)
      have hkx : w.heap.size + 2 ≤ wr.heap.size := hsz
      replace hsz : w.heap.size + 2 ≤ (wr.alloc (.cells #[.int .i64 x.p, .int .i64 x.t.s, .int .i64 x.t.r, .int .i64 x.c] 40)).heap.size := by simp; omega
      obtain ⟨V1, hV1⟩ : ∃ V1, wr.alloc (.cells #[.int .i64 x.p, .int .i64 x.t.s, .int .i64 x.t.r, .int .i64 x.c] 40) = V1 := ⟨_, rfl⟩
      obtain ⟨kx, hkx2⟩ : ∃ kx, wr.heap.size = kx := ⟨_, rfl⟩
      rw [hV1] at Tx TZ FZ TB FB Tr BB hsz ⊢
      rw [hkx2] at Tx hkx ⊢
      clear hV1 hkx2 c0 c1 c2 c3
      refine (cl1_at r kr x y _ Tr x0 x1 x2 x3 HY.out).mono ?_
      rintro e W ⟨rfl, bb⟩
      replace Tx := Tx.keep bb; replace TZ := TZ.keep bb; replace FZ := FZ.keep bb; replace TB := TB.keep bb; replace FB := FB.keep bb; replace Tr := Tr.keep bb
      replace BB := bstep BB bb
      replace hsz := Nat.le_trans hsz bb.size
      clear bb
      cases y
      · go_wp2_with fail
        go_roundw
        case rel => exact ⟨k + 1, by omega, by go_num, by rw [(HSK.out (.inl HY.out)).2], BB, TZ, FZ, by rw [(HSK.out (.inl HY.out)).1]; exact TB, FB, hsz⟩
        case measure => simp [intOf]; omega
      · cases fd
        · have ht := HTK.out HY.out (.inl (by have := of_decide_eq_false HFD.out; omega))
          have HT := Lib.hid ht; clear ht
          have hne1 : ¬ kx = w.heap.size + 1 := by omega
          have hne2 : ¬ w.heap.size + 1 = kx := by omega
          have x0c := Tx 0 _ rfl; have x1c := Tx 1 _ rfl; have x2c := Tx 2 _ rfl; have x3c := Tx 3 _ rfl
          have tb0 := TB 0 _ rfl; have tb1 := TB 1 _ rfl; have tb2 := TB 2 _ rfl; have tb3 := TB 3 _ rfl
          have f0 := FB.1 0; have f1 := FB.1 1; have f2 := FB.1 2; have f3 := FB.1 3
          go_wp2_with fail
          replace TB := TB.set 0 (.int .i64 x.p) (by simp); replace TZ := TZ.other (k' := w.heap.size + 1) (by omega) 0 (.int .i64 x.p); replace FB := FB.set ⟨w.heap.size + 1, 0, none⟩ (.int .i64 x.p); replace FZ := FZ.set ⟨w.heap.size + 1, 0, none⟩ (.int .i64 x.p); replace BB := BB.setCell (p := ⟨w.heap.size + 1, 0, none⟩) (Nat.le_succ _) (.int .i64 x.p)
          replace TB := TB.set 1 (.int .i64 x.t.s) (by simp); replace TZ := TZ.other (k' := w.heap.size + 1) (by omega) 1 (.int .i64 x.t.s); replace FB := FB.set ⟨w.heap.size + 1, 1, none⟩ (.int .i64 x.t.s); replace FZ := FZ.set ⟨w.heap.size + 1, 1, none⟩ (.int .i64 x.t.s); replace BB := BB.setCell (p := ⟨w.heap.size + 1, 1, none⟩) (Nat.le_succ _) (.int .i64 x.t.s)
          replace TB := TB.set 2 (.int .i64 x.t.r) (by simp); replace TZ := TZ.other (k' := w.heap.size + 1) (by omega) 2 (.int .i64 x.t.r); replace FB := FB.set ⟨w.heap.size + 1, 2, none⟩ (.int .i64 x.t.r); replace FZ := FZ.set ⟨w.heap.size + 1, 2, none⟩ (.int .i64 x.t.r); replace BB := BB.setCell (p := ⟨w.heap.size + 1, 2, none⟩) (Nat.le_succ _) (.int .i64 x.t.r)
          replace TB := TB.set 3 (.int .i64 x.c) (by simp); replace TZ := TZ.other (k' := w.heap.size + 1) (by omega) 3 (.int .i64 x.c); replace FB := FB.set ⟨w.heap.size + 1, 3, none⟩ (.int .i64 x.c); replace FZ := FZ.set ⟨w.heap.size + 1, 3, none⟩ (.int .i64 x.c); replace BB := BB.setCell (p := ⟨w.heap.size + 1, 3, none⟩) (Nat.le_succ _) (.int .i64 x.c)
          replace hsz : w.heap.size + 2 ≤ ((((W.setCell ⟨w.heap.size + 1, 0, none⟩ (.int .i64 x.p)).setCell ⟨w.heap.size + 1, 1, none⟩ (.int .i64 x.t.s)).setCell ⟨w.heap.size + 1, 2, none⟩ (.int .i64 x.t.r)).setCell ⟨w.heap.size + 1, 3, none⟩ (.int .i64 x.c)).heap.size := by simpa using hsz
          go_roundw
          case rel => exact ⟨k + 1, by omega, by go_num, by rw [HT.out.2], BB, TZ, FZ, by rw [HT.out.1]; exact TB, FB, hsz⟩
          case measure => simp [intOf]; omega
        · have hbm := off_bd (offs_mem HO.out _ (bestV_mem (r := r) (k := k) (by rw [← HN.out]; exact hk) (of_decide_eq_true HFD.out)))
          rw [HB.out] at hbm
          obtain ⟨_, _, _, _, b0, b1, b2, b3⟩ := hbm
          obtain ⟨z, hz⟩ : ∃ z, beforeB x bst = z := ⟨_, rfl⟩
          have HZ := Lib.hid hz; clear hz
          have hne1 : ¬ kx = w.heap.size + 1 := by omega
          have hne2 : ¬ w.heap.size + 1 = kx := by omega
          have x0c := Tx 0 _ rfl; have x1c := Tx 1 _ rfl; have x2c := Tx 2 _ rfl; have x3c := Tx 3 _ rfl
          have tb0 := TB 0 _ rfl; have tb1 := TB 1 _ rfl; have tb2 := TB 2 _ rfl; have tb3 := TB 3 _ rfl
          have f0 := FB.1 0; have f1 := FB.1 1; have f2 := FB.1 2; have f3 := FB.1 3
          go_wp2_with fail
          refine (cl2_at x bst z _ x0 x1 x2 x3 b0 b1 b2 b3 HZ.out).mono ?_
          rintro e W2 ⟨rfl, bb⟩
          clear x0c x1c x2c x3c tb0 tb1 tb2 tb3 f0 f1 f2 f3
          replace Tx := Tx.keep bb; replace TZ := TZ.keep bb; replace FZ := FZ.keep bb; replace TB := TB.keep bb; replace FB := FB.keep bb; replace Tr := Tr.keep bb
          replace BB := bstep BB bb
          replace hsz := Nat.le_trans hsz bb.size
          clear bb
          cases z
          · have hs := HSK.out (.inr ⟨of_decide_eq_true HFD.out, HZ.out⟩)
            have HS := Lib.hid hs; clear hs
            go_wp2_with fail
            go_roundw
            case rel => exact ⟨k + 1, by omega, by go_num, by rw [HS.out.2], BB, TZ, FZ, by rw [HS.out.1]; exact TB, FB, hsz⟩
            case measure => simp [intOf]; omega
          · have ht := HTK.out HY.out (.inr HZ.out)
            have HT := Lib.hid ht; clear ht
            have x0c := Tx 0 _ rfl; have x1c := Tx 1 _ rfl; have x2c := Tx 2 _ rfl; have x3c := Tx 3 _ rfl
            have tb0 := TB 0 _ rfl; have tb1 := TB 1 _ rfl; have tb2 := TB 2 _ rfl; have tb3 := TB 3 _ rfl
            have f0 := FB.1 0; have f1 := FB.1 1; have f2 := FB.1 2; have f3 := FB.1 3
            go_wp2_with fail
            replace TB := TB.set 0 (.int .i64 x.p) (by simp); replace TZ := TZ.other (k' := w.heap.size + 1) (by omega) 0 (.int .i64 x.p); replace FB := FB.set ⟨w.heap.size + 1, 0, none⟩ (.int .i64 x.p); replace FZ := FZ.set ⟨w.heap.size + 1, 0, none⟩ (.int .i64 x.p); replace BB := BB.setCell (p := ⟨w.heap.size + 1, 0, none⟩) (Nat.le_succ _) (.int .i64 x.p)
            replace TB := TB.set 1 (.int .i64 x.t.s) (by simp); replace TZ := TZ.other (k' := w.heap.size + 1) (by omega) 1 (.int .i64 x.t.s); replace FB := FB.set ⟨w.heap.size + 1, 1, none⟩ (.int .i64 x.t.s); replace FZ := FZ.set ⟨w.heap.size + 1, 1, none⟩ (.int .i64 x.t.s); replace BB := BB.setCell (p := ⟨w.heap.size + 1, 1, none⟩) (Nat.le_succ _) (.int .i64 x.t.s)
            replace TB := TB.set 2 (.int .i64 x.t.r) (by simp); replace TZ := TZ.other (k' := w.heap.size + 1) (by omega) 2 (.int .i64 x.t.r); replace FB := FB.set ⟨w.heap.size + 1, 2, none⟩ (.int .i64 x.t.r); replace FZ := FZ.set ⟨w.heap.size + 1, 2, none⟩ (.int .i64 x.t.r); replace BB := BB.setCell (p := ⟨w.heap.size + 1, 2, none⟩) (Nat.le_succ _) (.int .i64 x.t.r)
            replace TB := TB.set 3 (.int .i64 x.c) (by simp); replace TZ := TZ.other (k' := w.heap.size + 1) (by omega) 3 (.int .i64 x.c); replace FB := FB.set ⟨w.heap.size + 1, 3, none⟩ (.int .i64 x.c); replace FZ := FZ.set ⟨w.heap.size + 1, 3, none⟩ (.int .i64 x.c); replace BB := BB.setCell (p := ⟨w.heap.size + 1, 3, none⟩) (Nat.le_succ _) (.int .i64 x.c)
            replace hsz : w.heap.size + 2 ≤ ((((W2.setCell ⟨w.heap.size + 1, 0, none⟩ (.int .i64 x.p)).setCell ⟨w.heap.size + 1, 1, none⟩ (.int .i64 x.t.s)).setCell ⟨w.heap.size + 1, 2, none⟩ (.int .i64 x.t.r)).setCell ⟨w.heap.size + 1, 3, none⟩ (.int .i64 x.c)).heap.size := by simpa using hsz
            go_roundw
            case rel => exact ⟨k + 1, by omega, by go_num, by rw [HT.out.2], BB, TZ, FZ, by rw [HT.out.1]; exact TB, FB, hsz⟩
            case measure => simp [intOf]; omega
    · have hkn : n = k := by omega
      subst hkn
      have hne1 : ¬ w.heap.size = w.heap.size + 1 := by omega
      have hne2 : ¬ w.heap.size + 1 = w.heap.size := by omega
      have tb0 := TB 0 _ rfl; have tb1 := TB 1 _ rfl; have tb2 := TB 2 _ rfl; have tb3 := TB 3 _ rfl
      have tz0 := TZ 0 _ rfl; have tz1 := TZ 1 _ rfl; have tz2 := TZ 2 _ rfl; have tz3 := TZ 3 _ rfl
      have f0 := FZ.1 0; have f1 := FZ.1 1; have f2 := FZ.1 2; have f3 := FZ.1 3
      have q := (((TZ.set 0 (.int .i64 bst.p) (by simp)).set 1 (.int .i64 bst.t.s) (by simp)).set 2 (.int .i64 bst.t.r) (by simp)).set 3 (.int .i64 bst.c) (by simp)
      have BZ := (((BB.setCell (p := ⟨w.heap.size, 0, none⟩) (Nat.le_refl _) (.int .i64 bst.p)).setCell (p := ⟨w.heap.size, 1, none⟩) (Nat.le_refl _) (.int .i64 bst.t.s)).setCell (p := ⟨w.heap.size, 2, none⟩) (Nat.le_refl _) (.int .i64 bst.t.r)).setCell (p := ⟨w.heap.size, 3, none⟩) (Nat.le_refl _) (.int .i64 bst.c)
      go_wp2_with fail
      obtain ⟨Z, hZ⟩ : ∃ Z, (((wr.setCell ⟨w.heap.size, 0, none⟩ (.int .i64 bst.p)).setCell ⟨w.heap.size, 1, none⟩ (.int .i64 bst.t.s)).setCell ⟨w.heap.size, 2, none⟩ (.int .i64 bst.t.r)).setCell ⟨w.heap.size, 3, none⟩ (.int .i64 bst.c) = Z := ⟨_, rfl⟩
      rw [hZ] at q BZ ⊢
      clear hZ
      have q0 := q 0 _ rfl; have q1 := q 1 _ rfl; have q2 := q 2 _ rfl; have q3 := q 3 _ rfl
      refine bodyPost_ret (v := .tuple #[bst.v, .bool fd]) (by simp [results, Try.results37, go_sem, q0, q1, q2, q3]) rfl ?_
      rw [HB.out, HFD.out]
      exact ⟨rfl, BZ⟩
theorem first_at (n : Nat) (r : Rt) (kr : Nat) (a : Option Addr) (cap : Nat) (l : List Ofr) (o : Ofr) (y : Bool) (w : World) (hn : n = l.length) (hr : CAt w kr [.int .i64 r.o.s, .int .i64 r.o.r, .int .i64 r.l.s, .int .i64 r.l.r, .int .i64 r.p]) (hl : OfAt w a l) (ho : offsB l = true) (hm : l.length ≤ maxLen) (hv : bestV r l l.length = o) (hy : decide (0 ≤ bestTo r l l.length) = y) :
    Calls Try.prog 37 #[.slice a n cap, .func (.func 35) #[] #[.pointer (some ⟨kr, 0, none⟩)], .func (.func 38) #[] #[]] w (FirstPost o y w) := by
  subst hn; rw [← hv, ← hy]; exact first_any r kr a cap l w hr hl ho hm
end Go.Proofs.Ytbonchnhngaicaa
