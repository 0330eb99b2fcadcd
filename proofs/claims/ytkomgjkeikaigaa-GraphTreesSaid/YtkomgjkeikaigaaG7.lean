/- Proved: what Depths of the reference returns. Conditions: the table lies in memory. -/
import Derived.Test.YtkomgjkeikaigaaG6
namespace Go.Proofs.Ytkomgjkeikaigaa
open Go.RowKit Go.Sort Go.BigFrame
set_option linter.unusedVariables false
set_option linter.unusedSimpArgs false
attribute [local go_sem] cell_alloc_old

def ErrPost (zs : List Int) (er : Int) (w : World) (e : Ending) (w' : World) : Prop := ∃ a cap, e = .returned (.tuple #[.slice a zs.length cap, .int .i64 er]) ∧ IntsAt .i64 w' a zs ∧ zs.length ≤ cap ∧ cap ≤ maxLen ∧ Below w.heap.size w w'
noncomputable def okD (h : Tab) (root : Int) : Bool := validB h && (decide (0 ≤ root) && decide (root < (h.length : Int)))
def DepthPost (h : Tab) (root : Int) (w : World) (e : Ending) (w' : World) : Prop := (okD h root = true → ErrPost (depthV h root.toNat) 0 w e w') ∧ (okD h root = false → ErrPost [] 1 w e w')
def iTo (n : Nat) : Nat → List Int
  | 0 => List.replicate n 0
  | k + 1 => (iTo n k).set k (-1)
theorem iTo_len {n : Nat} : ∀ k, (iTo n k).length = n
  | 0 => by simp [iTo]
  | k + 1 => by rw [iTo, List.length_set, iTo_len k]
theorem iTo_at {n : Nat} : ∀ (k j : Nat), j < n → at' (iTo n k) j = if j < k then -1 else 0
  | 0, j, hj => by rw [if_neg (by omega)]; unfold iTo at'; rw [List.getD_eq_getElem?_getD, List.getElem?_replicate, if_pos hj]; rfl
  | k + 1, j, hj => by
    rw [iTo, at_set, iTo_len, iTo_at k j hj]
    by_cases e : k = j
    · subst e; rw [if_pos ⟨rfl, hj⟩, if_pos (by omega)]
    · rw [if_neg (fun x => e x.1)]
      by_cases h : j < k
      · rw [if_pos h, if_pos (by omega)]
      · rw [if_neg h, if_neg (by omega)]
theorem iTo_end (n : Nat) : iTo n n = List.replicate n (-1) := by
  refine list_eq 0 (by rw [iTo_len]; simp) fun j hj => ?_
  rw [iTo_len] at hj
  have := iTo_at n j hj
  unfold at' at this
  rw [this, if_pos hj, List.getD_eq_getElem?_getD, List.getElem?_replicate, if_pos hj]; rfl
theorem err_one {h : Tab} {root : Int} {w w' : World} (hb' : Below w.heap.size w w') (ho : okD h root = false) : DepthPost h root w (.returned (.tuple #[.slice none 0 0, .int .i64 1])) w' :=
  ⟨fun hh => (by rw [ho] at hh; cases hh), fun _ => ⟨none, 0, rfl, .inl rfl, Nat.le_refl _, by simp [maxLen], hb'⟩⟩

set_option maxRecDepth 100000 in
set_option maxHeartbeats 4000000 in
theorem rdepths_any (h : Tab) (n : Nat) (a : Option Addr) (cap : Nat) (root : Int) (w : World) (hn : n = h.length) (hl : TabAt w a h) (hm : n ≤ maxLen) : Calls Try.prog 13 #[.slice a n cap, .int .i64 root] w (DepthPost h root w) := by
  have hm' := hm
  unfold maxLen at hm
  have HN := Lib.hid hn; clear hn
  cases hv : validB h
  · have ho : okD h root = false := by unfold okD; rw [hv]; rfl
    have HO := Lib.hid ho; have HV := Lib.hid hv; clear ho hv
    go_enter Try.func13, Try.ntmps13
    go_wp2_with fail
    refine (rvalid_at h n a cap false _ HN.out hl hm' HV.out).mono ?_
    rintro e w1 ⟨rfl, b1⟩
    go_wp2_with fail
    go_ret2
    exact err_one b1 HO.out
  have hV := valid_of hv
  have HV := Lib.hid hv; have HVD := Lib.hid hV
  by_cases h0 : root < 0
  · have ho : okD h root = false := by unfold okD; rw [hv, decide_eq_false (by omega)]; rfl
    have HO := Lib.hid ho; clear ho hv hV
    go_enter Try.func13, Try.ntmps13
    go_wp2_with fail
    refine (rvalid_at h n a cap true _ HN.out hl hm' HV.out).mono ?_
    rintro e w1 ⟨rfl, b1⟩
    go_wp2_with fail
    go_ret2
    exact err_one b1 HO.out
  by_cases h1 : root < (n : Int)
  case neg =>
    have ho : okD h root = false := by unfold okD; rw [hv, ← HN.out, decide_eq_false h1, Bool.and_false]; rfl
    have HO := Lib.hid ho; clear ho hv hV
    go_enter Try.func13, Try.ntmps13
    go_wp2_with fail
    refine (rvalid_at h n a cap true _ HN.out hl hm' HV.out).mono ?_
    rintro e w1 ⟨rfl, b1⟩
    go_wp2_with fail
    go_ret2
    exact err_one b1 HO.out
  have ho : okD h root = true := by unfold okD; rw [hv, ← HN.out, decide_eq_true h1, decide_eq_true (by omega)]; rfl
  obtain ⟨t, rfl⟩ : ∃ t : Nat, root = t := ⟨root.toNat, by omega⟩
  have h60 : n ≤ 60 := by rw [HN.out]; exact hV.1
  have HO := Lib.hid ho; clear ho hv hV
  have hmk := make_ints n h60
  go_enter Try.func13, Try.ntmps13
  go_wp2_with fail
  refine (rvalid_at h n a cap true _ HN.out hl hm' HV.out).mono ?_
  rintro e w1 ⟨rfl, b1⟩
  have R0 := RowI.new w1 n
  have BB : Below w.heap.size w (w1.alloc (.cells (Array.replicate n (.int .i64 0)) 3)) := ball b1 _
  have hg : w.heap.size ≤ w1.heap.size := b1.size
  go_wp2_with fail
  obtain ⟨V, hV⟩ : ∃ V, w1.alloc (.cells (Array.replicate n (.int .i64 0)) 3) = V := ⟨_, rfl⟩
  obtain ⟨g, hg2⟩ : ∃ g, w1.heap.size = g := ⟨_, rfl⟩
  rw [hV] at R0 BB ⊢
  rw [hg2] at R0 hg ⊢
  clear hV hmk hg2 b1
  go_loopw [9] (fun i wr => ∃ k : Nat, k ≤ n ∧ i = .int .i64 k ∧ RowI wr g (iTo n k) ∧ Below w.heap.size w wr) (fun i _ => n - (intOf i).toNat)
  case atStart => exact ⟨0, Nat.zero_le _, rfl, R0, BB⟩
  case round =>
    clear R0 BB
    obtain ⟨k, hk, rfl, R, BB⟩ := hrel
    by_cases hlt : k < n
    · have hlt' : (k : Int) < (n : Int) := by omega
      have hk0 : (0 : Int) ≤ (k : Int) := by omega
      have c := R.at (j := k) (by rw [iTo_len]; exact hlt)
      have f := R.2.1 k
      go_wp2_with fail
      go_roundw
      case rel => exact ⟨k + 1, by omega, by go_num, R.set (by rw [iTo_len]; exact hlt) (-1), BB.setCell (p := ⟨_, k, none⟩) hg _⟩
      case measure => simp [intOf]; omega
    · have hkn : n = k := by omega
      subst hkn
      rw [iTo_end] at R
      have c := R.at (j := t) (by simp; omega)
      have f := R.2.1 t
      have ht0 : (0 : Int) ≤ (t : Int) := by omega
      go_wp2_with fail
      replace R := R.set (j := t) (by simp; omega) 0
      replace BB := BB.setCell (p := ⟨g, t, none⟩) hg (.int .i64 0)
      obtain ⟨V2, hV2⟩ : ∃ V2, wr.setCell ⟨g, t, none⟩ (.int .i64 0) = V2 := ⟨_, rfl⟩
      rw [hV2] at R BB ⊢
      clear hV2 c f
      have hst0 : (List.replicate n (-1)).set t 0 = startD h t := by unfold startD; rw [← HN.out]
      rw [hst0] at R
      clear hst0
      go_loopw [10, 11, 12] (fun d _ _ wr => ∃ e : Nat, e + 1 ≤ n ∧ d = .int .i64 ((e : Int) + 1) ∧ RowI wr g (levelTo h (startD h t) e) ∧ Below w.heap.size w wr) (fun d _ _ _ => n - (intOf d).toNat)
      case atStart => exact ⟨0, by omega, rfl, R, BB⟩
      case round =>
        clear R BB
        obtain ⟨e, he, rfl, R, BB⟩ := hrel
        obtain ⟨D, hD⟩ : ∃ D : Int, (e : Int) + 1 = D := ⟨_, rfl⟩
        rw [hD]
        by_cases hlt : e + 1 < n
        · have hlt' : D < (n : Int) := by omega
          have hD1 : 1 ≤ D := by omega
          have hwd : IntKind.i64.wrap (D - 1) = D - 1 := IntWalk.i64_in _ (by omega)
          have hnx : levelTo h (startD h t) (e + 1) = sweepTo h D (levelTo h (startD h t) e) n := by rw [levelTo, hD, HN.out]
          have hln : (levelTo h (startD h t) e).length = n := by rw [levelTo_len, HN.out]; simp [startD]
          obtain ⟨o, hO⟩ : ∃ o, levelTo h (startD h t) e = o := ⟨_, rfl⟩
          rw [hO] at R hnx hln
          have HNX := Lib.hid hnx; have HLN := Lib.hid hln; have HD := Lib.hid hD
          clear hnx hln hO hD
          go_wp2_with fail
          go_loopw [11, 12] (fun i _ wz => ∃ i' : Nat, i' ≤ n ∧ i = .int .i64 i' ∧ RowI wz g (sweepTo h D o i') ∧ Below w.heap.size w wz) (fun i _ _ => n - (intOf i).toNat)
          case atStart => exact ⟨0, Nat.zero_le _, rfl, R, BB⟩
          case round =>
            clear R BB
            obtain ⟨i, hin, rfl, R, BB⟩ := hrel
            by_cases hi : i < n
            · have hi' : (i : Int) < (n : Int) := by omega
              have hi0 : (0 : Int) ≤ (i : Int) := by omega
              have hnx2 : sweepTo h D o (i + 1) = rowTo h D (sweepTo h D o i) i n := by rw [sweepTo, HN.out]
              have hln2 : (sweepTo h D o i).length = n := by rw [sweepTo_len, HLN.out]
              obtain ⟨o2, hO2⟩ : ∃ o2, sweepTo h D o i = o2 := ⟨_, rfl⟩
              rw [hO2] at R hnx2 hln2
              have HNX2 := Lib.hid hnx2; have HLN2 := Lib.hid hln2
              clear hnx2 hln2 hO2
              go_wp2_with fail
              go_loopw [12] (fun k wz => ∃ k' : Nat, k' ≤ n ∧ k = .int .i64 k' ∧ RowI wz g (rowTo h D o2 i k') ∧ Below w.heap.size w wz) (fun k _ => n - (intOf k).toNat)
              case atStart => exact ⟨0, Nat.zero_le _, rfl, R, BB⟩
              case round =>
                clear R BB
                obtain ⟨k, hkn, rfl, R, BB⟩ := hrel
                by_cases hk : k < n
                · have hk' : (k : Int) < (n : Int) := by omega
                  have hk0 : (0 : Int) ≤ (k : Int) := by omega
                  have hnx3 : rowTo h D o2 i (k + 1) = step3 h D (rowTo h D o2 i k) i k := rfl
                  have hln3 : (rowTo h D o2 i k).length = n := by rw [rowTo_len, HLN2.out]
                  obtain ⟨o3, hO3⟩ : ∃ o3, rowTo h D o2 i k = o3 := ⟨_, rfl⟩
                  rw [hO3] at R hnx3 hln3
                  unfold step3 at hnx3
                  obtain ⟨b, off, rfl, hT⟩ := tab_at hl (i := i) (by rw [← HN.out]; exact hi)
                  obtain ⟨rb, roff, rc, d1, d2⟩ := row_cell hT BB (i := i) (k := k) (by rw [← HN.out]; exact hi) (by rw [HVD.out.2.1 i (by rw [← HN.out]; exact hi), ← HN.out]; exact hk)
                  rw [HVD.out.2.1 i (by rw [← HN.out]; exact hi), ← HN.out] at d1
                  have c1 := R.at (j := i) (by rw [hln3]; exact hi)
                  have c2 := R.at (j := k) (by rw [hln3]; exact hk)
                  have f := R.2.1 i
                  obtain ⟨x, hx⟩ : ∃ x, at' o3 i = x := ⟨_, rfl⟩
                  obtain ⟨z, hz⟩ : ∃ z, at' o3 k = z := ⟨_, rfl⟩
                  obtain ⟨u, hu⟩ : ∃ u, hb h i k = u := ⟨_, rfl⟩
                  rw [hx] at c1; rw [hz] at c2; rw [hu] at d2
                  rw [hx, hz, hu] at hnx3
                  have HNX3 := Lib.hid hnx3; have HLN3 := Lib.hid hln3
                  clear hnx3 hln3 hO3 hx hz hu hT hl
                  by_cases hxn : x < 0
                  · cases u
                    · go_wp2_with fail
                      go_roundw
                      case rel => exact ⟨k + 1, by omega, by go_num, by rw [HNX3.out, if_neg (fun hh => by cases hh.2.1)]; exact R, BB⟩
                      case measure => simp [intOf]; omega
                    · by_cases hzd : z = D - 1
                      · have hzb : (z == D - 1) = true := by simp [hzd]
                        have HZD := Lib.hid hzd; clear hzd
                        go_wp2_with fail
                        go_roundw
                        case rel => exact ⟨k + 1, by omega, by go_num, by rw [HNX3.out, if_pos ⟨hxn, rfl, HZD.out⟩]; exact R.set (by rw [HLN3.out]; exact hi) D, BB.setCell (p := ⟨_, i, none⟩) hg _⟩
                        case measure => simp [intOf]; omega
                      · have hzb : (z == D - 1) = false := by simp [hzd]
                        have HZD := Lib.hid hzd; clear hzd
                        go_wp2_with fail
                        go_roundw
                        case rel => exact ⟨k + 1, by omega, by go_num, by rw [HNX3.out, if_neg (fun hh => HZD.out hh.2.2)]; exact R, BB⟩
                        case measure => simp [intOf]; omega
                  · go_wp2_with fail
                    go_roundw
                    case rel => exact ⟨k + 1, by omega, by go_num, by rw [HNX3.out, if_neg (fun hh => by omega)]; exact R, BB⟩
                    case measure => simp [intOf]; omega
                · have hkn' : n = k := by omega
                  subst hkn'
                  go_wp2_with fail
                  go_roundw
                  case rel => exact ⟨i + 1, by omega, by go_num, by rw [HNX2.out]; exact R, BB⟩
                  case measure => simp [intOf]; omega
            · have hin' : n = i := by omega
              subst hin'
              go_wp2_with fail
              go_roundw
              case rel => exact ⟨e + 1, by omega, by have := HD.out; go_num, by rw [HNX.out]; exact R, BB⟩
              case measure => have := HD.out; simp [intOf]; omega
        · have hDn : D = (n : Int) := by omega
          subst hDn
          have heq : e = h.length - 1 := by rw [← HN.out]; omega
          have hdep : depthV h t = levelTo h (startD h t) e := by rw [heq]; exact depth_eq HVD.out (ref_depth HVD.out (by rw [← HN.out]; omega))
          have HDEP := Lib.hid hdep
          have hln : (levelTo h (startD h t) e).length = n := by rw [levelTo_len, HN.out]; simp [startD]
          have HLN := Lib.hid hln
          clear heq hdep hD hln
          go_wp2_with fail
          go_ret2
          refine ⟨fun _ => ?_, fun hh => by rw [HO.out] at hh; cases hh⟩
          rw [Int.toNat_natCast, HDEP.out]
          exact ⟨some ⟨g, 0, none⟩, n, by rw [HLN.out]; rfl, R.ints, by rw [HLN.out]; exact Nat.le_refl _, hm', BB⟩
end Go.Proofs.Ytkomgjkeikaigaa
