/- Proved: what Islands of the reference returns. Conditions: the table lies in memory. -/
import Derived.Test.YtkomgjkeikaigaaG8
namespace Go.Proofs.Ytkomgjkeikaigaa
open Go.RowKit Go.Sort Go.BigFrame
set_option linter.unusedVariables false
set_option linter.unusedSimpArgs false
attribute [local go_sem] cell_alloc_old

def IslePost (h : Tab) (w : World) (e : Ending) (w' : World) : Prop := (validB h = true → ErrPost (isleV h) 0 w e w') ∧ (validB h = false → ErrPost [] 1 w e w')
theorem isle_err {h : Tab} {w w' : World} (hb' : Below w.heap.size w w') (ho : validB h = false) : IslePost h w (.returned (.tuple #[.slice none 0 0, .int .i64 1])) w' :=
  ⟨fun hh => (by rw [ho] at hh; cases hh), fun _ => ⟨none, 0, rfl, .inl rfl, Nat.le_refl _, by simp [maxLen], hb'⟩⟩
def jTo (n : Nat) : Nat → List Int
  | 0 => List.replicate n 0
  | k + 1 => (jTo n k).set k (k : Int)
theorem jTo_len {n : Nat} : ∀ k, (jTo n k).length = n
  | 0 => by simp [jTo]
  | k + 1 => by rw [jTo, List.length_set, jTo_len k]
theorem jTo_at {n : Nat} : ∀ (k j : Nat), j < n → at' (jTo n k) j = if j < k then (j : Int) else 0
  | 0, j, hj => by rw [if_neg (by omega)]; unfold jTo at'; rw [List.getD_eq_getElem?_getD, List.getElem?_replicate, if_pos hj]; rfl
  | k + 1, j, hj => by
    rw [jTo, at_set, jTo_len, jTo_at k j hj]
    by_cases e : k = j
    · subst e; rw [if_pos ⟨rfl, hj⟩, if_pos (by omega)]
    · rw [if_neg (fun x => e x.1)]
      by_cases h : j < k
      · rw [if_pos h, if_pos (by omega)]
      · rw [if_neg h, if_neg (by omega)]
theorem jTo_end (h : Tab) {n : Nat} (hn : n = h.length) : jTo n n = startI h := by
  refine list_eq 0 (by rw [jTo_len, hn]; simp [startI]) fun j hj => ?_
  rw [jTo_len] at hj
  have h1 := jTo_at n j hj
  have h2 := startI_at (h := h) (i := j) (by rw [← hn]; exact hj)
  unfold at' at h1 h2
  rw [h1, h2, if_pos hj]

set_option maxRecDepth 100000 in
set_option maxHeartbeats 4000000 in
theorem risles_any (h : Tab) (n : Nat) (a : Option Addr) (cap : Nat) (w : World) (hn : n = h.length) (hl : TabAt w a h) (hm : n ≤ maxLen) : Calls Try.prog 15 #[.slice a n cap] w (IslePost h w) := by
  have hm' := hm
  unfold maxLen at hm
  have HN := Lib.hid hn; clear hn
  cases hv : validB h
  · have HV := Lib.hid hv; clear hv
    go_enter Try.func15, Try.ntmps15
    go_wp2_with fail
    refine (rvalid_at h n a cap false _ HN.out hl hm' HV.out).mono ?_
    rintro e w1 ⟨rfl, b1⟩
    go_wp2_with fail
    go_ret2
    exact isle_err b1 HV.out
  have hV := valid_of hv
  have HV := Lib.hid hv; have HVD := Lib.hid hV
  have h60 : n ≤ 60 := by rw [HN.out]; exact hV.1
  clear hv hV
  have hmk := make_ints n h60
  go_enter Try.func15, Try.ntmps15
  go_wp2_with fail
  refine (rvalid_at h n a cap true _ HN.out hl hm' HV.out).mono ?_
  rintro e w1 ⟨rfl, b1⟩
  have R0 := RowI.new w1 n
  have BB : Below w.heap.size w (w1.alloc (.cells (Array.replicate n (.int .i64 0)) 3)) := ball b1 _
  have hg : w.heap.size ≤ w1.heap.size := b1.size
  go_wp2_with fail
  obtain ⟨V, hV⟩ : ∃ V, w1.alloc (.cells (Array.replicate n (.int .i64 0)) 3) = V := ⟨_, rfl⟩
  obtain ⟨g, hg2⟩ : ∃ g, w1.heap.size = g := ⟨_, rfl⟩
  rw [hV] at R0 BB ⊢
  rw [hg2] at R0 hg ⊢
  clear hV hmk hg2 b1
  go_loopw [7] (fun i wr => ∃ k : Nat, k ≤ n ∧ i = .int .i64 k ∧ RowI wr g (jTo n k) ∧ Below w.heap.size w wr) (fun i _ => n - (intOf i).toNat)
  case atStart => exact ⟨0, Nat.zero_le _, rfl, R0, BB⟩
  case round =>
    clear R0 BB
    obtain ⟨k, hk, rfl, R, BB⟩ := hrel
    by_cases hlt : k < n
    · have hlt' : (k : Int) < (n : Int) := by omega
      have hk0 : (0 : Int) ≤ (k : Int) := by omega
      have c := R.at (j := k) (by rw [jTo_len]; exact hlt)
      have f := R.2.1 k
      go_wp2_with fail
      go_roundw
      case rel => exact ⟨k + 1, by omega, by go_num, R.set (by rw [jTo_len]; exact hlt) (k : Int), BB.setCell (p := ⟨_, k, none⟩) hg _⟩
      case measure => simp [intOf]; omega
    · have hkn : n = k := by omega
      subst hkn
      rw [jTo_end h HN.out] at R
      go_wp2_with fail
      go_loopw [8, 9, 10] (fun d _ _ wr => ∃ e : Nat, e ≤ n ∧ d = .int .i64 (e : Int) ∧ RowI wr g (mround h (startI h) e) ∧ Below w.heap.size w wr) (fun d _ _ _ => n - (intOf d).toNat)
      case atStart => exact ⟨0, Nat.zero_le _, rfl, R, BB⟩
      case round =>
        clear R BB
        obtain ⟨e, he, rfl, R, BB⟩ := hrel
        by_cases hlt : e < n
        · have hlt' : (e : Int) < (n : Int) := by omega
          have he0 : (0 : Int) ≤ (e : Int) := by omega
          have hnx : mround h (startI h) (e + 1) = msweep h (mround h (startI h) e) n := by rw [mround, HN.out]
          have G : Good h (startI h) := ⟨by simp [startI], fun i hi => by rw [startI_at hi]; omega, fun i hi => by rw [startI_at hi, Int.toNat_natCast]; exact .refl _⟩
          have hgd := mround_good G e
          obtain ⟨o, hO⟩ : ∃ o, mround h (startI h) e = o := ⟨_, rfl⟩
          rw [hO] at R hnx hgd
          have HNX := Lib.hid hnx; have HGD := Lib.hid hgd
          clear hnx hO hgd G
          go_wp2_with fail
          go_loopw [9, 10] (fun i _ wz => ∃ i' : Nat, i' ≤ n ∧ i = .int .i64 i' ∧ RowI wz g (msweep h o i') ∧ Below w.heap.size w wz) (fun i _ _ => n - (intOf i).toNat)
          case atStart => exact ⟨0, Nat.zero_le _, rfl, R, BB⟩
          case round =>
            clear R BB
            obtain ⟨i, hin, rfl, R, BB⟩ := hrel
            by_cases hi : i < n
            · have hi' : (i : Int) < (n : Int) := by omega
              have hi0 : (0 : Int) ≤ (i : Int) := by omega
              have hnx2 : msweep h o (i + 1) = mrow h (msweep h o i) i n := by rw [msweep, HN.out]
              have hgd := (msweep_good HGD.out i (by rw [← HN.out]; exact hin)).1
              obtain ⟨o2, hO2⟩ : ∃ o2, msweep h o i = o2 := ⟨_, rfl⟩
              rw [hO2] at R hnx2 hgd
              have HNX2 := Lib.hid hnx2; have HGD2 := Lib.hid hgd
              clear hnx2 hgd hO2
              go_wp2_with fail
              go_loopw [10] (fun k wz => ∃ k' : Nat, k' ≤ n ∧ k = .int .i64 k' ∧ RowI wz g (mrow h o2 i k') ∧ Below w.heap.size w wz) (fun k _ => n - (intOf k).toNat)
              case atStart => exact ⟨0, Nat.zero_le _, rfl, R, BB⟩
              case round =>
                clear R BB
                obtain ⟨k, hkn, rfl, R, BB⟩ := hrel
                by_cases hk : k < n
                · have hk' : (k : Int) < (n : Int) := by omega
                  have hk0 : (0 : Int) ≤ (k : Int) := by omega
                  have hnx3 : mrow h o2 i (k + 1) = mstep h (mrow h o2 i k) i k := rfl
                  have hgd := (mrow_good HGD2.out (show i < h.length by rw [← HN.out]; exact hi) k (by rw [← HN.out]; exact hkn)).1
                  obtain ⟨o3, hO3⟩ : ∃ o3, mrow h o2 i k = o3 := ⟨_, rfl⟩
                  rw [hO3] at R hnx3 hgd
                  have hln3 : o3.length = n := by rw [hgd.len, HN.out]
                  have hxb := hgd.rng i (by rw [← HN.out]; exact hi)
                  have hzb := hgd.rng k (by rw [← HN.out]; exact hk)
                  unfold mstep at hnx3
                  obtain ⟨b, off, rfl, hT⟩ := tab_at hl (i := i) (by rw [← HN.out]; exact hi)
                  obtain ⟨rb, roff, rc, d1, d2⟩ := row_cell hT BB (i := i) (k := k) (by rw [← HN.out]; exact hi) (by rw [HVD.out.2.1 i (by rw [← HN.out]; exact hi), ← HN.out]; exact hk)
                  rw [HVD.out.2.1 i (by rw [← HN.out]; exact hi), ← HN.out] at d1
                  have c1 := R.at (j := i) (by rw [hln3]; exact hi)
                  have c2 := R.at (j := k) (by rw [hln3]; exact hk)
                  have f := R.2.1 i
                  obtain ⟨x, hx⟩ : ∃ x, at' o3 i = x := ⟨_, rfl⟩
                  obtain ⟨z, hz⟩ : ∃ z, at' o3 k = z := ⟨_, rfl⟩
                  obtain ⟨u, hu⟩ : ∃ u, hb h i k = u := ⟨_, rfl⟩
                  rw [hx] at c1 hxb; rw [hz] at c2 hzb; rw [hu] at d2
                  rw [hx, hz, hu] at hnx3
                  have HNX3 := Lib.hid hnx3; have HLN3 := Lib.hid hln3
                  clear hnx3 hln3 hO3 hx hz hu hT hl hgd
                  cases u
                  · go_wp2_with fail
                    go_roundw
                    case rel => exact ⟨k + 1, by omega, by go_num, by rw [HNX3.out, if_neg (fun hh => by cases hh)]; exact R, BB⟩
                    case measure => simp [intOf]; omega
                  · go_wp2_with fail
                    go_region
                    go_wp2_with fail
                    go_roundw
                    case rel => exact ⟨k + 1, by omega, by go_num, by rw [HNX3.out]; rw [if_pos trivial]; exact (R.set (by rw [HLN3.out]; exact hi) (min x z)).keep (Below.drew (Below.refl _ _)), Below.drew (BB.setCell (p := ⟨_, i, none⟩) hg _)⟩
                    case measure => simp [intOf]; omega
                · have hkn' : n = k := by omega
                  subst hkn'
                  go_wp2_with fail
                  go_roundw
                  case rel => exact ⟨i + 1, by omega, by go_num, by rw [HNX2.out]; exact R, BB⟩
                  case measure => simp [intOf]; omega
            · have hin' : n = i := by omega
              subst hin'
              go_wp2_with fail
              go_roundw
              case rel => exact ⟨e + 1, by omega, by go_num, by rw [HNX.out]; exact R, BB⟩
              case measure => simp [intOf]; omega
        · have hen : n = e := by omega
          subst hen
          have I := ref_isle HVD.out
          rw [← HN.out] at I
          have hdep := isle_eq HVD.out I
          have HDEP := Lib.hid hdep
          have HLN := Lib.hid (show (mround h (startI h) n).length = n by rw [I.len, HN.out])
          clear hdep I
          go_wp2_with fail
          go_ret2
          refine ⟨fun _ => ?_, fun hh => (by rw [HV.out] at hh; cases hh)⟩
          rw [HDEP.out]
          exact ⟨some ⟨g, 0, none⟩, n, by rw [HLN.out]; rfl, R.ints, by rw [HLN.out]; exact Nat.le_refl _, hm', BB⟩
end Go.Proofs.Ytkomgjkeikaigaa
