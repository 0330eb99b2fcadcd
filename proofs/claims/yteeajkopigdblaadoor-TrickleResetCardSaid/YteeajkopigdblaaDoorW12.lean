/- Proved: that the laws TrickleAgain, TrickleReset and TrickleSeldom return true for every input. Conditions: the table of steps holds its numbers; the list lies in memory. -/
import Derived.Test.YteeajkopigdblaaDoorW11
namespace Go.Proofs.YteeajkopigdblaaDoor
open Go.RowKit Go.Sort Go.BigFrame Go.Proofs.YteeajkopigdblaaDoor.K
set_option linter.unusedVariables false
set_option linter.unusedSimpArgs false
attribute [local go_sem] cell_alloc_old

def SpeakAt (t : Tk) (n : Int) (hs : List Int) (m : Nat) (u : Tk) (w : World) (e : Ending) (w' : World) : Prop :=
  ∃ b off cap, e = .returned (.tuple #[.slice (some ⟨b, off, none⟩) m cap, u.v]) ∧ (∀ j, j < m → w'.cell? ⟨b, off + j, none⟩ = some (.bool (runB t n hs j))) ∧ Below w.heap.size w w'
theorem speak_at (t u : Tk) (n M : Int) (m Ln : Nat) (a : Option Addr) (cap : Nat) (hs : List Int) (w : World) (hT : Tab w) (n0 : 0 ≤ n) (n1 : n ≤ 900000100) (hm0 : 0 < m) (hm : m ≤ 100) (hM : (m : Int) = M) (hu : runT t n hs m = u) (hL : hs.length = Ln) (hl : IntsAt .u8 w a hs) (hlm : hs.length ≤ maxLen) (hw : ∀ z ∈ hs, (Lit.int .u8 z).wf = true) :
    Calls Tryd.prog 12 #[t.v, .int .i64 n, .int .i64 M, .slice a Ln cap] w (SpeakAt t n hs m u w) := by
  subst hM hL hu
  refine (speak_any t n m a cap hs w hT n0 n1 hm hl hlm hw).mono ?_
  rintro e w' ⟨a2, c2, rfl, hb, hB⟩
  rw [runL_len]
  rcases hb with hb | ⟨b, off, rfl, hb⟩
  · have := runL_len t n hs m; rw [hb] at this; simp at this; omega
  · refine ⟨b, off, c2, rfl, fun j hj => ?_, hB⟩
    have h := hb j (by rw [runL_len]; exact hj)
    rw [h]; simp [runL, List.getD_eq_getElem?_getD, List.getElem?_map, List.getElem?_range hj]
def orTo (f : Nat → Bool) : Nat → Bool
  | 0 => false
  | k + 1 => orTo f k || f k
theorem last_bd (t : Tk) (n : Int) : ∀ k, -1 ≤ lastV t n k ∧ lastV t n k ≤ k
  | 0 => by simp [lastV]
  | k + 1 => by
    have := last_bd t n k
    unfold lastV
    split <;> omega

set_option maxRecDepth 100000 in
set_option maxHeartbeats 4000000 in
theorem lawAgain (t : Tk) (w : World) (hT : Tab w) : Calls Tryd.prog 4 #[t.v] w (Fine w) := by
  cases hv : usableB t t.b
  · have HV := Lib.hid hv; clear hv
    go_enter Tryd.func4, Tryd.ntmps4
    go_wp2_with fail
    have Tt := TkAt.new w t 23
    have BB : Below w.heap.size w (w.alloc (.cells #[.int .i64 t.i, .int .i64 t.b, .int .i64 t.f, .int .i64 t.c, .int .i64 t.s] 23)) := ball (Below.refl _ _) _
    obtain ⟨V1, hV1⟩ : ∃ V1, w.alloc (.cells #[.int .i64 t.i, .int .i64 t.b, .int .i64 t.f, .int .i64 t.c, .int .i64 t.s] 23) = V1 := ⟨_, rfl⟩
    rw [hV1] at Tt BB  ⊢
    clear hV1
    refine (head_any _ (hT.keep BB)).mono ?_
    rintro e w2 ⟨rfl, b2⟩
    have Tt := Tt.keep b2
    replace BB := bstep BB b2
    clear b2
    obtain ⟨t0, t1, t2, t3, t4⟩ := id Tt
    go_wp2_with fail
    refine (usable_at t t.b false _ HV.out).mono ?_
    clear t0 t1 t2 t3 t4
    rintro e w3 ⟨rfl, b3⟩
    have Tt := Tt.keep b3
    replace BB := bstep BB b3
    clear b3
    obtain ⟨t0, t1, t2, t3, t4⟩ := id Tt
    go_wp2_with fail
    go_ret
    exact ⟨rfl, BB⟩
  by_cases hc : 1 < t.c
  · have HV := Lib.hid hv; clear hv
    go_enter Tryd.func4, Tryd.ntmps4
    go_wp2_with fail
    have Tt := TkAt.new w t 23
    have BB : Below w.heap.size w (w.alloc (.cells #[.int .i64 t.i, .int .i64 t.b, .int .i64 t.f, .int .i64 t.c, .int .i64 t.s] 23)) := ball (Below.refl _ _) _
    obtain ⟨V1, hV1⟩ : ∃ V1, w.alloc (.cells #[.int .i64 t.i, .int .i64 t.b, .int .i64 t.f, .int .i64 t.c, .int .i64 t.s] 23) = V1 := ⟨_, rfl⟩
    rw [hV1] at Tt BB  ⊢
    clear hV1
    refine (head_any _ (hT.keep BB)).mono ?_
    rintro e w2 ⟨rfl, b2⟩
    have Tt := Tt.keep b2
    replace BB := bstep BB b2
    clear b2
    obtain ⟨t0, t1, t2, t3, t4⟩ := id Tt
    go_wp2_with fail
    refine (usable_at t t.b true _ HV.out).mono ?_
    clear t0 t1 t2 t3 t4
    rintro e w3 ⟨rfl, b3⟩
    have Tt := Tt.keep b3
    replace BB := bstep BB b3
    clear b3
    obtain ⟨t0, t1, t2, t3, t4⟩ := id Tt
    go_wp2_with fail
    go_ret
    exact ⟨rfl, BB⟩
  obtain ⟨hV, _, _, hn⟩ := usable_iff.1 hv
  have hb0 := hV.b0
  have hc' : t.c ≤ 1 := by omega
  have HA := Lib.hid (fun k hk => again_of hv hc' k hk)
  have HV := Lib.hid hv
  obtain ⟨u, hu⟩ : ∃ u, runT t t.b [] 60 = u := ⟨_, rfl⟩
  have HU := Lib.hid hu
  clear hV hu hv
  go_enter Tryd.func4, Tryd.ntmps4
  go_wp2_with fail
  have Tt := TkAt.new w t 23
  have BB : Below w.heap.size w (w.alloc (.cells #[.int .i64 t.i, .int .i64 t.b, .int .i64 t.f, .int .i64 t.c, .int .i64 t.s] 23)) := ball (Below.refl _ _) _
  obtain ⟨V1, hV1⟩ : ∃ V1, w.alloc (.cells #[.int .i64 t.i, .int .i64 t.b, .int .i64 t.f, .int .i64 t.c, .int .i64 t.s] 23) = V1 := ⟨_, rfl⟩
  rw [hV1] at Tt BB  ⊢
  clear hV1
  refine (head_any _ (hT.keep BB)).mono ?_
  rintro e w2 ⟨rfl, b2⟩
  have Tt := Tt.keep b2
  replace BB := bstep BB b2
  clear b2
  obtain ⟨t0, t1, t2, t3, t4⟩ := id Tt
  go_wp2_with fail
  refine (usable_at t t.b true _ HV.out).mono ?_
  clear t0 t1 t2 t3 t4
  rintro e w3 ⟨rfl, b3⟩
  have Tt := Tt.keep b3
  replace BB := bstep BB b3
  clear b3
  obtain ⟨t0, t1, t2, t3, t4⟩ := id Tt
  go_wp2_with fail
  refine (speak_at t u t.b 60 60 0 none 0 [] _ (hT.keep BB) hb0 (by omega) (by decide) (by decide) rfl HU.out rfl (.inl rfl) (by simp [maxLen]) (by simp)).mono ?_
  clear t0 t1 t2 t3 t4
  rintro e w4 ⟨bk, off, cap, rfl, hl, b4⟩
  have Tt := Tt.keep b4
  replace BB := bstep BB b4
  clear b4
  go_wp2_with fail
  have hl2 : ∀ j, j < 60 → (w4.alloc (.cells #[.int .i64 u.i, .int .i64 u.b, .int .i64 u.f, .int .i64 u.c, .int .i64 u.s] 23)).cell? ⟨bk, off + j, none⟩ = some (.bool (runB t t.b [] j)) := fun j hj => old1 (hl j hj) _
  replace BB := ball BB (.cells #[.int .i64 u.i, .int .i64 u.b, .int .i64 u.f, .int .i64 u.c, .int .i64 u.s] 23)
  obtain ⟨Z, hZ⟩ : ∃ Z, w4.alloc (.cells #[.int .i64 u.i, .int .i64 u.b, .int .i64 u.f, .int .i64 u.c, .int .i64 u.s] 23) = Z := ⟨_, rfl⟩
  rw [hZ] at hl2 BB ⊢
  have HL := Lib.hid hl2
  clear hZ hl hl2 Tt
  go_loop [3, 8, 9] (fun up last i => ∃ k : Nat, k ≤ 60 ∧ i = .int .i64 k ∧ last = .int .i64 (lastV t t.b k) ∧ up = .bool true) (fun _ _ i => 60 - (intOf i).toNat)
  case atStart => exact ⟨0, Nat.zero_le _, rfl, rfl, rfl⟩
  case round =>
    obtain ⟨k, hk, rfl, rfl, rfl⟩ := hrel
    have hlast : -1 ≤ lastV t t.b k ∧ lastV t t.b k ≤ k := last_bd t t.b k
    obtain ⟨z0, z1⟩ := hlast
    by_cases hlt : k < 60
    · have hlt' : (k : Int) < 60 := by omega
      have hk0 : (0 : Int) ≤ (k : Int) := by omega
      have c0 := HL.out k hlt
      have hA := HA.out k (by omega)
      have hs : lastV t t.b (k + 1) = if runB t t.b [] k = true then (k : Int) else lastV t t.b k := rfl
      obtain ⟨y, hy⟩ : ∃ y, runB t t.b [] k = y := ⟨_, rfl⟩
      obtain ⟨z, hz⟩ : ∃ z, lastV t t.b k = z := ⟨_, rfl⟩
      rw [hy, hz] at hs
      rw [hs] at hA
      rw [hz] at z0 z1 ⊢
      rw [hy] at c0
      have HS := Lib.hid hs
      clear hs hy hz
      cases y
      · simp only [Bool.false_eq_true, if_false] at hA
        go_wp2_with fail
        go_round
        case rel => exact ⟨k + 1, by omega, by go_num, by rw [HS.out]; rfl, rfl⟩
        case measure => simp [intOf]; omega
      · simp only [if_true] at hA
        go_wp2_with fail
        go_round
        case rel => exact ⟨k + 1, by omega, by go_num, by rw [HS.out]; rfl, rfl⟩
        case measure => simp [intOf]; omega
    · have hk60 : k = 60 := by omega
      subst hk60
      go_wp2_with fail
      go_ret
      exact ⟨rfl, BB⟩
set_option maxRecDepth 100000 in
set_option maxHeartbeats 4000000 in
theorem lawReset (t : Tk) (n : Int) (w : World) (hT : Tab w) : Calls Tryd.prog 9 #[t.v, .int .i64 n] w (Fine w) := by
  cases hv : usableB t n
  · have HV := Lib.hid hv; clear hv
    go_enter Tryd.func9, Tryd.ntmps9
    go_wp2_with fail
    have Tt := TkAt.new w t 23
    have BB : Below w.heap.size w (w.alloc (.cells #[.int .i64 t.i, .int .i64 t.b, .int .i64 t.f, .int .i64 t.c, .int .i64 t.s] 23)) := ball (Below.refl _ _) _
    obtain ⟨V1, hV1⟩ : ∃ V1, w.alloc (.cells #[.int .i64 t.i, .int .i64 t.b, .int .i64 t.f, .int .i64 t.c, .int .i64 t.s] 23) = V1 := ⟨_, rfl⟩
    rw [hV1] at Tt BB  ⊢
    clear hV1
    refine (head_any _ (hT.keep BB)).mono ?_
    rintro e w2 ⟨rfl, b2⟩
    have Tt := Tt.keep b2
    replace BB := bstep BB b2
    clear b2
    obtain ⟨t0, t1, t2, t3, t4⟩ := id Tt
    go_wp2_with fail
    refine (usable_at t n false _ HV.out).mono ?_
    clear t0 t1 t2 t3 t4
    rintro e w3 ⟨rfl, b3⟩
    have Tt := Tt.keep b3
    replace BB := bstep BB b3
    clear b3
    obtain ⟨t0, t1, t2, t3, t4⟩ := id Tt
    go_wp2_with fail
    go_ret
    exact ⟨rfl, BB⟩
  · have hsp := reset_speaks hv
    obtain ⟨hV, hnb, _, hn⟩ := usable_iff.1 hv
    have hb0 := hV.b0
    have n0 : 0 ≤ n := by omega
    have HV := Lib.hid hv
    obtain ⟨r, hr⟩ : ∃ r, resetV t n = r := ⟨_, rfl⟩
    rw [hr] at hsp
    have HR := Lib.hid hr
    obtain ⟨u, hu⟩ : ∃ u, runT r n [] 4 = u := ⟨_, rfl⟩
    have HU := Lib.hid hu
    have hor : orTo (runB r n []) 4 = true := by simpa [orTo] using hsp
    have HO := Lib.hid hor
    clear hV hu hv hsp hr hor
    go_enter Tryd.func9, Tryd.ntmps9
    go_wp2_with fail
    have Tt := TkAt.new w t 23
    have BB : Below w.heap.size w (w.alloc (.cells #[.int .i64 t.i, .int .i64 t.b, .int .i64 t.f, .int .i64 t.c, .int .i64 t.s] 23)) := ball (Below.refl _ _) _
    obtain ⟨V1, hV1⟩ : ∃ V1, w.alloc (.cells #[.int .i64 t.i, .int .i64 t.b, .int .i64 t.f, .int .i64 t.c, .int .i64 t.s] 23) = V1 := ⟨_, rfl⟩
    rw [hV1] at Tt BB  ⊢
    clear hV1
    refine (head_any _ (hT.keep BB)).mono ?_
    rintro e w2 ⟨rfl, b2⟩
    have Tt := Tt.keep b2
    replace BB := bstep BB b2
    clear b2
    obtain ⟨t0, t1, t2, t3, t4⟩ := id Tt
    go_wp2_with fail
    refine (usable_at t n true _ HV.out).mono ?_
    clear t0 t1 t2 t3 t4
    rintro e w3 ⟨rfl, b3⟩
    have Tt := Tt.keep b3
    replace BB := bstep BB b3
    clear b3
    obtain ⟨t0, t1, t2, t3, t4⟩ := id Tt
    go_wp2_with fail
    refine (reset_at t r n _ (hT.keep BB) HR.out).mono ?_
    clear t0 t1 t2 t3 t4
    rintro e w4 ⟨rfl, b4⟩
    have Tt := Tt.keep b4
    replace BB := bstep BB b4
    clear b4
    go_wp2_with fail
    refine (speak_at r u n 4 4 0 none 0 [] _ (hT.keep BB) n0 (by omega) (by decide) (by decide) rfl HU.out rfl (.inl rfl) (by simp [maxLen]) (by simp)).mono ?_
    rintro e w5 ⟨bk, off, cap, rfl, hl, b5⟩
    have Tt := Tt.keep b5
    replace BB := bstep BB b5
    clear b5
    go_wp2_with fail
    have hl2 : ∀ j, j < 4 → (w5.alloc (.cells #[.int .i64 u.i, .int .i64 u.b, .int .i64 u.f, .int .i64 u.c, .int .i64 u.s] 23)).cell? ⟨bk, off + j, none⟩ = some (.bool (runB r n [] j)) := fun j hj => old1 (hl j hj) _
    replace BB := ball BB (.cells #[.int .i64 u.i, .int .i64 u.b, .int .i64 u.f, .int .i64 u.c, .int .i64 u.s] 23)
    obtain ⟨Z, hZ⟩ : ∃ Z, w5.alloc (.cells #[.int .i64 u.i, .int .i64 u.b, .int .i64 u.f, .int .i64 u.c, .int .i64 u.s] 23) = Z := ⟨_, rfl⟩
    rw [hZ] at hl2 BB ⊢
    have HL := Lib.hid hl2
    clear hZ hl hl2 Tt
    go_loop [9, 10] (fun sm i => ∃ k : Nat, k ≤ 4 ∧ i = .int .i64 k ∧ sm = .bool (orTo (runB r n []) k)) (fun _ i => 4 - (intOf i).toNat)
    case atStart => exact ⟨0, Nat.zero_le _, rfl, rfl⟩
    case round =>
      obtain ⟨k, hk, rfl, rfl⟩ := hrel
      by_cases hlt : k < 4
      · have hlt' : (k : Int) < 4 := by omega
        have hk0 : (0 : Int) ≤ (k : Int) := by omega
        have c0 := HL.out k hlt
        have hs : orTo (runB r n []) (k + 1) = (orTo (runB r n []) k || runB r n [] k) := rfl
        obtain ⟨y, hy⟩ : ∃ y, runB r n [] k = y := ⟨_, rfl⟩
        obtain ⟨z, hz⟩ : ∃ z, orTo (runB r n []) k = z := ⟨_, rfl⟩
        rw [hy, hz] at hs
        rw [hz]
        rw [hy] at c0
        have HS := Lib.hid hs
        clear hs hy hz
        cases z
        all_goals
          go_wp2_with fail
          go_round
          case rel => exact ⟨k + 1, by omega, by go_num, by rw [HS.out]; simp⟩
          case measure => simp [intOf]; omega
      · have hk60 : k = 4 := by omega
        subst hk60
        rw [HO.out]
        go_wp2_with fail
        go_ret
        exact ⟨rfl, BB⟩
set_option maxRecDepth 100000 in
set_option maxHeartbeats 4000000 in
theorem lawSeldom (t : Tk) (n : Int) (a : Option Addr) (cap : Nat) (hs : List Int) (w : World) (hT : Tab w) (hl : IntsAt .u8 w a hs) (hlm : hs.length ≤ maxLen) (hw : ∀ z ∈ hs, (Lit.int .u8 z).wf = true) : Calls Tryd.prog 3 #[t.v, .int .i64 n, .slice a hs.length cap] w (Fine w) := by
  obtain ⟨Ln, hLn⟩ : ∃ Ln, hs.length = Ln := ⟨_, rfl⟩
  have HLN := Lib.hid hLn; have HLM := Lib.hid hlm; have HW := Lib.hid hw
  rw [hLn]
  clear hLn hlm hw
  cases hv : usableB t n
  · have HV := Lib.hid hv; clear hv
    go_enter Tryd.func3, Tryd.ntmps3
    go_wp2_with fail
    have Tt := TkAt.new w t 23
    have BB : Below w.heap.size w (w.alloc (.cells #[.int .i64 t.i, .int .i64 t.b, .int .i64 t.f, .int .i64 t.c, .int .i64 t.s] 23)) := ball (Below.refl _ _) _
    obtain ⟨V1, hV1⟩ : ∃ V1, w.alloc (.cells #[.int .i64 t.i, .int .i64 t.b, .int .i64 t.f, .int .i64 t.c, .int .i64 t.s] 23) = V1 := ⟨_, rfl⟩
    rw [hV1] at Tt BB  ⊢
    clear hV1
    refine (head_any _ (hT.keep BB)).mono ?_
    rintro e w2 ⟨rfl, b2⟩
    have Tt := Tt.keep b2
    replace BB := bstep BB b2
    clear b2
    obtain ⟨t0, t1, t2, t3, t4⟩ := id Tt
    go_wp2_with fail
    refine (usable_at t n false _ HV.out).mono ?_
    clear t0 t1 t2 t3 t4
    rintro e w3 ⟨rfl, b3⟩
    have Tt := Tt.keep b3
    replace BB := bstep BB b3
    clear b3
    obtain ⟨t0, t1, t2, t3, t4⟩ := id Tt
    go_wp2_with fail
    go_ret
    exact ⟨rfl, BB⟩
  by_cases h8 : ¬ t.i = 8
  · have HV := Lib.hid hv; clear hv
    have h8b : (t.i != 8) = true := by simpa using h8
    go_enter Tryd.func3, Tryd.ntmps3
    go_wp2_with fail
    have Tt := TkAt.new w t 23
    have BB : Below w.heap.size w (w.alloc (.cells #[.int .i64 t.i, .int .i64 t.b, .int .i64 t.f, .int .i64 t.c, .int .i64 t.s] 23)) := ball (Below.refl _ _) _
    obtain ⟨V1, hV1⟩ : ∃ V1, w.alloc (.cells #[.int .i64 t.i, .int .i64 t.b, .int .i64 t.f, .int .i64 t.c, .int .i64 t.s] 23) = V1 := ⟨_, rfl⟩
    rw [hV1] at Tt BB  ⊢
    clear hV1
    refine (head_any _ (hT.keep BB)).mono ?_
    rintro e w2 ⟨rfl, b2⟩
    have Tt := Tt.keep b2
    replace BB := bstep BB b2
    clear b2
    obtain ⟨t0, t1, t2, t3, t4⟩ := id Tt
    go_wp2_with fail
    refine (usable_at t n true _ HV.out).mono ?_
    clear t0 t1 t2 t3 t4
    rintro e w3 ⟨rfl, b3⟩
    have Tt := Tt.keep b3
    replace BB := bstep BB b3
    clear b3
    obtain ⟨t0, t1, t2, t3, t4⟩ := id Tt
    go_wp2_with fail
    go_ret
    exact ⟨rfl, BB⟩
  have h8' : t.i = 8 := Decidable.of_not_not h8
  have HSD := Lib.hid (fun (i k : Nat) => seldom_of hv h8' hs (i := i) (k := k))
  obtain ⟨hV, hnb, _, hn⟩ := usable_iff.1 hv
  have hb0 := hV.b0
  have n0 : 0 ≤ n := by omega
  have HV := Lib.hid hv
  obtain ⟨u, hu⟩ : ∃ u, runT t n hs 60 = u := ⟨_, rfl⟩
  have HU := Lib.hid hu
  obtain ⟨ti, tb, tf, tc, ts⟩ := t
  simp only at h8'
  subst h8'
  clear hV hu hv h8
  go_enter Tryd.func3, Tryd.ntmps3
  go_wp2_with fail
  have Tt := TkAt.new w (⟨8, tb, tf, tc, ts⟩ : Tk) 23
  have BB : Below w.heap.size w (w.alloc (.cells #[.int .i64 (⟨8, tb, tf, tc, ts⟩ : Tk).i, .int .i64 (⟨8, tb, tf, tc, ts⟩ : Tk).b, .int .i64 (⟨8, tb, tf, tc, ts⟩ : Tk).f, .int .i64 (⟨8, tb, tf, tc, ts⟩ : Tk).c, .int .i64 (⟨8, tb, tf, tc, ts⟩ : Tk).s] 23)) := ball (Below.refl _ _) _
  obtain ⟨V1, hV1⟩ : ∃ V1, w.alloc (.cells #[.int .i64 (⟨8, tb, tf, tc, ts⟩ : Tk).i, .int .i64 (⟨8, tb, tf, tc, ts⟩ : Tk).b, .int .i64 (⟨8, tb, tf, tc, ts⟩ : Tk).f, .int .i64 (⟨8, tb, tf, tc, ts⟩ : Tk).c, .int .i64 (⟨8, tb, tf, tc, ts⟩ : Tk).s] 23) = V1 := ⟨_, rfl⟩
  rw [hV1] at Tt BB  ⊢
  clear hV1
  refine (head_any _ (hT.keep BB)).mono ?_
  rintro e w2 ⟨rfl, b2⟩
  have Tt := Tt.keep b2
  replace BB := bstep BB b2
  clear b2
  obtain ⟨t0, t1, t2, t3, t4⟩ := id Tt
  simp only at t0 t1 t2 t3 t4
  go_wp2_with fail
  refine (usable_at (⟨8, tb, tf, tc, ts⟩ : Tk) n true _ HV.out).mono ?_
  clear t0 t1 t2 t3 t4
  rintro e w3 ⟨rfl, b3⟩
  have Tt := Tt.keep b3
  replace BB := bstep BB b3
  clear b3
  obtain ⟨t0, t1, t2, t3, t4⟩ := id Tt
  simp only at t0 t1 t2 t3 t4
  go_wp2_with fail
  refine (speak_at (⟨8, tb, tf, tc, ts⟩ : Tk) u n 60 60 Ln a cap hs _ (hT.keep BB) n0 (by omega) (by decide) (by decide) rfl HU.out HLN.out (hl.keep BB) HLM.out HW.out).mono ?_
  clear t0 t1 t2 t3 t4
  rintro e w4 ⟨bk, off, cap2, rfl, hL, b4⟩
  have Tt := Tt.keep b4
  replace BB := bstep BB b4
  clear b4
  go_wp2_with fail
  have hl2 : ∀ j, j < 60 → (w4.alloc (.cells #[.int .i64 u.i, .int .i64 u.b, .int .i64 u.f, .int .i64 u.c, .int .i64 u.s] 23)).cell? ⟨bk, off + j, none⟩ = some (.bool (runB (⟨8, tb, tf, tc, ts⟩ : Tk) n hs j)) := fun j hj => old1 (hL j hj) _
  replace BB := ball BB (.cells #[.int .i64 u.i, .int .i64 u.b, .int .i64 u.f, .int .i64 u.c, .int .i64 u.s] 23)
  obtain ⟨Z, hZ⟩ : ∃ Z, w4.alloc (.cells #[.int .i64 u.i, .int .i64 u.b, .int .i64 u.f, .int .i64 u.c, .int .i64 u.s] 23) = Z := ⟨_, rfl⟩
  rw [hZ] at hl2 BB ⊢
  obtain ⟨f, hf⟩ : ∃ f, runB (⟨8, tb, tf, tc, ts⟩ : Tk) n hs = f := ⟨_, rfl⟩
  rw [hf] at hl2 HSD
  have HL := Lib.hid hl2
  clear hZ hL hl2 Tt hl hf
  go_loop [7, 11] (fun up i => ∃ k : Nat, k ≤ 60 ∧ i = .int .i64 k ∧ up = .bool true) (fun _ i => 60 - (intOf i).toNat)
  case atStart => exact ⟨0, Nat.zero_le _, rfl, rfl⟩
  case round =>
    obtain ⟨k, hk, rfl, rfl⟩ := hrel
    by_cases hlt : k < 60
    · have hlt' : (k : Int) < 60 := by omega
      have hk0 : (0 : Int) ≤ (k : Int) := by omega
      have c0 := HL.out k hlt
      go_wp2_with fail
      go_loop [7, 12] (fun up i => ∃ q : Nat, k < q ∧ q ≤ 60 ∧ i = .int .i64 q ∧ up = .bool true) (fun _ i => 60 - (intOf i).toNat)
      case atStart => exact ⟨k + 1, by omega, by omega, by go_num, rfl⟩
      case round =>
        obtain ⟨q, hkq, hq, rfl, rfl⟩ := hrel
        by_cases hq6 : q < 60
        · have hq6' : (q : Int) < 60 := by omega
          have hq0 : (0 : Int) ≤ (q : Int) := by omega
          by_cases hq4 : q < k + 4
          · have hq4' : (q : Int) < (k : Int) + 4 := by omega
            have c1 := HL.out q hq6
            have hsd := HSD.out k q (by omega) hkq hq4
            obtain ⟨y, hy⟩ : ∃ y, f k = y := ⟨_, rfl⟩
            obtain ⟨z, hz⟩ : ∃ z, f q = z := ⟨_, rfl⟩
            rw [hy] at hsd c0
            rw [hz] at hsd c1
            clear hy hz
            cases y
            · clear hsd
              go_wp2_with fail
              go_round
              case rel => exact ⟨q + 1, by omega, by omega, by go_num, rfl⟩
              case measure => simp [intOf]; omega
            · have hzf : z = false := by simpa using hsd
              subst hzf
              clear hsd
              go_wp2_with fail
              go_round
              case rel => exact ⟨q + 1, by omega, by omega, by go_num, rfl⟩
              case measure => simp [intOf]; omega
          · have hq4' : ¬ (q : Int) < (k : Int) + 4 := by omega
            go_wp2_with fail
            go_round
            case rel => exact ⟨k + 1, by omega, by go_num, rfl⟩
            case measure => simp [intOf]; omega
        · have hqe : q = 60 := by omega
          subst hqe
          go_wp2_with fail
          go_round
          case rel => exact ⟨k + 1, by omega, by go_num, rfl⟩
          case measure => simp [intOf]; omega
    · have hk60 : k = 60 := by omega
      subst hk60
      go_wp2_with fail
      go_ret
      exact ⟨rfl, BB⟩
end Go.Proofs.YteeajkopigdblaaDoor
