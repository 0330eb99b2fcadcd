/- Proved: what the statements' helper counters returns, and what all does with a list of counters. Conditions: a list that came in lies in memory. -/
import Derived.Test.YtlofghfdcfpaiaaMade
import Derived.Test.YtlofghfdcfpaiaaR2
import Derived.Test.YtlofghfdcfpaiaaR7
import Derived.Lib.MinMax
namespace Go.Proofs.Ytlofghfdcfpaiaa
open Go.RowKit Go.Sort
set_option linter.unusedVariables false
attribute [local go_sem] cell_alloc_old

theorem info3 : (Try.prog.info? 3).map (fun i => (i.zero, i.size, i.bytes)) = some (some (.int .i64 0), 1, 8) := by kernel_rfl

def cntAt (zs : List Int) : Nat → Int
  | 0 => 500
  | k + 1 => max 1 (cntAt zs k + zs.getD k 0)
def cnt (zs : List Int) : Nat → List Int
  | 0 => []
  | k + 1 => cnt zs k ++ [cntAt zs (k + 1)]
theorem cnt_len (zs : List Int) : ∀ k, (cnt zs k).length = k
  | 0 => rfl
  | k + 1 => by rw [cnt, List.length_append, cnt_len zs k]; rfl
theorem i8_bd {zs : List Int} (h : ∀ z ∈ zs, (Lit.int .i8 z).wf = true) (k : Nat) : -128 ≤ zs.getD k 0 ∧ zs.getD k 0 ≤ 127 := by
  by_cases hk : k < zs.length
  · exact wf_bd (wf_at h hk)
  · rw [List.getD_eq_getElem?_getD, List.getElem?_eq_none (by omega)]; simp
theorem cntAt_bd {zs : List Int} (h : ∀ z ∈ zs, (Lit.int .i8 z).wf = true) : ∀ k : Nat, 1 ≤ cntAt zs k ∧ cntAt zs k ≤ 500 + 127 * k
  | 0 => by simp [cntAt]
  | k + 1 => by
    have := cntAt_bd h k
    have := i8_bd h k
    rw [cntAt]; omega
theorem cnt_bd {zs : List Int} (h : ∀ z ∈ zs, (Lit.int .i8 z).wf = true) : ∀ (k : Nat), k ≤ 100 → ∀ x ∈ cnt zs k, 1 ≤ x ∧ x ≤ 13200
  | 0, _, x, hx => by simp [cnt] at hx
  | k + 1, hk, x, hx => by
    rw [cnt, List.mem_append] at hx
    rcases hx with hx | hx
    · exact cnt_bd h k (by omega) x hx
    · simp at hx; subst hx
      have := cntAt_bd h (k + 1)
      omega

set_option maxHeartbeats 1000000 in
theorem counters_any (a : Option Addr) (cap : Nat) (zs : List Int) (w : World) (hz : IntsAt .i8 w a zs) (hm : zs.length ≤ maxLen) (hwf : ∀ z ∈ zs, (Lit.int .i8 z).wf = true) :
    Calls Try.prog 16 #[.slice a zs.length cap] w fun e w' => ∃ v, e = .returned v ∧ ∃ out, Own .i64 w' w.heap.size 3 v out ∧ out.length ≤ 100 ∧ (∀ x ∈ out, 1 ≤ x ∧ x ≤ 13200) ∧ Below w.heap.size w w' := by
  obtain ⟨i0, hi, hz0, hz1, hz2⟩ := info_parts info3
  unfold maxLen at hm
  generalize hn : zs.length = n at *
  have HN := Lib.hid hn; clear hn
  go_enter Try.func16, Try.ntmps16
  go_wp2_with fail
  go_loopw [3, 4, 5] (fun v t i wr => ∃ k : Nat, k ≤ n ∧ k ≤ 100 ∧ i = .int .i64 k ∧ t = .int .i64 (cntAt zs k) ∧ Own .i64 wr w.heap.size 3 v (cnt zs k) ∧ Below w.heap.size w wr) (fun _ _ i _ => n - (intOf i).toNat)
  case atStart => exact ⟨0, Nat.zero_le _, Nat.zero_le _, rfl, rfl, Own.nil _ _ _ _, Below.refl _ _⟩
  case round =>
    obtain ⟨k, hk, hk100, rfl, rfl, hown, hB⟩ := hrel
    by_cases hlt : k < n
    · by_cases h100 : k < 100
      · have h100' : (k : Int) < 100 := by omega
        obtain ⟨b, off, ha, hc⟩ : ∃ b off, a = some ⟨b, off, none⟩ ∧ w.cell? ⟨b, off + k, none⟩ = some (.int .i8 (zs.getD k 0)) := by
          rcases hz with h | ⟨b, off, ha, h⟩
          · subst h; have := HN.out; simp at this; omega
          · exact ⟨b, off, ha, h k (by rw [HN.out]; exact hlt)⟩
        subst ha
        have hcr := keep1 hB hc
        have hw := i8_bd hwf k
        have ht := cntAt_bd hwf k
        have hstep : cntAt zs (k + 1) = max 1 (cntAt zs k + zs.getD k 0) := rfl
        obtain ⟨x, hx⟩ : ∃ x, x = zs.getD k 0 := ⟨_, rfl⟩
        obtain ⟨t, htt⟩ : ∃ t, t = cntAt zs k := ⟨_, rfl⟩
        rw [← hx] at hcr hw hstep
        rw [← htt] at ht hstep
        have hl := cnt_len zs k
        have HL := Lib.hid hl; clear hl
        have HX := Lib.hid hx; clear hx
        have HT := Lib.hid htt; clear htt
        have HS := Lib.hid hstep; clear hstep
        rw [← HT.out]
        go_wp2_with (first
          | (at_builtin; refine wpList_append_own _ rfl _ _ 33 rfl w.heap.size 3 i0 (.int .i64 0) 1 8 Try.underlying33 hi hz0 hz1 hz2 rfl (by decide) _ _ _ rfl (World.ownsRow.alloc hown _) ⟨wr.heap.size, 0, none⟩ 1 1 [.int .i64 (max 1 (t + x))] rfl rfl (one_new _ _ _) (one_int _ _) (by rw [HL.out]; unfold maxLen; omega) (by rw [HL.out]; omega) (by have := hB.size; simp; omega) ?_; intro v' w1 hown' hgrow _))
        have hB' := grown_below hB hown (Nat.le_refl _) hgrow
        have hown2 := Own.push hown'
        rw [← HS.out] at hown2
        clear hown' hgrow
        go_wp2
        go_roundw
        case rel => exact ⟨k + 1, by omega, by omega, by go_num, by rw [HS.out], hown2, hB'⟩
        case measure => simp [intOf]; omega
      · have h100' : ¬ (k : Int) < 100 := by omega
        go_wp2_with fail
        go_ret
        exact ⟨_, rfl, _, hown, by rw [cnt_len]; exact hk100, cnt_bd hwf k hk100, hB⟩
    · go_wp2_with fail
      go_ret
      exact ⟨_, rfl, _, hown, by rw [cnt_len]; exact hk100, cnt_bd hwf k hk100, hB⟩
end Go.Proofs.Ytlofghfdcfpaiaa
