/- Proved: what the statements' helper all returns where each counter is noted. Conditions: the list lies in memory, and each of its counters is noted. -/
import Derived.Test.YtlofghfdcfpaiaaS1
namespace Go.Proofs.Ytlofghfdcfpaiaa
open Go.RowKit Go.Sort
set_option linter.unusedVariables false
attribute [local go_sem] cell_alloc_old

/-- The window behind the first counters of a list. -/
def stT (T : Int) (B : Nat) (zs : List Int) : Nat → Int × Nat
  | 0 => (T, B)
  | k + 1 => (noteT (stT T B zs k).1 (stT T B zs k).2 (zs.getD k 0), noteB (stT T B zs k).1 (stT T B zs k).2 (zs.getD k 0))
theorem stT_lt {T : Int} {B : Nat} {zs : List Int} (hB : B < U) : ∀ k, (stT T B zs k).2 < U
  | 0 => hB
  | k + 1 => noteB_lt _ _ _

set_option maxHeartbeats 1000000 in
theorem all_any (T : Int) (B : Nat) (a : Option Addr) (cap : Nat) (zs : List Int) (w : World) (hB : B < U) (hz : IntsAt .i64 w a zs) (hm : zs.length ≤ maxLen)
    (hok : ∀ k, k < zs.length → noteE (stT T B zs k).1 (stT T B zs k).2 (zs.getD k 0) = 0) :
    Calls Try.prog 17 #[.agg #[.int .i64 T, .int .u64 B], .slice a zs.length cap] w fun e w' =>
      e = .returned (.tuple #[.agg #[.int .i64 (stT T B zs zs.length).1, .int .u64 (stT T B zs zs.length).2], .bool true]) ∧ Below w.heap.size w w' := by
  unfold maxLen at hm
  obtain ⟨n, hn⟩ : ∃ n, n = zs.length := ⟨_, rfl⟩
  rw [← hn] at hm hok ⊢
  have HN := Lib.hid hn; clear hn
  have HO := Lib.hid hok; clear hok
  go_enter Try.func17, Try.ntmps17
  go_wp2_with fail
  go_loopw [12] (fun i wr => ∃ k : Nat, k ≤ n ∧ i = .int .i64 k ∧ 
      wr.cell? ⟨w.heap.size, 0, none⟩ = some (.int .i64 (stT T B zs k).1) ∧ wr.cell? ⟨w.heap.size, 1, none⟩ = some (.int .u64 (stT T B zs k).2) ∧
      wr.frozen? ⟨w.heap.size, 0, none⟩ = false ∧ wr.frozen? ⟨w.heap.size, 1, none⟩ = false ∧ 
      wr.cell? ⟨w.heap.size + 1, 0, none⟩ = some (.int .i64 0) ∧ wr.cell? ⟨w.heap.size + 1, 1, none⟩ = some (.int .u64 0) ∧
      wr.frozen? ⟨w.heap.size + 1, 0, none⟩ = false ∧ wr.frozen? ⟨w.heap.size + 1, 1, none⟩ = false ∧ Below w.heap.size w wr) (fun i _ => n - (intOf i).toNat)
  case atStart => exact ⟨0, Nat.zero_le _, rfl, old1 (by simp [stT]) _, old1 (by simp [stT]) _, by simp, by simp, by simp, by simp, by simp, by simp, ball (ball (Below.refl _ _) _) _⟩
  case round =>
    obtain ⟨k, hk, rfl, t0, t1, f0, f1, r0, r1, g0, g1, hB1⟩ := hrel
    have hU := stT_lt (T := T) (zs := zs) hB k
    by_cases hlt : k < n
    · obtain ⟨b, off, ha, hc⟩ : ∃ b off, a = some ⟨b, off, none⟩ ∧ w.cell? ⟨b, off + k, none⟩ = some (.int .i64 (zs.getD k 0)) := by
        rcases hz with h | ⟨b, off, ha, h⟩
        · subst h; have := HN.out; simp at this; omega
        · exact ⟨b, off, ha, h k (by rw [← HN.out]; exact hlt)⟩
      subst ha
      have hcr := keep1 hB1 hc
      have he := HO.out k hlt
      have hs1 : (stT T B zs (k + 1)).1 = noteT (stT T B zs k).1 (stT T B zs k).2 (zs.getD k 0) := rfl
      have hs2 : (stT T B zs (k + 1)).2 = noteB (stT T B zs k).1 (stT T B zs k).2 (zs.getD k 0) := rfl
      obtain ⟨x, hx⟩ : ∃ x, x = zs.getD k 0 := ⟨_, rfl⟩
      obtain ⟨p, hp⟩ : ∃ p, p = stT T B zs k := ⟨_, rfl⟩
      rw [← hx] at hcr he hs1 hs2
      rw [← hp] at he hs1 hs2 t0 t1 hU
      have HX := Lib.hid hx; clear hx
      have HP := Lib.hid hp; clear hp
      have HS1 := Lib.hid hs1; clear hs1
      have HS2 := Lib.hid hs2; clear hs2
      have HE := Lib.hid he; clear he
      go_wp2_with fail
      refine (note_any _ _ _ _ hU).mono ?_
      rw [HE.out]
      rintro e w1 ⟨rfl, hb⟩
      have ht0 := keep1 hb t0
      have ht1 := keep1 hb t1
      have hf0 := keepF hb t0 f0
      have hf1 := keepF hb t1 f1
      have hr0 := keep1 hb r0
      have hr1 := keep1 hb r1
      have hg0 := keepF hb r0 g0
      have hg1 := keepF hb r1 g1
      have hB2 := bstep hB1 hb
      have z1 := World.block_lt_of_cell? _ _ ht0
      have z2 := World.block_lt_of_cell? _ _ hr0
      simp only at z1 z2
      clear t0 t1 f0 f1 r0 r1 g0 g1 hB1 hcr
      have ne1 : ¬ w1.heap.size = w.heap.size := by omega
      have ne2 : ¬ w1.heap.size = w.heap.size + 1 := by omega
      have ne3 : ¬ w.heap.size = w1.heap.size := by omega
      have ne4 : ¬ w.heap.size + 1 = w1.heap.size := by omega
      go_wp2_with fail
      go_roundw
      case rel =>
        refine ⟨k + 1, by omega, by go_num, ?_, ?_, ?_, ?_, ?_, ?_, ?_, ?_, ?_⟩
        · rw [HS1.out]; go_simp
        · rw [HS2.out]; go_simp
        · go_simp
        · go_simp
        · go_simp
        · go_simp
        · go_simp
        · go_simp
        · repeat (first | exact hB2 | refine Below.setCell ?_ (by first | exact Nat.le_refl _ | (simp; done) | (simp; omega)) _ | refine Below.alloc ?_ (by simp; omega) _ | refine Below.drew ?_)
      case measure => simp [intOf]; omega
    · have hkn : k = n := by omega
      subst hkn
      go_wp2_with fail
      refine bodyPost_ret (v := .tuple #[.agg #[.int .i64 (stT T B zs k).1, .int .u64 (stT T B zs k).2], .bool true]) (by simp [results, Try.results17, go_sem, *]) rfl ⟨rfl, ?_⟩
      exact ((hB1).setCell (by simp) _).setCell (by simp) _
end Go.Proofs.Ytlofghfdcfpaiaa
