/- Proved: what the reference Of and counted and the counter's add do. Conditions: the list lies in memory; the counts are small. -/
import Derived.Test.YtfhdpogngdgklaaL3
namespace Go.Proofs.Ytfhdpogngdgklaa
open Go.RowKit Go.Sort Go.BigFrame
set_option linter.unusedVariables false
set_option linter.unusedSimpArgs false
attribute [local go_sem] cell_alloc_old

def ofV (ls : List Lk) (peer : Int) : Lk := (ls.find? (fun x => x.p == peer)).getD ⟨peer, 0, 0⟩
theorem of_hit {peer : Int} : ∀ {ls : List Lk} {k : Nat}, (∀ i, i < k → (ls.getD i default).p ≠ peer) → k < ls.length → (ls.getD k default).p = peer → ofV ls peer = ls.getD k default
  | [], k, _, h, _ => by simp at h
  | x :: l, 0, _, _, h => by
    have h' : x.p = peer := h
    simp [ofV, List.find?_cons, h']
  | x :: l, k + 1, h0, h1, h2 => by
    have hx : x.p ≠ peer := h0 0 (Nat.succ_pos _)
    have := of_hit (ls := l) (k := k) (fun i hi => h0 (i + 1) (by omega)) (by simpa using h1) h2
    unfold ofV at this ⊢
    rw [List.find?_cons_of_neg (by simpa using hx), this]; rfl
theorem of_miss {peer : Int} : ∀ {ls : List Lk}, (∀ i, i < ls.length → (ls.getD i default).p ≠ peer) → ofV ls peer = ⟨peer, 0, 0⟩
  | [], _ => rfl
  | x :: l, h0 => by
    have hx : x.p ≠ peer := h0 0 (by simp)
    have := of_miss (ls := l) (fun i hi => h0 (i + 1) (by simp; omega))
    unfold ofV at this ⊢
    rw [List.find?_cons_of_neg (by simpa using hx), this]

set_option maxRecDepth 100000 in
set_option maxHeartbeats 2000000 in
theorem rof_any (a : Option Addr) (cap : Nat) (ls : List Lk) (peer : Int) (w : World) (hl : LkAt w a ls) (hm : ls.length ≤ maxLen) :
    Calls Try.prog 16 #[.slice a ls.length cap, .int .i64 peer] w fun e w' => e = .returned (.agg #[.int .i64 (ofV ls peer).p, .int .i64 (ofV ls peer).s, .int .i64 (ofV ls peer).g]) ∧ Below w.heap.size w w' := by
  unfold maxLen at hm
  obtain ⟨n, hn⟩ : ∃ n, n = ls.length := ⟨_, rfl⟩
  rw [← hn] at hm ⊢
  have HN := Lib.hid hn; clear hn
  go_enter Try.func16, Try.ntmps16
  go_wp2_with fail
  have BV : Below w.heap.size w (w.alloc (.cells #[.int .i64 0, .int .i64 0, .int .i64 0] 32)) := ball (Below.refl _ _) _
  have r0 : (w.alloc (.cells #[.int .i64 0, .int .i64 0, .int .i64 0] 32)).cell? ⟨w.heap.size, 0, none⟩ = some (.int .i64 0) := new0 rfl rfl
  have r1 : (w.alloc (.cells #[.int .i64 0, .int .i64 0, .int .i64 0] 32)).cell? ⟨w.heap.size, 1, none⟩ = some (.int .i64 0) := new0 rfl rfl
  have r2 : (w.alloc (.cells #[.int .i64 0, .int .i64 0, .int .i64 0] 32)).cell? ⟨w.heap.size, 2, none⟩ = some (.int .i64 0) := new0 rfl rfl
  have rf : ∀ j, (w.alloc (.cells #[.int .i64 0, .int .i64 0, .int .i64 0] 32)).frozen? ⟨w.heap.size, j, none⟩ = false := fun j => by
    rw [frozen?_alloc_cells]; exact frz_new (Nat.le_refl _)
  have t0 := rf 0; have t1 := rf 1; have t2 := rf 2
  clear rf
  have hl := hl.keep BV
  obtain ⟨V, hV⟩ : ∃ V, w.alloc (.cells #[.int .i64 0, .int .i64 0, .int .i64 0] 32) = V := ⟨_, rfl⟩
  obtain ⟨c, hcc⟩ : ∃ c, w.heap.size = c := ⟨_, rfl⟩
  rw [hV] at BV r0 r1 r2 t0 t1 t2 hl ⊢
  rw [hcc] at r0 r1 r2 t0 t1 t2 ⊢
  clear hV
  have fsame : ∀ (x : Lk) z, ofV ls peer = x → Below w.heap.size w z → (Ending.returned (.agg #[.int .i64 x.p, .int .i64 x.s, .int .i64 x.g]) = .returned (.agg #[.int .i64 (ofV ls peer).p, .int .i64 (ofV ls peer).s, .int .i64 (ofV ls peer).g]) ∧ Below w.heap.size w z) := fun x z hx hz => by rw [hx]; exact ⟨rfl, hz⟩
  have FIN := Lib.hid fsame; clear fsame
  have HC := Lib.hid hcc; clear hcc
  go_loopw [5] (fun i wr => ∃ k : Nat, k ≤ n ∧ i = .int .i64 k ∧ (∀ i, i < k → (ls.getD i default).p ≠ peer) ∧ wr = V) (fun i _ => n - (intOf i).toNat)
  case atStart => exact ⟨0, Nat.zero_le _, rfl, fun i hi => absurd hi (Nat.not_lt_zero _), rfl⟩
  case round =>
    obtain ⟨k, hk, rfl, hno, rfl⟩ := hrel
    have HNO := Lib.hid hno; clear hno
    by_cases hlt : k < n
    · have hlt' : (k : Int) < (n : Int) := by omega
      have hk0 : (0 : Int) ≤ (k : Int) := by omega
      obtain ⟨b, off, rfl, hc⟩ := hl.at (i := k) (by rw [← HN.out]; exact hlt)
      obtain ⟨d0, d1, d2⟩ := hc k (by rw [← HN.out]; exact hlt)
      obtain ⟨x, hx⟩ : ∃ x, ls.getD k default = x := ⟨_, rfl⟩
      rw [hx] at d0 d1 d2
      have HX := Lib.hid hx
      clear hc hl hx
      by_cases hy : x.p = peer
      · go_wp2_with fail
        have B4 : Below w.heap.size w (((wr.setCell ⟨c, 0, none⟩ (.int .i64 peer)).setCell ⟨c, 1, none⟩ (.int .i64 x.s)).setCell ⟨c, 2, none⟩ (.int .i64 x.g)) := ((BV.setCell (p := ⟨c, 0, none⟩) (Nat.le_of_eq HC.out) _).setCell (p := ⟨c, 1, none⟩) (Nat.le_of_eq HC.out) _).setCell (p := ⟨c, 2, none⟩) (Nat.le_of_eq HC.out) _
        obtain ⟨q0, q1, q2⟩ := set3 (p := peer) (s := x.s) (g := x.g) r0 r1 r2
        obtain ⟨Z, hZ⟩ : ∃ Z, ((wr.setCell ⟨c, 0, none⟩ (.int .i64 peer)).setCell ⟨c, 1, none⟩ (.int .i64 x.s)).setCell ⟨c, 2, none⟩ (.int .i64 x.g) = Z := ⟨_, rfl⟩
        rw [hZ] at q0 q1 q2 B4 ⊢
        refine bodyPost_ret (v := .agg #[.int .i64 peer, .int .i64 x.s, .int .i64 x.g]) (by simp [results, Try.results16, go_sem, q0, q1, q2]) rfl ?_
        have he : ofV ls peer = ⟨peer, x.s, x.g⟩ := by
          rw [of_hit HNO.out (by rw [← HN.out]; exact hlt) (by rw [HX.out]; exact hy), HX.out, ← hy]
        exact FIN.out ⟨peer, x.s, x.g⟩ _ he B4
      · go_wp2_with fail
        go_roundw
        case rel => exact ⟨k + 1, by omega, by go_num, fun i hi => by
          rcases Nat.lt_or_ge i k with h | h
          · exact HNO.out i h
          · rw [show i = k from by omega, HX.out]; exact hy, trivial⟩
        case measure => simp [intOf]; omega
    · have hkn : n = k := by omega
      subst hkn
      clear hl
      go_wp2_with fail
      have B4 : Below w.heap.size w (((wr.setCell ⟨c, 0, none⟩ (.int .i64 peer)).setCell ⟨c, 1, none⟩ (.int .i64 0)).setCell ⟨c, 2, none⟩ (.int .i64 0)) := ((BV.setCell (p := ⟨c, 0, none⟩) (Nat.le_of_eq HC.out) _).setCell (p := ⟨c, 1, none⟩) (Nat.le_of_eq HC.out) _).setCell (p := ⟨c, 2, none⟩) (Nat.le_of_eq HC.out) _
      obtain ⟨q0, q1, q2⟩ := set3 (p := peer) (s := 0) (g := 0) r0 r1 r2
      obtain ⟨Z, hZ⟩ : ∃ Z, ((wr.setCell ⟨c, 0, none⟩ (.int .i64 peer)).setCell ⟨c, 1, none⟩ (.int .i64 0)).setCell ⟨c, 2, none⟩ (.int .i64 0) = Z := ⟨_, rfl⟩
      rw [hZ] at q0 q1 q2 B4 ⊢
      refine bodyPost_ret (v := .agg #[.int .i64 peer, .int .i64 0, .int .i64 0]) (by simp [results, Try.results16, go_sem, q0, q1, q2]) rfl ?_
      exact FIN.out ⟨peer, 0, 0⟩ _ (of_miss (by rw [← HN.out]; exact HNO.out)) B4

/-- A link after a frame. -/
def cntV (x : Lk) (acked : Bool) : Lk :=
  let g := if acked then x.g + 1 else x.g
  if x.s + 1 = 32 then ⟨x.p, 16, g / 2⟩ else ⟨x.p, x.s + 1, g⟩

set_option maxRecDepth 100000 in
set_option maxHeartbeats 2000000 in
theorem counted_any (p s g : Int) (acked : Bool) (w : World) (s0 : 0 ≤ s) (s1 : s ≤ 31) (g0 : 0 ≤ g) (g1 : g ≤ s) :
    Calls Try.prog 22 #[.agg #[.int .i64 p, .int .i64 s, .int .i64 g], .bool acked] w fun e w' => e = .returned (.agg #[.int .i64 (cntV ⟨p, s, g⟩ acked).p, .int .i64 (cntV ⟨p, s, g⟩ acked).s, .int .i64 (cntV ⟨p, s, g⟩ acked).g]) ∧ Below w.heap.size w w' := by
  cases acked
  · by_cases h : s + 1 = 32
    · skip
      have e1 : cntV ⟨p, s, g⟩ false = ⟨p, 16, g / 2⟩ := by simp [cntV, h]
      rw [e1]
      clear e1
      go_enter Try.func22, Try.ntmps22
      go_wp2_with fail
      refine bodyPost_ret (v := .agg #[.int .i64 (p), .int .i64 (16), .int .i64 (g / 2)]) (by simp [results, Try.results22, go_sem]) rfl ⟨rfl, ball (ball (Below.refl _ _) _) _⟩
    · skip
      have e1 : cntV ⟨p, s, g⟩ false = ⟨p, s + 1, g⟩ := by simp [cntV, h]
      rw [e1]
      clear e1
      go_enter Try.func22, Try.ntmps22
      go_wp2_with fail
      refine bodyPost_ret (v := .agg #[.int .i64 (p), .int .i64 (s + 1), .int .i64 (g)]) (by simp [results, Try.results22, go_sem]) rfl ⟨rfl, ball (ball (Below.refl _ _) _) _⟩
  · by_cases h : s + 1 = 32
    · skip
      have e1 : cntV ⟨p, s, g⟩ true = ⟨p, 16, (g + 1) / 2⟩ := by simp [cntV, h]
      rw [e1]
      clear e1
      go_enter Try.func22, Try.ntmps22
      go_wp2_with fail
      refine bodyPost_ret (v := .agg #[.int .i64 (p), .int .i64 (16), .int .i64 ((g + 1) / 2)]) (by simp [results, Try.results22, go_sem]) rfl ⟨rfl, ball (ball (Below.refl _ _) _) _⟩
    · skip
      have e1 : cntV ⟨p, s, g⟩ true = ⟨p, s + 1, (g + 1)⟩ := by simp [cntV, h]
      rw [e1]
      clear e1
      go_enter Try.func22, Try.ntmps22
      go_wp2_with fail
      refine bodyPost_ret (v := .agg #[.int .i64 (p), .int .i64 (s + 1), .int .i64 ((g + 1))]) (by simp [results, Try.results22, go_sem]) rfl ⟨rfl, ball (ball (Below.refl _ _) _) _⟩
end Go.Proofs.Ytfhdpogngdgklaa
