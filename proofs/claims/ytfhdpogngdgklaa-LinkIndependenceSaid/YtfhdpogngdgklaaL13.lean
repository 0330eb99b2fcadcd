/- Proved: what the law's head returns. Conditions: none. -/
import Derived.Test.YtfhdpogngdgklaaL12
namespace Go.Proofs.Ytfhdpogngdgklaa
open Go.RowKit Go.Sort Go.BigFrame
set_option linter.unusedVariables false
set_option linter.unusedSimpArgs false
attribute [local go_sem] cell_alloc_old

theorem after_at (T : Nat) (t : Int) (n : Nat) (a : Option Addr) (cap : Nat) (ls zs : List Lk) (peer : Int) (acked : Bool) (w : World) (ht : t = T) (hn : n = ls.length) (hl : LkAt w a ls) (hcap : ls.length ≤ cap) (hcm : cap ≤ maxLen) (hv : validV ls = true) (p0 : 0 ≤ peer) (p1 : peer ≤ 59) (hT : T ≤ 200) (hz : afterV ls peer acked T = zs) :
    Calls Try.prog 17 #[.slice a n cap, .int .i64 peer, .bool acked, .int .i64 t] w (SlicePost zs w) := by
  subst ht; rw [← hz]; exact after_any n a cap ls peer acked T w hn hl hcap hcm hv p0 p1 hT
theorem cost_at (n : Nat) (a : Option Addr) (cap : Nat) (ls : List Lk) (peer v : Int) (w : World) (hn : n = ls.length) (hl : LkAt w a ls) (hm : ls.length ≤ maxLen) (hv : costV ls peer = v) :
    Calls Try.prog 13 #[.slice a n cap, .int .i64 peer] w fun e w' => e = .returned (.int .i64 v) ∧ Below w.heap.size w w' := by subst hn; rw [← hv]; exact cost_any a cap ls peer w hl hm
theorem rcost_at (n : Nat) (a : Option Addr) (cap : Nat) (ls : List Lk) (peer v : Int) (w : World) (hn : n = ls.length) (hl : LkAt w a ls) (hm : ls.length ≤ maxLen) (hv : costV ls peer = v) :
    Calls Try.prog 14 #[.slice a n cap, .int .i64 peer] w fun e w' => e = .returned (.int .i64 v) ∧ Below w.heap.size w w' := by subst hn; rw [← hv]; exact rcost_any a cap ls peer w hl hm
theorem lit_link (p s g : Int) (w : World) : LkAt (w.alloc (.cells #[.int .i64 p, .int .i64 s, .int .i64 g] 32)) (some ⟨w.heap.size, 0, none⟩) [⟨p, s, g⟩] := by
  refine .inr ⟨w.heap.size, 0, rfl, fun i hi => ?_⟩
  have : i = 0 := by simp at hi; omega
  subst this
  exact ⟨new0 rfl rfl, new0 rfl rfl, new0 rfl rfl⟩

theorem h1 : afterV [] 5 false 1 = [⟨5, 1, 0⟩] := by decide +kernel
theorem h2 : afterV [⟨5, 1, 0⟩] 5 true 1 = [⟨5, 2, 1⟩] := by decide +kernel
theorem h3 : afterV [] 5 true 31 = [⟨5, 31, 31⟩] := by decide +kernel
theorem h4 : afterV [⟨5, 31, 31⟩] 5 false 1 = [⟨5, 16, 15⟩] := by decide +kernel
theorem h5 : afterV [] 5 false 31 = [⟨5, 31, 0⟩] := by decide +kernel
theorem k0 : costV [] 5 = 128 := by decide +kernel
theorem k1 : costV [⟨5, 1, 0⟩] 5 = 256 := by decide +kernel
theorem k2 : costV [⟨5, 2, 1⟩] 5 = 192 := by decide +kernel
theorem k3 : costV [⟨5, 16, 15⟩] 5 = 136 := by decide +kernel
theorem k4 : costV [⟨5, 31, 0⟩] 5 = 4096 := by decide +kernel
theorem k5 : costV [] 60 = 0 := by decide +kernel
theorem k6 : errV [] 60 = 1 := by decide +kernel
theorem k7 : cListV [] 60 true = [] := by decide +kernel
theorem m31 : (0 : Nat) ≤ maxLen := Nat.zero_le _
theorem one_max : 1 ≤ maxLen := by unfold maxLen; omega

set_option maxRecDepth 100000 in
set_option maxHeartbeats 4000000 in
theorem head_any (w : World) : Calls Try.prog 9 #[] w fun e w' => e = .returned (.bool true) ∧ Below w.heap.size w w' := by
  go_enter Try.func9, Try.ntmps9
  go_wp2_with fail
  refine (after_at 1 1 0 none 0 [] _ 5 false _ rfl rfl (.inl rfl) (Nat.le_refl _) (Nat.zero_le _) (by decide +kernel) (by decide) (by decide) (by decide) h1).mono ?_
  rintro e w1 ⟨a1, c1, rfl, l1, x1, y1, B⟩
  simp only [List.length_cons, List.length_nil, Nat.zero_add]
  go_wp2_with fail
  refine (after_at 1 1 1 a1 c1 [⟨5, 1, 0⟩] _ 5 true _ rfl rfl l1 x1 y1 (by decide +kernel) (by decide) (by decide) (by decide) h2).mono ?_
  rintro e w2 ⟨a2, c2, rfl, l2, x2, y2, b⟩
  have B := bstep B b
  have l1 := l1.keep b
  clear b
  simp only [List.length_cons, List.length_nil, Nat.zero_add]
  go_wp2_with fail
  refine (after_at 31 31 0 none 0 [] _ 5 true _ rfl rfl (.inl rfl) (Nat.le_refl _) (Nat.zero_le _) (by decide +kernel) (by decide) (by decide) (by decide) h3).mono ?_
  rintro e w3 ⟨a3, c3, rfl, l3, x3, y3, b⟩
  have B := bstep B b
  have l1 := l1.keep b
  have l2 := l2.keep b
  clear b
  simp only [List.length_cons, List.length_nil, Nat.zero_add]
  go_wp2_with fail
  refine (after_at 1 1 1 a3 c3 [⟨5, 31, 31⟩] _ 5 false _ rfl rfl l3 x3 y3 (by decide +kernel) (by decide) (by decide) (by decide) h4).mono ?_
  rintro e w4 ⟨a4, c4, rfl, l4, x4, y4, b⟩
  have B := bstep B b
  have l1 := l1.keep b
  have l2 := l2.keep b
  clear b l3 x3 y3
  simp only [List.length_cons, List.length_nil, Nat.zero_add]
  go_wp2_with fail
  refine (after_at 31 31 0 none 0 [] _ 5 false _ rfl rfl (.inl rfl) (Nat.le_refl _) (Nat.zero_le _) (by decide +kernel) (by decide) (by decide) (by decide) h5).mono ?_
  rintro e w5 ⟨a5, c5, rfl, l5, x5, y5, b⟩
  have B := bstep B b
  have l1 := l1.keep b
  have l2 := l2.keep b
  have l4 := l4.keep b
  clear b
  simp only [List.length_cons, List.length_nil, Nat.zero_add]
  go_wp2_with fail
  have hc := count_gen 0 none 0 [] 60 true w5 rfl (.inl rfl) (Nat.le_refl _) (Nat.zero_le _)
  rw [k6, k7] at hc
  refine hc.mono ?_
  clear hc
  rintro e w6 ⟨a6, c6, rfl, _, _, _, b⟩
  have B := bstep B b
  have l1 := l1.keep b
  have l2 := l2.keep b
  have l4 := l4.keep b
  have l5 := l5.keep b
  clear b
  simp only [List.length_nil]
  go_wp2_with fail
  refine (cost_at 0 none 0 [] 5 _ _ rfl (.inl rfl) m31 k0).mono ?_
  rintro e w7 ⟨rfl, b⟩
  have B := bstep B b
  have l1 := l1.keep b
  have l2 := l2.keep b
  have l4 := l4.keep b
  have l5 := l5.keep b
  clear b
  go_wp2_with fail
  refine (cost_at 1 a1 c1 [⟨5, 1, 0⟩] 5 _ _ rfl l1 one_max k1).mono ?_
  rintro e w8 ⟨rfl, b⟩
  have B := bstep B b
  have l2 := l2.keep b
  have l4 := l4.keep b
  have l5 := l5.keep b
  clear b l1
  go_wp2_with fail
  refine (cost_at 1 a2 c2 [⟨5, 2, 1⟩] 5 _ _ rfl l2 one_max k2).mono ?_
  rintro e w9 ⟨rfl, b⟩
  have B := bstep B b
  have l2 := l2.keep b
  have l4 := l4.keep b
  have l5 := l5.keep b
  clear b
  go_wp2_with fail
  refine (cost_at 1 a4 c4 [⟨5, 16, 15⟩] 5 _ _ rfl l4 one_max k3).mono ?_
  rintro e w10 ⟨rfl, b⟩
  have B := bstep B b
  have l2 := l2.keep b
  have l4 := l4.keep b
  have l5 := l5.keep b
  clear b
  go_wp2_with fail
  refine (cost_at 1 a5 c5 [⟨5, 31, 0⟩] 5 _ _ rfl l5 one_max k4).mono ?_
  rintro e w11 ⟨rfl, b⟩
  have B := bstep B b
  have l2 := l2.keep b
  have l4 := l4.keep b
  clear b l5
  go_wp2_with fail
  have m2 := l2.keep (ball (Below.refl w11.heap.size w11) (.cells #[.int .i64 5, .int .i64 2, .int .i64 1] 32))
  have B := ball B (.cells #[.int .i64 5, .int .i64 2, .int .i64 1] 32)
  have l4 := l4.keep (ball (Below.refl w11.heap.size w11) (.cells #[.int .i64 5, .int .i64 2, .int .i64 1] 32))
  refine (same_at 1 1 a2 _ c2 _ [⟨5, 2, 1⟩] _ rfl rfl m2 (lit_link 5 2 1 w11) one_max).mono ?_
  rintro e w12 ⟨rfl, b⟩
  have B := bstep B b
  have l4 := l4.keep b
  clear b m2 l2
  go_wp2_with fail
  have m4 := l4.keep (ball (Below.refl w12.heap.size w12) (.cells #[.int .i64 5, .int .i64 16, .int .i64 15] 32))
  have B := ball B (.cells #[.int .i64 5, .int .i64 16, .int .i64 15] 32)
  refine (same_at 1 1 a4 _ c4 _ [⟨5, 16, 15⟩] _ rfl rfl m4 (lit_link 5 16 15 w12) one_max).mono ?_
  rintro e w13 ⟨rfl, b⟩
  have B := bstep B b
  clear b m4 l4
  go_wp2_with fail
  refine (cost_at 0 none 0 [] 60 _ _ rfl (.inl rfl) m31 k5).mono ?_
  rintro e w14 ⟨rfl, b⟩
  have B := bstep B b
  clear b
  go_wp2_with fail
  go_ret
  exact ⟨rfl, B⟩
end Go.Proofs.Ytfhdpogngdgklaa
