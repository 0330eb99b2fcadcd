/- Proved: what sealing and opening of frames return, where the slot's epoch is known. Conditions: those that each theorem names. -/
import Derived.Test.YtgmabjlehjpboaaDoorT2
import Derived.Laws.EntriesVeiled
namespace Go.Proofs.YtgmabjlehjpboaaDoor
open Go.RowKit Go.Sort Go.BigFrame Go.Proofs.YtgmabjlehjpboaaDoor.K
set_option linter.unusedVariables false
set_option linter.unusedSimpArgs false
attribute [local go_sem] cell_alloc_old

/-- A call that returns a value and leaves what was there. -/
abbrev Ans (v : Value) (w : World) (e : Ending) (w' : World) : Prop := e = .returned v ∧ Below w.heap.size w w'
theorem known_yes (e f n : Int) (w : World) (h : f ≤ e) (h' : e < n) : Calls Tryd.prog 39 #[.int .i64 e, .agg #[.int .i64 f, .int .i64 n]] w (Ans (.bool true) w) := by
  go_enter Tryd.func39, Tryd.ntmps39
  go_wp2_with fail
  go_ret
  exact ⟨by simp [*], ball (Below.refl _ _) _⟩
abbrev frV (k r t s key : Int) (b : Value) : Value := .agg #[.int .i64 k, .int .i64 r, .int .i64 t, .int .i64 s, .int .i64 key, b]
theorem ofq_at (n : Int) (w : World) (h0 : 0 ≤ n) (h1 : n ≤ 1000000000) : Calls Tryd.prog 38 #[.int .i64 n] w fun e w' => e = .returned (.int .i64 (n / 2000)) ∧ Below w.heap.size w w' :=
  (of_at n w h0 h1).mono fun e w' ⟨a, b⟩ => ⟨a, b ▸ Below.refl _ _⟩
set_option maxRecDepth 100000 in
set_option maxHeartbeats 4000000 in
theorem seal_yes (k r t s key f n : Int) (a : Option Addr) (l c : Nat) (w : World) (h0 : 0 ≤ s) (h1 : s ≤ 1000000000) (hf : f ≤ s / 2000) (hn : s / 2000 < n) :
    Calls Tryd.prog 19 #[frV k r t s key (.slice a l c), .agg #[.int .i64 f, .int .i64 n]] w (Ans (.tuple #[frV k r t s (s / 2000 + 1) (.slice a l c), .int .i64 0]) w) := by
  go_enter Tryd.func19, Tryd.ntmps19
  go_wp2_with fail
  have Tf := CAt.new (w) [.int .i64 k, .int .i64 r, .int .i64 t, .int .i64 s, .int .i64 key, .slice a l c] 55
  have Ff := Fz.new (w) #[.int .i64 k, .int .i64 r, .int .i64 t, .int .i64 s, .int .i64 key, .slice a l c] 55
  have BB : Below w.heap.size w ((w).alloc (.cells #[.int .i64 k, .int .i64 r, .int .i64 t, .int .i64 s, .int .i64 key, .slice a l c] 55)) := ball (Below.refl _ _) _
  have Tg := CAt.new (w.alloc (.cells #[.int .i64 k, .int .i64 r, .int .i64 t, .int .i64 s, .int .i64 key, .slice a l c] 55)) [.int .i64 f, .int .i64 n] 35
  replace Tf := Tf.alloc (.cells #[.int .i64 f, .int .i64 n] 35)
  replace Ff := Ff.alloc (.cells #[.int .i64 f, .int .i64 n] 35)
  replace BB := ball BB (.cells #[.int .i64 f, .int .i64 n] 35)
  have To := CAt.new ((w.alloc (.cells #[.int .i64 k, .int .i64 r, .int .i64 t, .int .i64 s, .int .i64 key, .slice a l c] 55)).alloc (.cells #[.int .i64 f, .int .i64 n] 35)) [.int .i64 0, .int .i64 0, .int .i64 0, .int .i64 0, .int .i64 0, .slice none 0 0] 55
  have Fo := Fz.new ((w.alloc (.cells #[.int .i64 k, .int .i64 r, .int .i64 t, .int .i64 s, .int .i64 key, .slice a l c] 55)).alloc (.cells #[.int .i64 f, .int .i64 n] 35)) #[.int .i64 0, .int .i64 0, .int .i64 0, .int .i64 0, .int .i64 0, .slice none 0 0] 55
  replace Tf := Tf.alloc (.cells #[.int .i64 0, .int .i64 0, .int .i64 0, .int .i64 0, .int .i64 0, .slice none 0 0] 55)
  replace Tg := Tg.alloc (.cells #[.int .i64 0, .int .i64 0, .int .i64 0, .int .i64 0, .int .i64 0, .slice none 0 0] 55)
  replace Ff := Ff.alloc (.cells #[.int .i64 0, .int .i64 0, .int .i64 0, .int .i64 0, .int .i64 0, .slice none 0 0] 55)
  replace BB := ball BB (.cells #[.int .i64 0, .int .i64 0, .int .i64 0, .int .i64 0, .int .i64 0, .slice none 0 0] 55)
  simp only [World.size_alloc, Nat.add_assoc, Nat.reduceAdd] at Tg To Fo
  obtain ⟨V1, hV1⟩ : ∃ V1, ((w.alloc (.cells #[.int .i64 k, .int .i64 r, .int .i64 t, .int .i64 s, .int .i64 key, .slice a l c] 55)).alloc (.cells #[.int .i64 f, .int .i64 n] 35)).alloc (.cells #[.int .i64 0, .int .i64 0, .int .i64 0, .int .i64 0, .int .i64 0, .slice none 0 0] 55) = V1 := ⟨_, rfl⟩
  rw [hV1] at BB Tf Tg To Ff Fo ⊢
  clear hV1
  have f0 := Tf 0 _ rfl
  have ff0 := Ff.1 0
  have f1 := Tf 1 _ rfl
  have ff1 := Ff.1 1
  have f2 := Tf 2 _ rfl
  have ff2 := Ff.1 2
  have f3 := Tf 3 _ rfl
  have ff3 := Ff.1 3
  have f4 := Tf 4 _ rfl
  have ff4 := Ff.1 4
  have f5 := Tf 5 _ rfl
  have ff5 := Ff.1 5
  go_wp2_with (first | (go_at_call 37; refine (key_yes s _ h0 h1).mono ?_; rintro e w' ⟨rfl, rfl⟩))
  clear f0 ff0 f1 ff1 f2 ff2 f3 ff3 f4 ff4 f5 ff5
  have f0 := Tf 0 _ rfl
  have kf0 := cell_regrown f0
  have f1 := Tf 1 _ rfl
  have kf1 := cell_regrown f1
  have f2 := Tf 2 _ rfl
  have kf2 := cell_regrown f2
  have f3 := Tf 3 _ rfl
  have kf3 := cell_regrown f3
  have f4 := Tf 4 _ rfl
  have kf4 := cell_regrown f4
  have f5 := Tf 5 _ rfl
  have kf5 := cell_regrown f5
  have g0 := Tg 0 _ rfl
  have kg0 := cell_regrown g0
  have g1 := Tg 1 _ rfl
  have kg1 := cell_regrown g1
  have o0 := To 0 _ rfl
  have ko0 := cell_regrown o0
  have o1 := To 1 _ rfl
  have ko1 := cell_regrown o1
  have o2 := To 2 _ rfl
  have ko2 := cell_regrown o2
  have o3 := To 3 _ rfl
  have ko3 := cell_regrown o3
  have o4 := To 4 _ rfl
  have ko4 := cell_regrown o4
  have o5 := To 5 _ rfl
  have ko5 := cell_regrown o5
  refine wp_region_quiet_below (by kernel_rfl) (by kernel_rfl) ?_
  repeat (go_big_quiet_step (first
    | (go_at_call 38; exact rg_of fun w' h => ofq_at s w' h0 h1)
    | (go_at_call 39; exact rg_of fun w' h => known_yes _ _ _ w' hf hn)))
  refine wpQuiet_nil ?_
  intro _ hw'
  obtain ⟨⟨dq, osq⟩, hw''⟩ := hw'
  subst hw''
  clear f0 kf0 f1 kf1 f2 kf2 f3 kf3 f4 kf4 f5 kf5 g0 kg0 g1 kg1 o0 ko0 o1 ko1 o2 ko2 o3 ko3 o4 ko4 o5 ko5
  have bq := below_regrown V1 dq osq
  obtain ⟨V2, hV2⟩ : ∃ V2, grow (redrawn V1 dq) osq = V2 := ⟨_, rfl⟩
  rw [hV2] at bq ⊢
  clear hV2 dq osq
  replace Tf := Tf.keep bq
  replace Tg := Tg.keep bq
  replace To := To.keep bq
  replace Ff := Ff.keep bq
  replace Fo := Fo.keep bq
  replace BB := bstep BB bq
  clear bq
  have f0 := Tf 0 _ rfl
  have ff0 := Ff.1 0
  have f1 := Tf 1 _ rfl
  have ff1 := Ff.1 1
  have f2 := Tf 2 _ rfl
  have ff2 := Ff.1 2
  have f3 := Tf 3 _ rfl
  have ff3 := Ff.1 3
  have f4 := Tf 4 _ rfl
  have ff4 := Ff.1 4
  have f5 := Tf 5 _ rfl
  have ff5 := Ff.1 5
  have o0 := To 0 _ rfl
  have fo0 := Fo.1 0
  have o1 := To 1 _ rfl
  have fo1 := Fo.1 1
  have o2 := To 2 _ rfl
  have fo2 := Fo.1 2
  have o3 := To 3 _ rfl
  have fo3 := Fo.1 3
  have o4 := To 4 _ rfl
  have fo4 := Fo.1 4
  have o5 := To 5 _ rfl
  have fo5 := Fo.1 5
  go_wp2_with fail
  simp only [Nat.add_assoc, Nat.reduceAdd]
  clear f0 ff0 f1 ff1 f2 ff2 f3 ff3 f4 ff4 f5 ff5 o0 fo0 o1 fo1 o2 fo2 o3 fo3 o4 fo4 o5 fo5
  replace Tf := Tf.set 4 (.int .i64 (s / 2000 + 1)) (by simp)
  replace Tg := Tg.other (k' := w.heap.size) (by omega) 4 (.int .i64 (s / 2000 + 1))
  replace To := To.other (k' := w.heap.size) (by omega) 4 (.int .i64 (s / 2000 + 1))
  replace Ff := Ff.set ⟨w.heap.size, 4, none⟩ (.int .i64 (s / 2000 + 1))
  replace Fo := Fo.set ⟨w.heap.size, 4, none⟩ (.int .i64 (s / 2000 + 1))
  replace BB := BB.setCell (p := ⟨w.heap.size, 4, none⟩) (by first | exact Nat.le_refl _ | (simp only; omega)) (.int .i64 (s / 2000 + 1))
  obtain ⟨V3, hV3⟩ : ∃ V3, V2.setCell ⟨w.heap.size, 4, none⟩ (.int .i64 (s / 2000 + 1)) = V3 := ⟨_, rfl⟩
  rw [hV3] at BB Tf Tg To Ff Fo ⊢
  clear hV3
  replace To := To.set 0 (.int .i64 k) (by simp)
  replace Tf := Tf.other (k' := w.heap.size + 2) (by omega) 0 (.int .i64 k)
  replace Tg := Tg.other (k' := w.heap.size + 2) (by omega) 0 (.int .i64 k)
  replace Ff := Ff.set ⟨w.heap.size + 2, 0, none⟩ (.int .i64 k)
  replace Fo := Fo.set ⟨w.heap.size + 2, 0, none⟩ (.int .i64 k)
  replace BB := BB.setCell (p := ⟨w.heap.size + 2, 0, none⟩) (by first | exact Nat.le_refl _ | (simp only; omega)) (.int .i64 k)
  replace To := To.set 1 (.int .i64 r) (by simp)
  replace Tf := Tf.other (k' := w.heap.size + 2) (by omega) 1 (.int .i64 r)
  replace Tg := Tg.other (k' := w.heap.size + 2) (by omega) 1 (.int .i64 r)
  replace Ff := Ff.set ⟨w.heap.size + 2, 1, none⟩ (.int .i64 r)
  replace Fo := Fo.set ⟨w.heap.size + 2, 1, none⟩ (.int .i64 r)
  replace BB := BB.setCell (p := ⟨w.heap.size + 2, 1, none⟩) (by first | exact Nat.le_refl _ | (simp only; omega)) (.int .i64 r)
  replace To := To.set 2 (.int .i64 t) (by simp)
  replace Tf := Tf.other (k' := w.heap.size + 2) (by omega) 2 (.int .i64 t)
  replace Tg := Tg.other (k' := w.heap.size + 2) (by omega) 2 (.int .i64 t)
  replace Ff := Ff.set ⟨w.heap.size + 2, 2, none⟩ (.int .i64 t)
  replace Fo := Fo.set ⟨w.heap.size + 2, 2, none⟩ (.int .i64 t)
  replace BB := BB.setCell (p := ⟨w.heap.size + 2, 2, none⟩) (by first | exact Nat.le_refl _ | (simp only; omega)) (.int .i64 t)
  replace To := To.set 3 (.int .i64 s) (by simp)
  replace Tf := Tf.other (k' := w.heap.size + 2) (by omega) 3 (.int .i64 s)
  replace Tg := Tg.other (k' := w.heap.size + 2) (by omega) 3 (.int .i64 s)
  replace Ff := Ff.set ⟨w.heap.size + 2, 3, none⟩ (.int .i64 s)
  replace Fo := Fo.set ⟨w.heap.size + 2, 3, none⟩ (.int .i64 s)
  replace BB := BB.setCell (p := ⟨w.heap.size + 2, 3, none⟩) (by first | exact Nat.le_refl _ | (simp only; omega)) (.int .i64 s)
  replace To := To.set 4 (.int .i64 (s / 2000 + 1)) (by simp)
  replace Tf := Tf.other (k' := w.heap.size + 2) (by omega) 4 (.int .i64 (s / 2000 + 1))
  replace Tg := Tg.other (k' := w.heap.size + 2) (by omega) 4 (.int .i64 (s / 2000 + 1))
  replace Ff := Ff.set ⟨w.heap.size + 2, 4, none⟩ (.int .i64 (s / 2000 + 1))
  replace Fo := Fo.set ⟨w.heap.size + 2, 4, none⟩ (.int .i64 (s / 2000 + 1))
  replace BB := BB.setCell (p := ⟨w.heap.size + 2, 4, none⟩) (by first | exact Nat.le_refl _ | (simp only; omega)) (.int .i64 (s / 2000 + 1))
  replace To := To.set 5 (.slice a l c) (by simp)
  replace Tf := Tf.other (k' := w.heap.size + 2) (by omega) 5 (.slice a l c)
  replace Tg := Tg.other (k' := w.heap.size + 2) (by omega) 5 (.slice a l c)
  replace Ff := Ff.set ⟨w.heap.size + 2, 5, none⟩ (.slice a l c)
  replace Fo := Fo.set ⟨w.heap.size + 2, 5, none⟩ (.slice a l c)
  replace BB := BB.setCell (p := ⟨w.heap.size + 2, 5, none⟩) (by first | exact Nat.le_refl _ | (simp only; omega)) (.slice a l c)
  obtain ⟨V4, hV4⟩ : ∃ V4, (((((V3.setCell ⟨w.heap.size + 2, 0, none⟩ (.int .i64 k)).setCell ⟨w.heap.size + 2, 1, none⟩ (.int .i64 r)).setCell ⟨w.heap.size + 2, 2, none⟩ (.int .i64 t)).setCell ⟨w.heap.size + 2, 3, none⟩ (.int .i64 s)).setCell ⟨w.heap.size + 2, 4, none⟩ (.int .i64 (s / 2000 + 1))).setCell ⟨w.heap.size + 2, 5, none⟩ (.slice a l c) = V4 := ⟨_, rfl⟩
  rw [hV4] at BB Tf Tg To Ff Fo ⊢
  clear hV4
  have o0 := To 0 _ rfl
  have fo0 := Fo.1 0
  have o1 := To 1 _ rfl
  have fo1 := Fo.1 1
  have o2 := To 2 _ rfl
  have fo2 := Fo.1 2
  have o3 := To 3 _ rfl
  have fo3 := Fo.1 3
  have o4 := To 4 _ rfl
  have fo4 := Fo.1 4
  have o5 := To 5 _ rfl
  have fo5 := Fo.1 5
  refine bodyPost_ret (v := .tuple #[frV k r t s (s / 2000 + 1) (.slice a l c), .int .i64 0]) (by simp [results, Tryd.results19, go_sem, o0, o1, o2, o3, o4, o5]) rfl ⟨rfl, BB⟩
theorem ix0 (a b c : Value) (w : World) : Sem.run Tryd.prog (Instr.index 93 (.agg #[a, b, c]) (.int .i64 0)) w = .ok a w := by kernel_rfl
theorem ix1 (a b c : Value) (w : World) : Sem.run Tryd.prog (Instr.index 93 (.agg #[a, b, c]) (.int .i64 1)) w = .ok b w := by kernel_rfl
theorem ix2 (a b c : Value) (w : World) : Sem.run Tryd.prog (Instr.index 93 (.agg #[a, b, c]) (.int .i64 2)) w = .ok c w := by kernel_rfl
attribute [local go_sem] ix0 ix1 ix2
theorem open1 (s : Int) (b : Nat) (w : World) (h0 : 0 ≤ s) (h1 : s ≤ 1000000000) (hs : w.cell? ⟨b, 0, none⟩ = some (.int .i64 s)) : Calls Tryd.prog 40 #[.pointer (some ⟨b, 0, none⟩)] w (Ans (.int .i64 0) w) := by
  go_enter Tryd.func40, Tryd.ntmps40
  go_wp2_with (first | (go_at_call 37; refine (key_yes s _ h0 h1).mono ?_; rintro e w' ⟨rfl, rfl⟩))
  go_ret
  exact ⟨rfl, Below.refl _ _⟩
theorem open2 (s : Int) (b g : Nat) (w : World) (hs : w.cell? ⟨b, 0, none⟩ = some (.int .i64 s)) (hf : w.cell? ⟨g, 3, none⟩ = some (.int .i64 s)) : Calls Tryd.prog 41 #[.pointer (some ⟨g, 0, none⟩), .pointer (some ⟨b, 0, none⟩)] w (Ans (.int .i64 0) w) := by
  go_enter Tryd.func41, Tryd.ntmps41
  go_wp2_with fail
  refine (unless_at true 14 _).mono ?_
  rintro e w' ⟨rfl, rfl⟩
  go_wp2_with fail
  go_ret
  exact ⟨rfl, Below.refl _ _⟩
theorem num_at (n : Int) (w : World) (h0 : 0 ≤ n) (h1 : n ≤ 500000) : Calls Tryd.prog 44 #[.int .i64 n] w fun e w' => e = .returned (.int .i64 (n + 1)) ∧ Below w.heap.size w w' :=
  (enum_at n w h0 h1).mono fun e w' ⟨a, b⟩ => ⟨a, b ▸ Below.refl _ _⟩
theorem unl_at (w : World) : Calls Tryd.prog 42 #[.bool true, .int .i64 13] w fun e w' => e = .returned (.int .i64 0) ∧ Below w.heap.size w w' :=
  (unless_at true 13 w).mono fun e w' ⟨a, b⟩ => ⟨a, b ▸ Below.refl _ _⟩
set_option maxRecDepth 100000 in
set_option maxHeartbeats 4000000 in
theorem open3 (s f n : Int) (b g k : Nat) (w : World) (h0 : 0 ≤ s) (h1 : s ≤ 1000000000) (hf : f ≤ s / 2000) (hn : s / 2000 < n) (hs : w.cell? ⟨b, 0, none⟩ = some (.int .i64 s)) (hk : w.cell? ⟨g, 4, none⟩ = some (.int .i64 (s / 2000 + 1)))
    (hr0 : w.cell? ⟨k, 0, none⟩ = some (.int .i64 f)) (hr1 : w.cell? ⟨k, 1, none⟩ = some (.int .i64 n)) : Calls Tryd.prog 43 #[.pointer (some ⟨g, 0, none⟩), .pointer (some ⟨b, 0, none⟩), .pointer (some ⟨k, 0, none⟩)] w (Ans (.int .i64 0) w) := by
  have hd : (decide (s / 2000 + 1 = s / 2000 + 1)) = true := by simp
  have k1 := cell_regrown hs; have k2 := cell_regrown hk; have k3 := cell_regrown hr0; have k4 := cell_regrown hr1
  go_enter Tryd.func43, Tryd.ntmps43
  go_wp2_with fail
  refine wp_region_quiet_below (by kernel_rfl) (by kernel_rfl) ?_
  repeat (go_big_quiet_step (first
    | (go_at_call 38; exact rg_of fun w' h => ofq_at s w' h0 h1)
    | (go_at_call 44; exact rg_of fun w' h => num_at _ w' (by omega) (by omega))
    | (go_at_call 39; exact rg_of fun w' h => known_yes _ _ _ w' hf hn)
    | (go_at_call 42; exact rg_of fun w' h => unl_at w')))
  refine wpQuiet_nil ?_
  intro _ hw'
  obtain ⟨⟨dq, osq⟩, hw''⟩ := hw'
  subst hw''
  go_wp2_with fail
  go_ret
  exact ⟨rfl, below_regrown w dq osq⟩
set_option maxRecDepth 100000 in
set_option maxHeartbeats 4000000 in
theorem open_yes (k r t s f n : Int) (a : Option Addr) (l c : Nat) (w : World) (h0 : 0 ≤ s) (h1 : s ≤ 1000000000) (hf : f ≤ s / 2000) (hn : s / 2000 < n) :
    Calls Tryd.prog 20 #[frV k r t s (s / 2000 + 1) (.slice a l c), .agg #[.int .i64 f, .int .i64 n], .int .i64 s] w (Ans (.int .i64 0) w) := by
  go_enter Tryd.func20, Tryd.ntmps20
  go_wp2_with fail
  have Tf := CAt.new (w) [.int .i64 k, .int .i64 r, .int .i64 t, .int .i64 s, .int .i64 (s / 2000 + 1), .slice a l c] 55
  have BB : Below w.heap.size w ((w).alloc (.cells #[.int .i64 k, .int .i64 r, .int .i64 t, .int .i64 s, .int .i64 (s / 2000 + 1), .slice a l c] 55)) := ball (Below.refl _ _) _
  have Tg := CAt.new (w.alloc (.cells #[.int .i64 k, .int .i64 r, .int .i64 t, .int .i64 s, .int .i64 (s / 2000 + 1), .slice a l c] 55)) [.int .i64 f, .int .i64 n] 35
  replace Tf := Tf.alloc (.cells #[.int .i64 f, .int .i64 n] 35)
  replace BB := ball BB (.cells #[.int .i64 f, .int .i64 n] 35)
  have Ti := CAt.new ((w.alloc (.cells #[.int .i64 k, .int .i64 r, .int .i64 t, .int .i64 s, .int .i64 (s / 2000 + 1), .slice a l c] 55)).alloc (.cells #[.int .i64 f, .int .i64 n] 35)) [.int .i64 s] 3
  replace Tf := Tf.alloc (.cells #[.int .i64 s] 3)
  replace Tg := Tg.alloc (.cells #[.int .i64 s] 3)
  replace BB := ball BB (.cells #[.int .i64 s] 3)
  have Td := CAt.new (((w.alloc (.cells #[.int .i64 k, .int .i64 r, .int .i64 t, .int .i64 s, .int .i64 (s / 2000 + 1), .slice a l c] 55)).alloc (.cells #[.int .i64 f, .int .i64 n] 35)).alloc (.cells #[.int .i64 s] 3)) [.func (.func 40) #[] #[.pointer (some ⟨w.heap.size + 1 + 1, 0, none⟩)], .func (.func 41) #[] #[.pointer (some ⟨w.heap.size, 0, none⟩), .pointer (some ⟨w.heap.size + 1 + 1, 0, none⟩)], .func (.func 43) #[] #[.pointer (some ⟨w.heap.size, 0, none⟩), .pointer (some ⟨w.heap.size + 1 + 1, 0, none⟩), .pointer (some ⟨w.heap.size + 1, 0, none⟩)]] 93
  replace Tf := Tf.alloc (.cells #[.func (.func 40) #[] #[.pointer (some ⟨w.heap.size + 1 + 1, 0, none⟩)], .func (.func 41) #[] #[.pointer (some ⟨w.heap.size, 0, none⟩), .pointer (some ⟨w.heap.size + 1 + 1, 0, none⟩)], .func (.func 43) #[] #[.pointer (some ⟨w.heap.size, 0, none⟩), .pointer (some ⟨w.heap.size + 1 + 1, 0, none⟩), .pointer (some ⟨w.heap.size + 1, 0, none⟩)]] 93)
  replace Tg := Tg.alloc (.cells #[.func (.func 40) #[] #[.pointer (some ⟨w.heap.size + 1 + 1, 0, none⟩)], .func (.func 41) #[] #[.pointer (some ⟨w.heap.size, 0, none⟩), .pointer (some ⟨w.heap.size + 1 + 1, 0, none⟩)], .func (.func 43) #[] #[.pointer (some ⟨w.heap.size, 0, none⟩), .pointer (some ⟨w.heap.size + 1 + 1, 0, none⟩), .pointer (some ⟨w.heap.size + 1, 0, none⟩)]] 93)
  replace Ti := Ti.alloc (.cells #[.func (.func 40) #[] #[.pointer (some ⟨w.heap.size + 1 + 1, 0, none⟩)], .func (.func 41) #[] #[.pointer (some ⟨w.heap.size, 0, none⟩), .pointer (some ⟨w.heap.size + 1 + 1, 0, none⟩)], .func (.func 43) #[] #[.pointer (some ⟨w.heap.size, 0, none⟩), .pointer (some ⟨w.heap.size + 1 + 1, 0, none⟩), .pointer (some ⟨w.heap.size + 1, 0, none⟩)]] 93)
  replace BB := ball BB (.cells #[.func (.func 40) #[] #[.pointer (some ⟨w.heap.size + 1 + 1, 0, none⟩)], .func (.func 41) #[] #[.pointer (some ⟨w.heap.size, 0, none⟩), .pointer (some ⟨w.heap.size + 1 + 1, 0, none⟩)], .func (.func 43) #[] #[.pointer (some ⟨w.heap.size, 0, none⟩), .pointer (some ⟨w.heap.size + 1 + 1, 0, none⟩), .pointer (some ⟨w.heap.size + 1, 0, none⟩)]] 93)
  simp only [World.size_alloc, Nat.add_assoc, Nat.reduceAdd] at Tg Ti Td
  obtain ⟨V1, hV1⟩ : ∃ V1, (((w.alloc (.cells #[.int .i64 k, .int .i64 r, .int .i64 t, .int .i64 s, .int .i64 (s / 2000 + 1), .slice a l c] 55)).alloc (.cells #[.int .i64 f, .int .i64 n] 35)).alloc (.cells #[.int .i64 s] 3)).alloc (.cells #[.func (.func 40) #[] #[.pointer (some ⟨w.heap.size + 1 + 1, 0, none⟩)], .func (.func 41) #[] #[.pointer (some ⟨w.heap.size, 0, none⟩), .pointer (some ⟨w.heap.size + 1 + 1, 0, none⟩)], .func (.func 43) #[] #[.pointer (some ⟨w.heap.size, 0, none⟩), .pointer (some ⟨w.heap.size + 1 + 1, 0, none⟩), .pointer (some ⟨w.heap.size + 1, 0, none⟩)]] 93) = V1 := ⟨_, rfl⟩
  rw [hV1] at BB Tf Tg Ti Td ⊢
  clear hV1
  clear Td
  simp only [Nat.add_assoc, Nat.reduceAdd]
  refine wp_loop_rounds 4 ?_
  rw [rounds_succ]
  have f0 := Tf 0 _ rfl
  have f1 := Tf 1 _ rfl
  have f2 := Tf 2 _ rfl
  have f3 := Tf 3 _ rfl
  have f4 := Tf 4 _ rfl
  have f5 := Tf 5 _ rfl
  have g0 := Tg 0 _ rfl
  have g1 := Tg 1 _ rfl
  have i0 := Ti 0 _ rfl
  go_wp2_with fail
  refine (open1 s _ V1 h0 h1 i0).mono ?_
  clear f0 f1 f2 f3 f4 f5 g0 g1 i0
  rintro e w2 ⟨rfl, b2⟩
  replace Tf := Tf.keep b2
  replace Tg := Tg.keep b2
  replace Ti := Ti.keep b2
  replace BB := bstep BB b2
  clear b2
  have f0 := Tf 0 _ rfl
  have f1 := Tf 1 _ rfl
  have f2 := Tf 2 _ rfl
  have f3 := Tf 3 _ rfl
  have f4 := Tf 4 _ rfl
  have f5 := Tf 5 _ rfl
  have g0 := Tg 0 _ rfl
  have g1 := Tg 1 _ rfl
  have i0 := Ti 0 _ rfl
  go_wp2_with fail
  rw [rounds_succ]
  go_wp2_with fail
  refine (open2 s _ _ w2 i0 f3).mono ?_
  clear f0 f1 f2 f3 f4 f5 g0 g1 i0
  rintro e w3 ⟨rfl, b3⟩
  replace Tf := Tf.keep b3
  replace Tg := Tg.keep b3
  replace Ti := Ti.keep b3
  replace BB := bstep BB b3
  clear b3
  have f0 := Tf 0 _ rfl
  have f1 := Tf 1 _ rfl
  have f2 := Tf 2 _ rfl
  have f3 := Tf 3 _ rfl
  have f4 := Tf 4 _ rfl
  have f5 := Tf 5 _ rfl
  have g0 := Tg 0 _ rfl
  have g1 := Tg 1 _ rfl
  have i0 := Ti 0 _ rfl
  go_wp2_with fail
  rw [rounds_succ]
  go_wp2_with fail
  refine (open3 s f n _ _ _ w3 h0 h1 hf hn i0 f4 g0 g1).mono ?_
  clear f0 f1 f2 f3 f4 f5 g0 g1 i0
  rintro e w4 ⟨rfl, b4⟩
  replace Tf := Tf.keep b4
  replace Tg := Tg.keep b4
  replace Ti := Ti.keep b4
  replace BB := bstep BB b4
  clear b4
  go_wp2_with fail
  rw [rounds_succ]
  go_wp2_with fail
  go_ret
  exact ⟨rfl, BB⟩
end Go.Proofs.YtgmabjlehjpboaaDoor
