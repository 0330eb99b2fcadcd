/- Proved: what the reference Clashes returns. Conditions: rows and tables lie in memory, the tables are short and few. -/
import Derived.Test.YtleenbfldkmcaaaK7
namespace Go.Proofs.Ytleenbfldkmcaaa
open Go.RowKit Go.Sort Go.BigFrame
set_option linter.unusedVariables false
set_option linter.unusedSimpArgs false
attribute [local go_sem] cell_alloc_old

/-- The clashes of the first listeners; of a listener's first grants; of a grant with the first nodes. -/
def vTo (H : List (List Bool)) (T : List Tb) (fr : Int) (l : Nat) : List Cz := (List.range l).flatMap (clashL H T fr)
def lTo (H : List (List Bool)) (T : List Tb) (fr : Int) (l k : Nat) : List Cz := ((T.getD l default).G.take k).flatMap fun g => clashG H T fr l g T.length
theorem vTo_succ (H : List (List Bool)) (T : List Tb) (fr : Int) (l : Nat) : vTo H T fr (l + 1) = vTo H T fr l ++ lTo H T fr l (T.getD l default).G.length := by
  unfold vTo lTo; rw [List.range_succ, List.flatMap_append, List.take_length]; simp [clashL]
theorem lTo_zero (H : List (List Bool)) (T : List Tb) (fr : Int) (l : Nat) : lTo H T fr l 0 = [] := rfl
theorem lTo_succ (H : List (List Bool)) (T : List Tb) (fr : Int) (l : Nat) {k : Nat} (hk : k < (T.getD l default).G.length) : lTo H T fr l (k + 1) = lTo H T fr l k ++ clashG H T fr l ((T.getD l default).G.getD k default) T.length := by
  unfold lTo; rw [List.take_add_one, List.getElem?_eq_getElem hk, List.flatMap_append, List.getD_eq_getElem?_getD (l := (T.getD l default).G), List.getElem?_eq_getElem hk]; simp
theorem gTo_succ (H : List (List Bool)) (T : List Tb) (fr : Int) (l : Nat) (g : Gr) (c : Nat) : clashG H T fr l g (c + 1) = clashG H T fr l g c ++ (if hitB H T fr l g c = true then [⟨g.s, g.o, l, g.p, c⟩] else []) := by
  unfold clashG
  rw [List.range_succ, List.filter_append, List.map_append]
  congr 1
  by_cases h : hitB H T fr l g c = true <;> simp [h]
theorem gTo_none {H : List (List Bool)} {T : List Tb} {fr : Int} {l : Nat} {g : Gr} (h : ¬ fr ≤ g.u) (c : Nat) : clashG H T fr l g c = [] := by
  unfold clashG
  rw [List.filter_eq_nil_iff.2 fun x _ => by unfold hitB; simp [h]]; rfl
theorem hit_parts {H : List (List Bool)} {T : List Tb} {fr : Int} {l : Nat} {g : Gr} {c : Nat} {q0 q1 q2 q3 : Bool} (hu : fr ≤ g.u) (h0 : ((c : Int) != (l : Int)) = q0) (h1 : ((c : Int) != g.p) = q1) (h2 : tabB H l c = q2) (h3 : sendsB (T.getD c default) g.s g.o = q3) : hitB H T fr l g c = (q0 && q1 && q2 && q3) := by
  unfold hitB
  have e : (c != l) = q0 := by rw [← h0, Bool.eq_iff_iff]; simp; omega
  rw [e, h1, h2, h3]
  simp only [hu, decide_true, Bool.true_and]
  cases q0 <;> cases q1 <;> cases q2 <;> rfl
/-- What Clashes returns. -/
def ClashPost (H : List (List Bool)) (T : List Tb) (fr : Int) (w : World) (e : Ending) (w' : World) : Prop := ∃ a n c, e = .returned (.slice a n c) ∧ At 5 Cz.cs w' a (clashV H T fr) ∧ n = (clashV H T fr).length ∧ n ≤ c ∧ c ≤ maxLen ∧ Below w.heap.size w w'

set_option maxRecDepth 100000 in
set_option maxHeartbeats 8000000 in
theorem rclash_at (H : List (List Bool)) (T : List Tv) (fr : Int) (m n : Nat) (a b : Option Addr) (ca cb : Nat) (w : World) (hm : Hid (m = H.length)) (hn : Hid (n = T.length)) (hl : TabAt w a H) (ht : TsAt w b T) (hm2 : m ≤ 1000) (hn2 : n ≤ 12) (h40 : Hid (∀ x ∈ T, x.ng ≤ 1000)) :
    Calls Try.prog 19 #[.slice a m ca, .slice b n cb, .int .i64 fr] w (ClashPost H (tbs T) fr w) := by
  obtain ⟨sq, hsq⟩ : ∃ sq, squareB H n = sq := ⟨_, rfl⟩
  have HTL : Hid ((tbs T).length = n) := Lib.hid ((tbs_len T).trans hn.out.symm)
  have HSQ := Lib.hid hsq; clear hsq
  go_enter Try.func19, Try.ntmps19
  go_wp2_with fail
  refine (square_at H m n a ca w hm hl (by unfold maxLen; omega) sq HSQ).mono ?_
  rintro e w1 ⟨rfl, BB⟩
  cases sq
  · go_wp2_with fail
    go_ret
    have e0 : clashV H (tbs T) fr = [] := by unfold clashV; rw [HTL.out, HSQ.out]; rfl
    exact ⟨none, 0, 0, rfl, by rw [e0]; exact .inl rfl, by rw [e0]; rfl, Nat.le_refl _, by unfold maxLen; omega, BB⟩
  · have HCV : Hid (clashV H (tbs T) fr = vTo H (tbs T) fr n) := Lib.hid (by unfold clashV vTo; rw [HTL.out, HSQ.out]; rfl)
    have HMN : Hid (m = n ∧ ∀ j, j < m → (H.getD j []).length = n) := Lib.hid (by have := square_iff.1 HSQ.out; rw [← hm.out] at this; exact this)
    have hmn : m = n := HMN.out.1
    have hB := BB.size
    go_wp2_with fail
    go_loopw [7, 8] (fun o i wr => ∃ l : Nat, l ≤ n ∧ i = .int .i64 l ∧ Below w.heap.size w wr ∧ ∃ q, q ≤ l * 12000 ∧ Hid (q = (vTo H (tbs T) fr l).length) ∧ wr.ownsRow w.heap.size 75 5 o q (flatL Cz.cs (vTo H (tbs T) fr l))) (fun _ i _ => n - (intOf i).toNat)
    case atStart => exact ⟨0, Nat.zero_le _, rfl, BB, 0, Nat.le_refl _, Lib.hid rfl, World.ownsRow_nil _ _ _ _⟩
    case round =>
      clear BB hB
      obtain ⟨l, hl0, rfl, BB, q, hq, hql, R⟩ := hrel
      by_cases hlt : l < n
      · have hlt' : (l : Int) < (n : Int) := by omega
        have hl1 : (0 : Int) ≤ (l : Int) := by omega
        have hTl : (tbs T).getD l default = (T.getD l default).T := tbs_at (by rw [← hn.out]; exact hlt)
        have hxm : T.getD l default ∈ T := getD_mem (by rw [← hn.out]; exact hlt)
        have hx40 := h40.out _ hxm
        obtain ⟨b1, off, rfl, ho, -, -, -⟩ := ht.at BB (i := l) (by rw [← hn.out]; exact hlt)
        obtain ⟨a1, o1, ra, rc, rfl, -, -, -, -⟩ := hl.at BB (i := l) (by rw [← hm.out]; omega)
        obtain ⟨t, htt⟩ : ∃ t, T.getD l default = t := ⟨_, rfl⟩
        rw [htt] at ho hx40 hTl
        have HTT := Lib.hid htt; have HT2 := Lib.hid hTl
        have hgm := ho.gm; have hgc := ho.gc
        unfold maxLen at hgm
        have hgn : Hid (t.ng = t.T.G.length) := Lib.hid ho.gn
        clear htt hTl hxm ho
        have hsz := BB.size
        go_wp2_with fail
        go_loopw [7, 9] (fun o i wr => ∃ k : Nat, k ≤ t.ng ∧ i = .int .i64 k ∧ Below w.heap.size w wr ∧ ∃ q, q ≤ l * 12000 + k * 12 ∧ Hid (q = (vTo H (tbs T) fr l ++ lTo H (tbs T) fr l k).length) ∧ wr.ownsRow w.heap.size 75 5 o q (flatL Cz.cs (vTo H (tbs T) fr l ++ lTo H (tbs T) fr l k))) (fun _ i _ => t.ng - (intOf i).toNat)
        case atStart => exact ⟨0, Nat.zero_le _, rfl, BB, q, by omega, Lib.hid (by rw [lTo_zero, List.append_nil]; exact hql.out), by rw [lTo_zero, List.append_nil]; exact R⟩
        case round =>
          clear BB hql R hsz
          obtain ⟨k, hk, rfl, BB, q, hq, hql, R⟩ := hrel
          obtain ⟨va, vc, rfl⟩ := row_shape R
          obtain ⟨b2, off2, e2, ho, t0, t1, t2⟩ := ht.at BB (i := l) (by rw [← hn.out]; exact hlt)
          simp only [Option.some.injEq, Addr.mk.injEq, and_true] at e2
          obtain ⟨rfl, rfl⟩ := e2
          rw [HTT.out] at ho t0 t1 t2
          by_cases hkt : k < t.ng
          · have hkt' : (k : Int) < (t.ng : Int) := by omega
            have hk0 : (0 : Int) ≤ (k : Int) := by omega
            obtain ⟨ga, hga⟩ : ∃ ga, t.ga = ga := ⟨_, rfl⟩
            obtain ⟨b3, off3, e3, c0, c1, c2, c3, c4⟩ := ho.g.gr (Below.refl _ _) (i := k) (by rw [← hgn.out]; exact hkt)
            obtain rfl : ga = some ⟨b3, off3, none⟩ := hga.symm.trans e3
            rw [hga] at t1
            clear hga e3
            have hls := lTo_succ H (tbs T) fr l (k := k) (by rw [HT2.out, ← hgn.out]; exact hkt)
            rw [HT2.out, HTL.out] at hls
            obtain ⟨g, hg⟩ : ∃ g, t.T.G.getD k default = g := ⟨_, rfl⟩
            rw [hg] at c0 c1 c2 c3 c4 hls
            have HLS := Lib.hid hls
            clear hls hg ho t0 t2
            go_upto_region 11 with (fail)
            clear t1 c0 c1 c2 c3 c4
            have Tg := CAt.new wr [.int .i64 g.s, .int .i64 g.o, .int .i64 g.p, .int .i64 g.t, .int .i64 g.u] 63
            have BA : Below wr.heap.size wr (wr.alloc (.cells #[.int .i64 g.s, .int .i64 g.o, .int .i64 g.p, .int .i64 g.t, .int .i64 g.u] 63)) := ball (Below.refl _ _) _
            obtain ⟨V3, hV3⟩ : ∃ V3, wr.alloc (.cells #[.int .i64 g.s, .int .i64 g.o, .int .i64 g.p, .int .i64 g.t, .int .i64 g.u] 63) = V3 := ⟨_, rfl⟩
            rw [hV3] at Tg BA ⊢
            clear hV3
            obtain ⟨gb, hgb⟩ : ∃ gb, wr.heap.size = gb := ⟨_, rfl⟩
            have hgb2 : w.heap.size ≤ gb := by have := BB.size; omega
            have HNE : Hid (∀ b, (Value.slice va q vc).ownBlock = some b → b ≠ gb) := Lib.hid (fun b hb => by have := (R.lt b hb).2; omega)
            have hgl : gb < V3.heap.size := World.block_lt_of_cell? V3 ⟨gb, 0, none⟩ (by rw [← hgb]; exact Tg 0 _ rfl)
            replace BB := bstep BB BA
            replace R := ownsRow_below R BA
            rw [hgb] at Tg ⊢
            clear BA hgb
            have g3 := Tg 4 _ rfl
            by_cases hfu : fr ≤ g.u
            · go_wp2_with fail
              clear g3
              go_loopw [7, 11] (fun o i wr => ∃ c : Nat, c ≤ n ∧ i = .int .i64 c ∧ Below w.heap.size w wr ∧ CAt wr gb [.int .i64 g.s, .int .i64 g.o, .int .i64 g.p, .int .i64 g.t, .int .i64 g.u] ∧ gb < wr.heap.size ∧ Hid (∀ b, o.ownBlock = some b → b ≠ gb) ∧ ∃ q, q ≤ l * 12000 + k * 12 + c ∧ Hid (q = (vTo H (tbs T) fr l ++ lTo H (tbs T) fr l k ++ clashG H (tbs T) fr l g c).length) ∧ wr.ownsRow w.heap.size 75 5 o q (flatL Cz.cs (vTo H (tbs T) fr l ++ lTo H (tbs T) fr l k ++ clashG H (tbs T) fr l g c))) (fun _ i _ => n - (intOf i).toNat)
              case atStart => exact ⟨0, Nat.zero_le _, rfl, BB, Tg, hgl, HNE, q, by omega, Lib.hid (by rw [show clashG H (tbs T) fr l g 0 = [] from rfl, List.append_nil]; exact hql.out), by rw [show clashG H (tbs T) fr l g 0 = [] from rfl, List.append_nil]; exact R⟩
              case round =>
                clear BB hql R Tg
                obtain ⟨c, hc, rfl, BB, Tg, hgl, HNE, q, hq, hql, R⟩ := hrel
                have g3 := Tg 4 _ rfl
                by_cases hcn : c < n
                · have hcn' : (c : Int) < (n : Int) := by omega
                  have hc0 : (0 : Int) ≤ (c : Int) := by omega
                  go_upto_region 14 with (fail)
                  clear g3
                  obtain ⟨a2, o2, ra, rc, e2, h0, hrow, -, -⟩ := hl.at BB (i := l) (by rw [← hm.out]; omega)
                  simp only [Option.some.injEq, Addr.mk.injEq, and_true] at e2
                  obtain ⟨rfl, rfl⟩ := e2
                  have hrl : (H.getD l []).length = n := HMN.out.2 l (by omega)
                  rw [hrl] at h0
                  obtain ⟨b4, o4, rfl, h1⟩ := hrow.at (Below.refl _ _) (i := c) (by rw [hrl]; exact hcn)
                  obtain ⟨b5, o5, e5, hoc, s0, s1, s2⟩ := ht.at BB (i := c) (by rw [← hn.out]; exact hcn)
                  simp only [Option.some.injEq, Addr.mk.injEq, and_true] at e5
                  obtain ⟨rfl, rfl⟩ := e5
                  obtain ⟨tc, htc⟩ : ∃ tc, T.getD c default = tc := ⟨_, rfl⟩
                  rw [htc] at hoc s0 s1 s2
                  have hTc : (tbs T).getD c default = tc.T := by rw [tbs_at (by rw [← hn.out]; exact hcn), htc]
                  obtain ⟨q0, hq0⟩ : ∃ q0, ((c : Int) != (l : Int)) = q0 := ⟨_, rfl⟩
                  obtain ⟨q1, hq1⟩ : ∃ q1, ((c : Int) != g.p) = q1 := ⟨_, rfl⟩
                  have hq2 : tabB H l c = (H.getD l []).getD c false := rfl
                  obtain ⟨q2, hq2'⟩ : ∃ q2, (H.getD l []).getD c false = q2 := ⟨_, rfl⟩
                  rw [hq2'] at h1
                  obtain ⟨q3, hq3⟩ : ∃ q3, sendsB tc.T g.s g.o = q3 := ⟨_, rfl⟩
                  have HH : Hid (hitB H (tbs T) fr l g c = (q0 && q1 && q2 && q3)) := Lib.hid (hit_parts hfu hq0 hq1 (hq2.trans hq2') (by rw [hTc]; exact hq3))
                  have HS3 := Lib.hid hq3
                  have HOC := Lib.hid hoc
                  clear hrl hrow htc hTc hq2 hq2' hq3 hoc
                  have g0 := Tg 0 _ rfl
                  have g1 := Tg 1 _ rfl
                  have g2 := Tg 2 _ rfl
                  have kg0 := cell_regrown g0; have kg1 := cell_regrown g1; have kg2 := cell_regrown g2; have kh0 := cell_regrown h0; have kh1 := cell_regrown h1; have ks0 := cell_regrown s0; have ks1 := cell_regrown s1; have ks2 := cell_regrown s2
                  cases q0
                  ·
                    refine wp_region_quiet_below (by kernel_rfl) (by kernel_rfl) ?_
                    repeat (go_big_quiet_step (fail))
                    refine wpQuiet_nil ?_
                    intro _ hw'
                    obtain ⟨⟨dq, osq⟩, hw''⟩ := hw'
                    subst hw''
                    have bq := below_regrown wr dq osq
                    obtain ⟨V1, hV1⟩ : ∃ V1, grow (redrawn wr dq) osq = V1 := ⟨_, rfl⟩
                    rw [hV1] at bq ⊢
                    clear hV1 dq osq
                    replace Tg := Tg.keep bq
                    replace BB := bstep BB bq
                    have bq9 := bq
                    replace hgl := Nat.lt_of_lt_of_le hgl bq.size
                    clear bq
                    clear g0 g1 g2 h0 h1 s0 s1 s2 kg0 kg1 kg2 kh0 kh1 ks0 ks1 ks2 hq0 hq1
                    replace R := ownsRow_below R bq9
                    clear bq9
                    have HG2 : Hid (clashG H (tbs T) fr l g (c + 1) = clashG H (tbs T) fr l g c) := Lib.hid (by rw [gTo_succ, HH.out]; simp)
                    go_wp2_with fail
                    go_roundw
                    case rel => exact ⟨c + 1, by omega, by go_num, BB, Tg, hgl, HNE, q, by omega, Lib.hid (by rw [HG2.out]; exact hql.out), by rw [HG2.out]; exact R⟩
                    case measure => simp [intOf]; omega
                  ·
                    cases q1
                    ·
                      refine wp_region_quiet_below (by kernel_rfl) (by kernel_rfl) ?_
                      repeat (go_big_quiet_step (fail))
                      refine wpQuiet_nil ?_
                      intro _ hw'
                      obtain ⟨⟨dq, osq⟩, hw''⟩ := hw'
                      subst hw''
                      have bq := below_regrown wr dq osq
                      obtain ⟨V1, hV1⟩ : ∃ V1, grow (redrawn wr dq) osq = V1 := ⟨_, rfl⟩
                      rw [hV1] at bq ⊢
                      clear hV1 dq osq
                      replace Tg := Tg.keep bq
                      replace BB := bstep BB bq
                      have bq9 := bq
                      replace hgl := Nat.lt_of_lt_of_le hgl bq.size
                      clear bq
                      clear g0 g1 g2 h0 h1 s0 s1 s2 kg0 kg1 kg2 kh0 kh1 ks0 ks1 ks2 hq0 hq1
                      replace R := ownsRow_below R bq9
                      clear bq9
                      have HG2 : Hid (clashG H (tbs T) fr l g (c + 1) = clashG H (tbs T) fr l g c) := Lib.hid (by rw [gTo_succ, HH.out]; simp)
                      go_wp2_with fail
                      go_roundw
                      case rel => exact ⟨c + 1, by omega, by go_num, BB, Tg, hgl, HNE, q, by omega, Lib.hid (by rw [HG2.out]; exact hql.out), by rw [HG2.out]; exact R⟩
                      case measure => simp [intOf]; omega
                    ·
                      cases q2
                      ·
                        refine wp_region_quiet_below (by kernel_rfl) (by kernel_rfl) ?_
                        repeat (go_big_quiet_step (fail))
                        refine wpQuiet_nil ?_
                        intro _ hw'
                        obtain ⟨⟨dq, osq⟩, hw''⟩ := hw'
                        subst hw''
                        have bq := below_regrown wr dq osq
                        obtain ⟨V1, hV1⟩ : ∃ V1, grow (redrawn wr dq) osq = V1 := ⟨_, rfl⟩
                        rw [hV1] at bq ⊢
                        clear hV1 dq osq
                        replace Tg := Tg.keep bq
                        replace BB := bstep BB bq
                        have bq9 := bq
                        replace hgl := Nat.lt_of_lt_of_le hgl bq.size
                        clear bq
                        clear g0 g1 g2 h0 h1 s0 s1 s2 kg0 kg1 kg2 kh0 kh1 ks0 ks1 ks2 hq0 hq1
                        replace R := ownsRow_below R bq9
                        clear bq9
                        have HG2 : Hid (clashG H (tbs T) fr l g (c + 1) = clashG H (tbs T) fr l g c) := Lib.hid (by rw [gTo_succ, HH.out]; simp)
                        go_wp2_with fail
                        go_roundw
                        case rel => exact ⟨c + 1, by omega, by go_num, BB, Tg, hgl, HNE, q, by omega, Lib.hid (by rw [HG2.out]; exact hql.out), by rw [HG2.out]; exact R⟩
                        case measure => simp [intOf]; omega
                      ·
                        have CH : ∀ w', Below wr.heap.size wr w' → Calls Try.prog 29 #[tc.v, .agg #[.int .i64 g.s, .int .i64 g.o]] w' fun e w'' => e = .returned (.bool q3) ∧ Below w'.heap.size w' w'' := fun w' h => sends_at tc g.s g.o w' (Lib.hid (HOC.out.keep h)) q3 HS3
                        refine wp_region_quiet_below (by kernel_rfl) (by kernel_rfl) ?_
                        repeat (go_big_quiet_step (first
                          | (go_at_call 29; with_reducible exact rg_of CH)))
                        refine wpQuiet_nil ?_
                        intro _ hw'
                        obtain ⟨⟨dq, osq⟩, hw''⟩ := hw'
                        subst hw''
                        have bq := below_regrown wr dq osq
                        obtain ⟨V1, hV1⟩ : ∃ V1, grow (redrawn wr dq) osq = V1 := ⟨_, rfl⟩
                        rw [hV1] at bq ⊢
                        clear hV1 dq osq
                        replace Tg := Tg.keep bq
                        replace BB := bstep BB bq
                        have bq9 := bq
                        replace hgl := Nat.lt_of_lt_of_le hgl bq.size
                        clear bq
                        clear CH HS3
                        cases q3
                        ·
                          clear g0 g1 g2 h0 h1 s0 s1 s2 kg0 kg1 kg2 kh0 kh1 ks0 ks1 ks2 hq0 hq1
                          replace R := ownsRow_below R bq9
                          clear bq9
                          have HG2 : Hid (clashG H (tbs T) fr l g (c + 1) = clashG H (tbs T) fr l g c) := Lib.hid (by rw [gTo_succ, HH.out]; simp)
                          go_wp2_with fail
                          go_roundw
                          case rel => exact ⟨c + 1, by omega, by go_num, BB, Tg, hgl, HNE, q, by omega, Lib.hid (by rw [HG2.out]; exact hql.out), by rw [HG2.out]; exact R⟩
                          case measure => simp [intOf]; omega
                        ·
                          clear g0 g1 g2 h0 h1 s0 s1 s2 kg0 kg1 kg2 kh0 kh1 ks0 ks1 ks2 hq0 hq1
                          replace R := ownsRow_below R bq9
                          clear bq9
                          have HG2 : Hid (clashG H (tbs T) fr l g (c + 1) = clashG H (tbs T) fr l g c ++ [⟨g.s, g.o, l, g.p, c⟩]) := Lib.hid (by rw [gTo_succ, HH.out]; rfl)
                          obtain ⟨va, vc, rfl⟩ := row_shape R
                          go_upto_region 15 with (fail)
                          obtain ⟨i0, hi9, hz0, hz1, hz2⟩ := info_parts info75
                          have g0 := Tg 0 _ rfl
                          have g1 := Tg 1 _ rfl
                          have g2 := Tg 2 _ rfl
                          have hsz2 : w.heap.size ≤ V1.heap.size := BB.size
                          go_wp2_with (at_builtin; refine wpList_plain rfl fun K9 hK9 => ?_; refine wp_append_at (.tmp 80) (.tmp 88) 37 rfl w.heap.size 75 i0 _ 5 40 Try.underlying37 hi9 hz0 hz1 hz2 rfl (by decide) _ _ _ rfl (R.alloc _) ⟨V1.heap.size, 0, none⟩ 1 1 (⟨g.s, g.o, l, g.p, c⟩ : Cz).cs rfl rfl (fun j u hj => by rw [add0]; exact CAt.new _ (⟨g.s, g.o, l, g.p, c⟩ : Cz).cs _ j u hj) (fun u hu => by simp at hu; rcases hu with rfl | rfl | rfl | rfl | rfl <;> rfl) (by unfold maxLen; omega) (by omega) (by simp; omega) ?_; intro v1 w4 R1 hg1 hv1; have HV1 := Lib.hid hv1; clear hv1; refine hK9 _ _ ?_; clear hK9)
                          go_roundw
                          case rel =>
                            have RA := R.alloc (.cells #[.int .i64 g.s, .int .i64 g.o, .int .i64 l, .int .i64 g.p, .int .i64 c] 75)
                            have bA : Below V1.heap.size V1 (V1.alloc (.cells #[.int .i64 g.s, .int .i64 g.o, .int .i64 l, .int .i64 g.p, .int .i64 c] 75)) := ball (Below.refl _ _) _
                            have BB1 := app_below (bstep BB bA) (Nat.le_refl _) RA hg1
                            have Tg1 := (Tg.keep bA).grown hg1 (fun e => HNE.out gb e.symm rfl)
                            have hgl1 : gb < w4.heap.size := Nat.lt_of_lt_of_le hgl (Nat.le_trans bA.size hg1.size)
                            have HNE1 : Hid (∀ b, v1.ownBlock = some b → b ≠ gb) := Lib.hid (fun b hb => by
                              rcases HV1.out with h | h
                              · exact HNE.out b (h.symm.trans hb)
                              · rw [h] at hb; simp at hb; omega)
                            exact ⟨c + 1, by omega, by go_num, BB1, Tg1, hgl1, HNE1, q + 1, by omega, Lib.hid (by rw [HG2.out, ← List.append_assoc, List.length_append, ← hql.out]; rfl), by rw [HG2.out, ← List.append_assoc, flatL_append, flatL_one]; exact R1⟩
                          case measure => simp [intOf]; omega
                · obtain rfl : n = c := by omega
                  have hcn' : ¬ (n : Int) < (n : Int) := by omega
                  go_wp2_with fail
                  clear g3
                  go_roundw
                  case rel => exact ⟨k + 1, by omega, by go_num, BB, q, by omega, Lib.hid (by rw [HLS.out, ← List.append_assoc]; exact hql.out), by rw [HLS.out, ← List.append_assoc]; exact R⟩
                  case measure => simp [intOf]; omega
            · have HLS2 : Hid (lTo H (tbs T) fr l (k + 1) = lTo H (tbs T) fr l k) := Lib.hid (by rw [HLS.out, gTo_none hfu, List.append_nil])
              have hfu2 : decide (fr ≤ g.u) = false := by simpa using hfu
              clear g3
              go_wp2_with fail
              go_loopw [7, 11] (fun o i wr => i = .int .i64 0 ∧ Below w.heap.size w wr ∧ CAt wr gb [.int .i64 g.s, .int .i64 g.o, .int .i64 g.p, .int .i64 g.t, .int .i64 g.u] ∧ o = .slice va q vc ∧ wr.ownsRow w.heap.size 75 5 o q (flatL Cz.cs (vTo H (tbs T) fr l ++ lTo H (tbs T) fr l k))) (fun _ _ _ => 0)
              case atStart => exact ⟨rfl, BB, Tg, rfl, R⟩
              case round =>
                clear BB Tg R hgl
                obtain ⟨rfl, BB, Tg, rfl, R⟩ := hrel
                have g3 := Tg 4 _ rfl
                have hn1 : (0 : Int) < (n : Int) := by omega
                have hn2' : 0 < n := by omega
                go_wp2_with fail
                clear g3
                go_roundw
                case rel => exact ⟨k + 1, by omega, by go_num, BB, q, by omega, Lib.hid (by rw [HLS2.out]; exact hql.out), by rw [HLS2.out]; exact R⟩
                case measure => simp [intOf]; omega
          · obtain rfl : t.ng = k := by omega
            have hkt' : ¬ (t.ng : Int) < (t.ng : Int) := by omega
            clear t0 t2 ho
            go_wp2_with fail
            clear t1
            go_roundw
            case rel => exact ⟨l + 1, by omega, by go_num, BB, q, by omega, Lib.hid (by rw [vTo_succ, HT2.out, ← hgn.out]; exact hql.out), by rw [vTo_succ, HT2.out, ← hgn.out]; exact R⟩
            case measure => simp [intOf]; omega
      · obtain rfl : n = l := by omega
        have hlt' : ¬ (n : Int) < (n : Int) := by omega
        obtain ⟨x0, d0, rfl, Q0, h1, h2⟩ := own_at cz_size R hql.out
        go_wp2_with fail
        go_ret
        exact ⟨x0, q, d0, rfl, by rw [HCV.out]; exact Q0, by rw [HCV.out]; exact hql.out, h1, h2, BB⟩
end Go.Proofs.Ytleenbfldkmcaaa
