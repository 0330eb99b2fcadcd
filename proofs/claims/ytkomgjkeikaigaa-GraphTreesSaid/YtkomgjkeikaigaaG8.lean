/- Proved: what graph.Depths returns. Conditions: the table lies in memory. -/
import Derived.Test.YtkomgjkeikaigaaC0
namespace Go.Proofs.Ytkomgjkeikaigaa
open Go.RowKit Go.Sort Go.BigFrame
set_option linter.unusedVariables false
set_option linter.unusedSimpArgs false
attribute [local go_sem] cell_alloc_old

/-- The channel holds these numbers, in order. -/
def ChAt (w : World) (c cap : Nat) (q : List Nat) : Prop := ∃ s r, w.heap[c]? = some (.chan cap (q.map (fun k : Nat => Value.int .i64 k)).toArray false s r false)
theorem ChAt.lt {w : World} {c cap : Nat} {q : List Nat} (h : ChAt w c cap q) : c < w.heap.size := by
  obtain ⟨s, r, h⟩ := h
  rcases Nat.lt_or_ge c w.heap.size with h1 | h1
  · exact h1
  · rw [Array.getElem?_eq_none h1] at h; cases h
theorem ChAt.keep {w w' : World} {c cap : Nat} {q : List Nat} (h : ChAt w c cap q) (hb' : Below w.heap.size w w') : ChAt w' c cap q := by
  have hl := h.lt
  obtain ⟨s, r, h⟩ := h
  exact ⟨s, r, by rw [hb'.block c hl]; exact h⟩
theorem ChAt.set {w : World} {c cap : Nat} {q : List Nat} (h : ChAt w c cap q) {p : Addr} (hp : p.block ≠ c) (v : Value) : ChAt (w.setCell p v) c cap q := by
  obtain ⟨s, r, h⟩ := h
  exact ⟨s, r, by rw [← h]; unfold World.setCell; exact Below.heap_setCell _ _ _ _ (fun e => hp e.symm)⟩
theorem cell_setChan {w : World} {c cap s r : Nat} {buf : Array Value} {cl tm : Bool} {a : Addr} (ha : a.block ≠ c) : (w.setChan c cap buf cl s r tm).cell? a = w.cell? a :=
  World.cell?_of_block (by simp only [World.setChan]; rw [Array.getElem?_setIfInBounds_ne (fun e => ha e.symm)])
theorem frz_setChan {w : World} {c cap s r : Nat} {buf : Array Value} {cl tm : Bool} {a : Addr} (ha : a.block ≠ c) : (w.setChan c cap buf cl s r tm).frozen? a = w.frozen? a :=
  World.frozen?_of_block (by simp only [World.setChan]; rw [Array.getElem?_setIfInBounds_ne (fun e => ha e.symm)])
theorem RowI.setChan {w : World} {g c cap s r : Nat} {buf : Array Value} {cl tm : Bool} {zs : List Int} (h : RowI w g zs) (hc : g ≠ c) : RowI (w.setChan c cap buf cl s r tm) g zs :=
  ⟨fun j v hj => (cell_setChan (a := ⟨g, j, none⟩) hc).trans (h.1 j v hj), fun j => (frz_setChan (a := ⟨g, j, none⟩) hc).trans (h.2.1 j), by rw [Go.Conc.size_setChan]; exact h.2.2⟩
theorem chan_bytes : ∃ i, Try.prog.info? 3 = some i ∧ i.bytes = 8 := by
  have h : (Try.prog.info? 3).map (·.bytes) = some 8 := by kernel_rfl
  obtain ⟨i, hi, hb⟩ := Option.map_eq_some_iff.1 h
  exact ⟨i, hi, hb⟩
theorem make_chan (n : Nat) (hn : n ≤ 60) (w : World) : (Instr.makeChan 45 (.int .i64 n)).run Try.prog w = .ok (.chan (some w.heap.size)) (w.alloc (.chan n #[] false 0 0 false)) := by
  obtain ⟨i, hi, hb⟩ := chan_bytes
  exact Go.Conc.run_makeChan (P := Try.prog) (w := w) Try.underlying45 hi .i64 n (by omega) (by rw [hb]; omega)
theorem len_chan {w : World} {c cap : Nat} {q : List Nat} (h : ChAt w c cap q) : (Builtin.len_ #[45] 3 #[.chan (some c)]).run Try.prog w = .ok (.int .i64 (q.length : Int)) w := by
  obtain ⟨s, r, h⟩ := h
  have := Go.Conc.run_len_chan (P := Try.prog) (w := w) 45 3 Try.underlying45 h
  simpa [goInt] using this

abbrev qv (q : List Nat) : Array Value := (q.map (fun k : Nat => Value.int .i64 k)).toArray
theorem ChAt.push {w : World} {c cap s r : Nat} {q : List Nat} (h : w.heap[c]? = some (.chan cap (qv q) false s r false)) (k : Nat) : ChAt (w.setChan c cap ((qv q).push (.int .i64 (k : Int))) false (s + 1) r false) c cap (q ++ [k]) :=
  ⟨s + 1, r, by rw [Go.Conc.heap_setChan _ _ _ _ _ _ _ _ (Array.getElem?_eq_some_iff.1 h).1]; simp [qv]⟩
theorem ChAt.pop {w : World} {c cap s r i : Nat} {q : List Nat} (h : w.heap[c]? = some (.chan cap (qv (i :: q)) false s r false)) : ChAt (w.setChan c cap ((qv (i :: q)).extract 1 (qv (i :: q)).size) false s (r + 1) false) c cap q :=
  ⟨s, r + 1, by rw [Go.Conc.heap_setChan _ _ _ _ _ _ _ _ (Array.getElem?_eq_some_iff.1 h).1]; simp [qv]; exact List.take_of_length_le (by simp)⟩

set_option maxRecDepth 100000 in
set_option maxHeartbeats 4000000 in
theorem depths_any (h : Tab) (n : Nat) (a : Option Addr) (cap : Nat) (root : Int) (w : World) (hn : n = h.length) (hl : TabAt w a h) (hm : n ≤ maxLen) : Calls Try.prog 12 #[.slice a n cap, .int .i64 root] w (DepthPost h root w) := by
  have hm' := hm
  unfold maxLen at hm
  have HN := Lib.hid hn; clear hn
  cases hv : validB h
  · have ho : okD h root = false := by unfold okD; rw [hv]; rfl
    have HO := Lib.hid ho; have HV := Lib.hid hv; clear ho hv
    go_enter Try.func12, Try.ntmps12
    go_wp2_with fail
    refine (isvalid_at h n a cap false _ HN.out hl hm' HV.out).mono ?_
    rintro e w1 ⟨rfl, b1⟩
    go_wp2_with fail
    go_ret2
    exact err_one b1 HO.out
  have hV := valid_of hv
  have HV := Lib.hid hv; have HVD := Lib.hid hV
  cases hr : (decide (0 ≤ root) && decide (root < (n : Int)))
  · have ho : okD h root = false := by unfold okD; rw [hv, ← HN.out, hr]; rfl
    have HO := Lib.hid ho; have HR := Lib.hid hr; clear ho hv hV hr
    go_enter Try.func12, Try.ntmps12
    go_wp2_with fail
    refine (isvalid_at h n a cap true _ HN.out hl hm' HV.out).mono ?_
    rintro e w1 ⟨rfl, b1⟩
    go_wp2_with fail
    refine (isidx_at root n false _ HR.out).mono ?_
    rintro e w2 ⟨rfl, b2⟩
    go_wp2_with fail
    go_ret2
    exact err_one (bstep b1 b2) HO.out
  have ho : okD h root = true := by unfold okD; rw [hv, ← HN.out, hr]; rfl
  have hr2 : 0 ≤ root ∧ root < (n : Int) := by simpa using hr
  obtain ⟨t, rfl⟩ : ∃ t : Nat, root = t := ⟨root.toNat, by omega⟩
  have htn : t < n := by omega
  have h60 : n ≤ 60 := by rw [HN.out]; exact hV.1
  have HO := Lib.hid ho; have HR := Lib.hid hr; clear ho hv hV hr hr2
  have hmk := make_ints n h60
  have hmc := make_chan n h60
  refine calls_of_wpN Try.func12 rfl ?_
  simp only [Try.ntmps12, List.size_toArray, List.length_cons, List.length_nil, Nat.reduceAdd, Nat.reduceSub, Array.replicate_succ, Array.replicate_zero, List.push_toArray, List.append_toArray, List.nil_append, List.cons_append]

  refine wpN_seq fun K hK => ?_
  refine wpN_of_wp ?_
  go_wp2_with fail
  refine wpN_seq fun K hK => ?_
  refine wpN_of_wp ?_
  go_wp2_with fail
  refine (isvalid_at h n a cap true _ HN.out hl hm' HV.out).mono ?_
  rintro e w1 ⟨rfl, b1⟩
  go_wp2_with fail
  refine (isidx_at t n true _ HR.out).mono ?_
  rintro e w2 ⟨rfl, b2⟩
  have BB := bstep b1 b2
  clear b1 b2
  go_wp2_with fail
  obtain ⟨b, off, rfl, hT⟩ := tab_at hl (i := t) (by rw [← HN.out]; exact htn)
  have HT := Lib.hid hT; clear hT
  refine wpN_seq fun K hK => ?_
  refine wpN_of_wp ?_
  go_wp2_with fail
  have R0 := RowI.new w2 n
  have hg : w.heap.size ≤ w2.heap.size := BB.size
  replace BB := ball BB (.cells (Array.replicate n (.int .i64 0)) 3)
  obtain ⟨V, hV⟩ : ∃ V, w2.alloc (.cells (Array.replicate n (.int .i64 0)) 3) = V := ⟨_, rfl⟩
  obtain ⟨g, hg2⟩ : ∃ g, w2.heap.size = g := ⟨_, rfl⟩
  rw [hV] at R0 BB ⊢
  rw [hg2] at R0 hg ⊢
  clear hV hmk hg2
  refine wpN_seq fun K hK => ?_
  refine wpN_of_wp ?_
  go_wp2_with fail
  go_loopw [27] (fun i wr => ∃ k : Nat, k ≤ n ∧ i = .int .i64 k ∧ RowI wr g (iTo n k) ∧ Below w.heap.size w wr) (fun i _ => n - (intOf i).toNat)
  case atStart => exact ⟨0, Nat.zero_le _, rfl, R0, BB⟩
  case round =>
    clear R0 BB
    obtain ⟨k, hk, rfl, R, BB⟩ := hrel
    by_cases hlt : k < n
    · have hlt' : (k : Int) < (n : Int) := by omega
      have hk0 : (0 : Int) ≤ (k : Int) := by omega
      have cc := R.at (j := k) (by rw [iTo_len]; exact hlt)
      have ff := R.2.1 k
      go_wp2_with fail
      go_roundw
      case rel => exact ⟨k + 1, by omega, by go_num, R.set (by rw [iTo_len]; exact hlt) (-1), BB.setCell (p := ⟨_, k, none⟩) hg _⟩
      case measure => simp [intOf]; omega
    · have hkn : n = k := by omega
      have hlt' : ¬ (k : Int) < (n : Int) := by omega
      rw [← hkn, iTo_end] at R
      clear hlt hk
      rw [← hkn] at hlt' ⊢
      clear hkn
      go_wp2_with fail
      refine wpN_seq fun K hK => ?_
      refine wpN_of_wp ?_
      go_wp2_with fail
      have hsz : g < wr.heap.size := R.2.2
      replace R := R.keep (Below.alloc (Below.refl _ wr) (Nat.le_refl _) (.chan n #[] false 0 0 false))
      replace BB := ball BB (.chan n #[] false 0 0 false)
      have C : ChAt (wr.alloc (.chan n #[] false 0 0 false)) wr.heap.size n [] := ⟨0, 0, by rw [heap_alloc_new]; rfl⟩
      obtain ⟨V2, hV2⟩ : ∃ V2, wr.alloc (.chan n #[] false 0 0 false) = V2 := ⟨_, rfl⟩
      obtain ⟨c, hc⟩ : ∃ c, wr.heap.size = c := ⟨_, rfl⟩
      rw [hV2] at R BB C ⊢
      rw [hc] at C hsz ⊢
      clear hV2 hc hmc
      have hgc : g ≠ c := by omega
      have hwc : w.heap.size ≤ c := by omega
      refine wpN_seq fun K hK => ?_
      refine wpN_region ?_
      show opsN _ _ _ [0, 1, 2] _ _
      refine opsN_value (v := .chan (some c)) (w' := V2) rfl rfl rfl ?_
      refine opsN_value (v := .int .i64 (t : Int)) (w' := V2) rfl rfl rfl ?_
      obtain ⟨s0, r0, hC⟩ := C
      refine opsN_send (c := c) (v := .int .i64 (t : Int)) (z := .tuple #[]) rfl rfl rfl hC (by simp; omega) ?_
      refine opsN_nil ?_
      simp only [Act.put, List.setIfInBounds_toArray, List.set_cons_succ, List.set_cons_zero]
      refine hK _ _ ?_
      clear hK K
      have C := ChAt.push (q := []) hC t
      replace R := R.setChan (cap := n) (s := s0 + 1) (r := r0) (buf := (qv []).push (.int .i64 (t : Int))) (cl := false) (tm := false) hgc
      replace BB := Go.Conc.below_setChan BB hwc n ((qv []).push (.int .i64 (t : Int))) false (s0 + 1) r0 false
      obtain ⟨V3, hV3⟩ : ∃ V3, V3 = V2.setChan c n ((qv []).push (.int .i64 (t : Int))) false (s0 + 1) r0 false := ⟨_, rfl⟩
      rw [← hV3] at C R BB ⊢
      clear hV3 hC
      have cc := R.at (j := t) (by simp; omega)
      have ff := R.2.1 t
      have ht0 : (0 : Int) ≤ (t : Int) := by omega
      have ht1 : (t : Int) < (n : Int) := by omega
      refine wpN_seq fun K hK => ?_
      refine wpN_of_wp ?_
      go_wp2_with fail
      replace R := R.set (j := t) (by simp; omega) 0
      replace BB := BB.setCell (p := ⟨g, t, none⟩) hg (.int .i64 0)
      replace C := C.set (p := ⟨g, t, none⟩) hgc (.int .i64 0)
      obtain ⟨V4, hV4⟩ : ∃ V4, V3.setCell ⟨g, t, none⟩ (.int .i64 0) = V4 := ⟨_, rfl⟩
      rw [hV4] at R BB C ⊢
      clear hV4 cc ff
      have hst0 : (List.replicate n (-1)).set t 0 = startD h t := by unfold startD; rw [← HN.out]
      rw [hst0] at R
      clear hst0
      have B0 := bfs_start (h := h) (root := t) (by rw [← HN.out]; exact htn)
      refine wpN_seq fun K hK => ?_
      have HK0 := Lib.hid hK; clear hK
      refine wpN_block ?_
      refine wpN_loop (fun m act w' => ∃ u2 u3 u7 u9 u10 u11 u12 u13 u14 u15 u16 u17 u18 u19 u20 u21 u22 u23 u24 u25 u26 u27 u28 u29 u30 u31 u32 u33 u34 u35 u36 u37 u38 u39 u40 u41 u42 u43 u44 u45 u46 u47 u48 u49 u50 u51 u52 u53 u54 u55 u56 u57 u58 u59 u60 u61 u62 u63 u64 u65 u66 u67 u68 u69 u70 u71 u72 u73 u74 u75 u76 : Value, (∃ (o : List Int) (q dn : List Nat), BfsInv h t o q dn ∧ RowI w' g o ∧ ChAt w' c n q ∧ Below w.heap.size w w' ∧ m = n - dn.length) ∧ act = ⟨#[.slice (some ⟨b, off, none⟩) n cap, .int .i64 (t : Int), u2, u3, .slice none 0 0, .int .i64 0, .slice (some ⟨g, 0, none⟩) n n, u7, .chan (some c), u9, u10, u11, u12, u13, u14, u15, u16, u17, u18, u19, u20, u21, u22, u23, u24, u25, u26, u27, u28, u29, u30, u31, u32, u33, u34, u35, u36, u37, u38, u39, u40, u41, u42, u43, u44, u45, u46, u47, u48, u49, u50, u51, u52, u53, u54, u55, u56, u57, u58, u59, u60, u61, u62, u63, u64, u65, u66, u67, u68, u69, u70, u71, u72, u73, u74, u75, u76], []⟩) n ?h0 ?round
      case h0 =>
        (repeat apply Exists.intro)
        refine ⟨⟨startD h t, [t], [], B0, R, C, BB, rfl⟩, rfl⟩
      case round =>
        clear B0 R C BB
        intro m act wr hI K hK
        obtain ⟨u2, hI⟩ := hI
        obtain ⟨u3, hI⟩ := hI
        obtain ⟨u7, hI⟩ := hI
        obtain ⟨u9, hI⟩ := hI
        obtain ⟨u10, hI⟩ := hI
        obtain ⟨u11, hI⟩ := hI
        obtain ⟨u12, hI⟩ := hI
        obtain ⟨u13, hI⟩ := hI
        obtain ⟨u14, hI⟩ := hI
        obtain ⟨u15, hI⟩ := hI
        obtain ⟨u16, hI⟩ := hI
        obtain ⟨u17, hI⟩ := hI
        obtain ⟨u18, hI⟩ := hI
        obtain ⟨u19, hI⟩ := hI
        obtain ⟨u20, hI⟩ := hI
        obtain ⟨u21, hI⟩ := hI
        obtain ⟨u22, hI⟩ := hI
        obtain ⟨u23, hI⟩ := hI
        obtain ⟨u24, hI⟩ := hI
        obtain ⟨u25, hI⟩ := hI
        obtain ⟨u26, hI⟩ := hI
        obtain ⟨u27, hI⟩ := hI
        obtain ⟨u28, hI⟩ := hI
        obtain ⟨u29, hI⟩ := hI
        obtain ⟨u30, hI⟩ := hI
        obtain ⟨u31, hI⟩ := hI
        obtain ⟨u32, hI⟩ := hI
        obtain ⟨u33, hI⟩ := hI
        obtain ⟨u34, hI⟩ := hI
        obtain ⟨u35, hI⟩ := hI
        obtain ⟨u36, hI⟩ := hI
        obtain ⟨u37, hI⟩ := hI
        obtain ⟨u38, hI⟩ := hI
        obtain ⟨u39, hI⟩ := hI
        obtain ⟨u40, hI⟩ := hI
        obtain ⟨u41, hI⟩ := hI
        obtain ⟨u42, hI⟩ := hI
        obtain ⟨u43, hI⟩ := hI
        obtain ⟨u44, hI⟩ := hI
        obtain ⟨u45, hI⟩ := hI
        obtain ⟨u46, hI⟩ := hI
        obtain ⟨u47, hI⟩ := hI
        obtain ⟨u48, hI⟩ := hI
        obtain ⟨u49, hI⟩ := hI
        obtain ⟨u50, hI⟩ := hI
        obtain ⟨u51, hI⟩ := hI
        obtain ⟨u52, hI⟩ := hI
        obtain ⟨u53, hI⟩ := hI
        obtain ⟨u54, hI⟩ := hI
        obtain ⟨u55, hI⟩ := hI
        obtain ⟨u56, hI⟩ := hI
        obtain ⟨u57, hI⟩ := hI
        obtain ⟨u58, hI⟩ := hI
        obtain ⟨u59, hI⟩ := hI
        obtain ⟨u60, hI⟩ := hI
        obtain ⟨u61, hI⟩ := hI
        obtain ⟨u62, hI⟩ := hI
        obtain ⟨u63, hI⟩ := hI
        obtain ⟨u64, hI⟩ := hI
        obtain ⟨u65, hI⟩ := hI
        obtain ⟨u66, hI⟩ := hI
        obtain ⟨u67, hI⟩ := hI
        obtain ⟨u68, hI⟩ := hI
        obtain ⟨u69, hI⟩ := hI
        obtain ⟨u70, hI⟩ := hI
        obtain ⟨u71, hI⟩ := hI
        obtain ⟨u72, hI⟩ := hI
        obtain ⟨u73, hI⟩ := hI
        obtain ⟨u74, hI⟩ := hI
        obtain ⟨u75, hI⟩ := hI
        obtain ⟨u76, hI⟩ := hI
        obtain ⟨⟨o, qq, dn, hB, R, C, BB, hm9⟩, ha⟩ := hI
        subst ha
        have HK := Lib.hid hK; clear hK
        have HB := Lib.hid hB; have HM9 := Lib.hid hm9
        clear hB hm9
        have hlen := len_chan C
        cases qq
        case nil =>
          refine wpN_seq fun K2 hK2 => ?_
          refine wpN_of_wp ?_
          go_wp2_with fail
          refine HK0.out _ _ ?_
          refine wpN_of_wp ?_
          go_wp2_with fail
          go_ret2
          refine ⟨fun _ => ?_, fun hh => (by rw [HO.out] at hh; cases hh)⟩
          have D := bfs_done HB.out
          rw [Int.toNat_natCast, depth_eq HVD.out D]
          exact ⟨some ⟨g, 0, none⟩, n, by rw [D.len, ← HN.out]; rfl, R.ints, by rw [D.len, ← HN.out]; exact Nat.le_refl _, hm', BB⟩
        case cons i qq =>
          have hlp : (0 : Int) < ((i :: qq).length : Int) := by simp
          refine wpN_seq fun K2 hK2 => ?_
          refine wpN_of_wp ?_
          go_wp2_with fail
          clear hlen hlp
          refine wpN_block ?_
          obtain ⟨hin, hoi, I0⟩ := bfs_pop HB.out
          have hcnt := bfs_count HB.out
          rw [← HN.out] at hin hcnt
          have hcnt' : dn.length + 1 ≤ n := by simp at hcnt; omega
          have hin1 : (i : Int) < (n : Int) := by omega
          have hin0 : (0 : Int) ≤ (i : Int) := by omega
          have II := Lib.hid I0
          obtain ⟨ra, rc, e1, e2, _⟩ := HT.out i (by rw [← HN.out]; exact hin)
          have hrl : (h.getD i []).length = n := by rw [HVD.out.2.1 i (by rw [← HN.out]; exact hin), HN.out]
          obtain ⟨rb, roff, rfl, e3⟩ := bools_at e2 (i := t) (by rw [hrl]; exact htn)
          rw [hrl] at e1
          have E1 := Lib.hid e1; have E3 := Lib.hid e3; have HRL := Lib.hid hrl
          clear e1 e2 e3 hrl I0 hoi hcnt
          refine wpN_seq fun K3 hK3 => ?_
          refine wpN_region ?_
          show opsN _ _ _ [0, 1, 2] _ _
          refine opsN_value (v := .chan (some c)) (w' := wr) rfl rfl rfl ?_
          obtain ⟨s0, r0, hC⟩ := C
          refine opsN_recv (c := c) (z := .int .i64 0) rfl rfl (by simp [go_sem, Go.Conc.rcase]) hC (by simp) ?_
          have e46 : (qv (i :: qq)).getD 0 undef = .int .i64 (i : Int) := rfl
          refine opsN_value (v := .int .i64 (i : Int)) (w' := wr.setChan c n ((qv (i :: qq)).extract 1 (qv (i :: qq)).size) false s0 (r0 + 1) false) rfl rfl rfl ?_
          refine opsN_nil ?_
          simp only [Act.put, List.setIfInBounds_toArray, List.set_cons_succ, List.set_cons_zero]
          refine hK3 _ _ ?_
          clear hK3 K3
          have C := ChAt.pop hC
          replace R := R.setChan (cap := n) (s := s0) (r := r0 + 1) (buf := (qv (i :: qq)).extract 1 (qv (i :: qq)).size) (cl := false) (tm := false) hgc
          replace BB := Go.Conc.below_setChan BB hwc n ((qv (i :: qq)).extract 1 (qv (i :: qq)).size) false s0 (r0 + 1) false
          obtain ⟨V5, hV5⟩ : ∃ V5, V5 = wr.setChan c n ((qv (i :: qq)).extract 1 (qv (i :: qq)).size) false s0 (r0 + 1) false := ⟨_, rfl⟩
          rw [← hV5] at C R BB ⊢
          clear hV5 hC
          have d1 := keep1 BB E1.out
          refine wpN_seq fun K hK => ?_
          refine wpN_of_wp ?_
          go_wp2_with fail
          clear d1
          refine wpN_block ?_
          refine wpN_loop (fun m act w' => ∃ k : Nat, ∃ u2 u3 u7 u10 u11 u12 u13 u14 u15 u16 u17 u18 u19 u20 u21 u22 u23 u24 u25 u26 u27 u28 u29 u30 u31 u32 u33 u34 u35 u36 u37 u38 u39 u40 u41 u42 u43 u44 u45 u46 u47 u48 u49 u53 u54 u55 u56 u57 u58 u59 u60 u61 u62 u63 u64 u65 u66 u67 u68 u69 u70 u71 u72 u73 u74 u75 u76 : Value, (k ≤ n ∧ ∃ (o : List Int) (q : List Nat), Inner h t o q (dn ++ [i]) i k ∧ RowI w' g o ∧ ChAt w' c n q ∧ Below w.heap.size w w' ∧ m = n - k) ∧ act = ⟨#[.slice (some ⟨b, off, none⟩) n cap, .int .i64 (t : Int), u2, u3, .slice none 0 0, .int .i64 0, .slice (some ⟨g, 0, none⟩) n n, u7, .chan (some c), .int .i64 (i : Int), u10, u11, u12, u13, u14, u15, u16, u17, u18, u19, u20, u21, u22, u23, u24, u25, u26, u27, u28, u29, u30, u31, u32, u33, u34, u35, u36, u37, u38, u39, u40, u41, u42, u43, u44, u45, u46, u47, u48, u49, .slice (some ⟨rb, roff, none⟩) n rc, .int .i64 (n : Int), .int .i64 (k : Int), u53, u54, u55, u56, u57, u58, u59, u60, u61, u62, u63, u64, u65, u66, u67, u68, u69, u70, u71, u72, u73, u74, u75, u76], []⟩) n ?h0b ?roundb
          case h0b =>
            refine ⟨0, ?_⟩
            (repeat apply Exists.intro)
            refine ⟨⟨Nat.zero_le _, o, qq, II.out, R, C, BB, rfl⟩, rfl⟩
          case roundb =>
            clear R C BB
            intro m2 act2 wz hI K5 hK5
            obtain ⟨k, hI⟩ := hI
            obtain ⟨u2, hI⟩ := hI
            obtain ⟨u3, hI⟩ := hI
            obtain ⟨u7, hI⟩ := hI
            obtain ⟨u10, hI⟩ := hI
            obtain ⟨u11, hI⟩ := hI
            obtain ⟨u12, hI⟩ := hI
            obtain ⟨u13, hI⟩ := hI
            obtain ⟨u14, hI⟩ := hI
            obtain ⟨u15, hI⟩ := hI
            obtain ⟨u16, hI⟩ := hI
            obtain ⟨u17, hI⟩ := hI
            obtain ⟨u18, hI⟩ := hI
            obtain ⟨u19, hI⟩ := hI
            obtain ⟨u20, hI⟩ := hI
            obtain ⟨u21, hI⟩ := hI
            obtain ⟨u22, hI⟩ := hI
            obtain ⟨u23, hI⟩ := hI
            obtain ⟨u24, hI⟩ := hI
            obtain ⟨u25, hI⟩ := hI
            obtain ⟨u26, hI⟩ := hI
            obtain ⟨u27, hI⟩ := hI
            obtain ⟨u28, hI⟩ := hI
            obtain ⟨u29, hI⟩ := hI
            obtain ⟨u30, hI⟩ := hI
            obtain ⟨u31, hI⟩ := hI
            obtain ⟨u32, hI⟩ := hI
            obtain ⟨u33, hI⟩ := hI
            obtain ⟨u34, hI⟩ := hI
            obtain ⟨u35, hI⟩ := hI
            obtain ⟨u36, hI⟩ := hI
            obtain ⟨u37, hI⟩ := hI
            obtain ⟨u38, hI⟩ := hI
            obtain ⟨u39, hI⟩ := hI
            obtain ⟨u40, hI⟩ := hI
            obtain ⟨u41, hI⟩ := hI
            obtain ⟨u42, hI⟩ := hI
            obtain ⟨u43, hI⟩ := hI
            obtain ⟨u44, hI⟩ := hI
            obtain ⟨u45, hI⟩ := hI
            obtain ⟨u46, hI⟩ := hI
            obtain ⟨u47, hI⟩ := hI
            obtain ⟨u48, hI⟩ := hI
            obtain ⟨u49, hI⟩ := hI
            obtain ⟨u53, hI⟩ := hI
            obtain ⟨u54, hI⟩ := hI
            obtain ⟨u55, hI⟩ := hI
            obtain ⟨u56, hI⟩ := hI
            obtain ⟨u57, hI⟩ := hI
            obtain ⟨u58, hI⟩ := hI
            obtain ⟨u59, hI⟩ := hI
            obtain ⟨u60, hI⟩ := hI
            obtain ⟨u61, hI⟩ := hI
            obtain ⟨u62, hI⟩ := hI
            obtain ⟨u63, hI⟩ := hI
            obtain ⟨u64, hI⟩ := hI
            obtain ⟨u65, hI⟩ := hI
            obtain ⟨u66, hI⟩ := hI
            obtain ⟨u67, hI⟩ := hI
            obtain ⟨u68, hI⟩ := hI
            obtain ⟨u69, hI⟩ := hI
            obtain ⟨u70, hI⟩ := hI
            obtain ⟨u71, hI⟩ := hI
            obtain ⟨u72, hI⟩ := hI
            obtain ⟨u73, hI⟩ := hI
            obtain ⟨u74, hI⟩ := hI
            obtain ⟨u75, hI⟩ := hI
            obtain ⟨u76, hI⟩ := hI
            obtain ⟨⟨hkn, o2, q2, hI2, R, C, BB, hm8⟩, ha⟩ := hI
            subst ha
            have HK5 := Lib.hid hK5; clear hK5
            have HI := Lib.hid hI2; have HM8 := Lib.hid hm8
            clear hI2 hm8
            by_cases hlt : k < n
            · have hlt1 : (k : Int) < (n : Int) := by omega
              have hk0 : (0 : Int) ≤ (k : Int) := by omega
              have hln : o2.length = n := by rw [HI.out.len, HN.out]
              have d2 := keep1 BB (E3.out k (by rw [HRL.out]; exact hlt))
              have ck := R.at (j := k) (by rw [hln]; exact hlt)
              have ci := R.at (j := i) (by rw [hln]; exact hin)
              have fk := R.2.1 k
              have hxi0 := HI.out.rng i (by rw [← HN.out]; exact hin)
              have hxi1 : at' o2 i ≤ 60 := by have := HI.out.val i (by rw [← HN.out]; exact hin); simp at this; omega
              obtain ⟨xi, hxi⟩ : ∃ xi, at' o2 i = xi := ⟨_, rfl⟩
              obtain ⟨xk, hxk⟩ : ∃ xk, at' o2 k = xk := ⟨_, rfl⟩
              obtain ⟨u, hu⟩ : ∃ u, hb h i k = u := ⟨_, rfl⟩
              rw [hxi] at ci hxi0 hxi1
              rw [hxk] at ck
              have d2' : wz.cell? ⟨rb, roff + k, none⟩ = some (.bool (hb h i k)) := d2
              rw [hu] at d2'
              clear d2
              have HXI := Lib.hid hxi; have HXK := Lib.hid hxk; have HU := Lib.hid hu; have HLN := Lib.hid hln
              clear hxi hxk hu hln
              refine wpN_seq fun K hK => ?_
              refine wpN_of_wp ?_
              go_wp2_with fail
              refine wpN_seq fun K hK => ?_
              refine wpN_of_wp ?_
              go_wp2_with fail
              refine wpN_seq fun K7 hK7 => ?_
              refine wpN_block ?_
              refine wpN_seq fun K hK => ?_
              refine wpN_of_wp ?_
              go_wp2_with fail
              cases u
              case false =>
                refine wpN_seq fun K hK => ?_
                refine wpN_of_wp ?_
                go_wp2_with fail
                refine wpN_of_wp ?_
                go_wp2_with fail
                refine wpN_of_wp ?_
                go_wp2_with fail
                rw [show (k : Int) + 1 = ((k + 1 : Nat) : Int) from rfl]
                refine HK5.out (n - (k + 1)) _ _ (by have := HM8.out; omega) ?_
                refine ⟨k + 1, ?_⟩
                (repeat apply Exists.intro)
                refine ⟨⟨by omega, o2, q2, inner_skip HI.out (.inl HU.out), R, C, BB, rfl⟩, rfl⟩
              case true =>
                by_cases hneg : xk < 0
                case neg =>
                  refine wpN_seq fun K hK => ?_
                  refine wpN_of_wp ?_
                  go_wp2_with fail
                  refine wpN_of_wp ?_
                  go_wp2_with fail
                  refine wpN_of_wp ?_
                  go_wp2_with fail
                  rw [show (k : Int) + 1 = ((k + 1 : Nat) : Int) from rfl]
                  refine HK5.out (n - (k + 1)) _ _ (by have := HM8.out; omega) ?_
                  refine ⟨k + 1, ?_⟩
                  (repeat apply Exists.intro)
                  refine ⟨⟨by omega, o2, q2, inner_skip HI.out (.inr (by rw [HXK.out]; omega)), R, C, BB, rfl⟩, rfl⟩
                case pos =>
                  refine wpN_seq fun K hK => ?_
                  refine wpN_of_wp ?_
                  go_wp2_with fail
                  refine wpN_cond (t := true) rfl ?_
                  simp only [if_true]
                  refine wpN_seq fun K hK => ?_
                  refine wpN_of_wp ?_
                  go_wp2_with fail
                  have hroom := inner_room HI.out (k := k) (by rw [← HN.out]; exact hlt) (by rw [HXK.out]; exact hneg)
                  rw [← HN.out] at hroom
                  have INX := Lib.hid (inner_take HVD.out HI.out (k := k) (by rw [← HN.out]; exact hlt) HU.out (by rw [HXK.out]; exact hneg))
                  replace R := R.set (j := k) (by rw [HLN.out]; exact hlt) (xi + 1)
                  replace BB := BB.setCell (p := ⟨g, k, none⟩) hg (.int .i64 (xi + 1))
                  replace C := C.set (p := ⟨g, k, none⟩) hgc (.int .i64 (xi + 1))
                  obtain ⟨V6, hV6⟩ : ∃ V6, wz.setCell ⟨g, k, none⟩ (.int .i64 (xi + 1)) = V6 := ⟨_, rfl⟩
                  rw [hV6] at R BB C ⊢
                  clear hV6 ck ci fk d2'
                  refine wpN_region ?_
                  show opsN _ _ _ [0, 1, 2] _ _
                  refine opsN_value (v := .chan (some c)) (w' := V6) rfl rfl rfl ?_
                  refine opsN_value (v := .int .i64 (k : Int)) (w' := V6) rfl rfl rfl ?_
                  obtain ⟨s1, r1, hC⟩ := C
                  refine opsN_send (c := c) (v := .int .i64 (k : Int)) (z := .tuple #[]) rfl rfl rfl hC (by simp; omega) ?_
                  refine opsN_nil ?_
                  simp only [Act.put, List.setIfInBounds_toArray, List.set_cons_succ, List.set_cons_zero]
                  simp only [Exit.inBlock, Exit.then]
                  refine hK7 _ _ ?_
                  have C := ChAt.push (q := q2) hC k
                  replace R := R.setChan (cap := n) (s := s1 + 1) (r := r1) (buf := (qv q2).push (.int .i64 (k : Int))) (cl := false) (tm := false) hgc
                  replace BB := Go.Conc.below_setChan BB hwc n ((qv q2).push (.int .i64 (k : Int))) false (s1 + 1) r1 false
                  obtain ⟨V7, hV7⟩ : ∃ V7, V7 = V6.setChan c n ((qv q2).push (.int .i64 (k : Int))) false (s1 + 1) r1 false := ⟨_, rfl⟩
                  rw [← hV7] at C R BB ⊢
                  clear hV7 hC
                  refine wpN_of_wp ?_
                  go_wp2_with fail
                  rw [show (k : Int) + 1 = ((k + 1 : Nat) : Int) from rfl]
                  refine HK5.out (n - (k + 1)) _ _ (by have := HM8.out; omega) ?_
                  refine ⟨k + 1, ?_⟩
                  (repeat apply Exists.intro)
                  refine ⟨⟨by omega, (o2.set k (xi + 1)), (q2 ++ [k]), by rw [← HXI.out]; exact INX.out, R, C, BB, rfl⟩, rfl⟩
            · have hke : n = k := by omega
              have hlt1 : ¬ (k : Int) < (n : Int) := by omega
              have HKE := Lib.hid hke; clear hke
              refine wpN_seq fun K hK => ?_
              refine wpN_of_wp ?_
              go_wp2_with fail
              refine wpN_seq fun K6 hK6 => ?_
              refine wpN_of_wp ?_
              go_wp2_with fail
              refine HK.out (n - (dn ++ [i]).length) _ _ (by have := HM9.out; simp; omega) ?_
              (repeat apply Exists.intro)
              refine ⟨⟨o2, q2, dn ++ [i], inner_end HI.out (by have := HKE.out; rw [← HN.out]; omega), R, C, BB, rfl⟩, rfl⟩
end Go.Proofs.Ytkomgjkeikaigaa
