/- Proved: what a visit of graph.Islands does, and what graph.Islands returns. Conditions: the table lies in memory. -/
import Derived.Test.YtkomgjkeikaigaaG9
import Derived.Laws.EntriesVeiled
namespace Go.Proofs.Ytkomgjkeikaigaa
open Go.RowKit Go.Sort Go.BigFrame
set_option linter.unusedVariables false
set_option linter.unusedSimpArgs false
attribute [local go_sem] cell_alloc_old

/-- What a visit finds and leaves: the numbers in their row, and the three captured variables. -/
structure Vis (w0 : World) (a : Option Addr) (n cap g ko kh kv : Nat) (o : List Int) (w : World) : Prop where
  row : RowI w g o
  below : Below w0.heap.size w0 w
  out : w.cell? ⟨ko, 0, none⟩ = some (.slice (some ⟨g, 0, none⟩) n n)
  tab : w.cell? ⟨kh, 0, none⟩ = some (.slice a n cap)
  fn : w.cell? ⟨kv, 0, none⟩ = some (.func (.func 29) #[] #[.pointer (some ⟨ko, 0, none⟩), .pointer (some ⟨kh, 0, none⟩), .pointer (some ⟨kv, 0, none⟩)])
theorem cell_other {w : World} {g k i : Nat} {v u : Value} (h : w.cell? ⟨k, 0, none⟩ = some u) (hk : g ≠ k) : (w.setCell ⟨g, i, none⟩ v).cell? ⟨k, 0, none⟩ = some u := by
  rw [World.cell?_setCell_other _ _ _ _ (fun e => hk (congrArg Addr.block e))]; exact h
theorem Vis.set {w0 w : World} {a : Option Addr} {n cap g ko kh kv : Nat} {o : List Int} (V : Vis w0 a n cap g ko kh kv o w) (h1 : w0.heap.size ≤ g) (h2 : g ≠ ko) (h3 : g ≠ kh) (h4 : g ≠ kv) {i : Nat} (hi : i < o.length) (x : Int) :
    Vis w0 a n cap g ko kh kv (o.set i x) (w.setCell ⟨g, i, none⟩ (.int .i64 x)) :=
  ⟨V.row.set hi x, V.below.setCell (p := ⟨g, i, none⟩) h1 _, cell_other V.out h2, cell_other V.tab h3, cell_other V.fn h4⟩
def VisPost (w0 : World) (h : Tab) (a : Option Addr) (n cap g ko kh kv i : Nat) (num : Int) (o : List Int) (e : Ending) (w' : World) : Prop :=
  e = .returned (.tuple #[]) ∧ ∃ o', Dfs h i num o o' ∧ Vis w0 a n cap g ko kh kv o' w'

set_option maxRecDepth 100000 in
set_option maxHeartbeats 4000000 in
theorem visit_any (w0 : World) (h : Tab) (a : Option Addr) (n cap g ko kh kv : Nat) (hn : n = h.length) (hl : TabAt w0 a h) (h60 : n ≤ 60) (hv : Valid h) (h1 : w0.heap.size ≤ g) (h2 : g ≠ ko) (h3 : g ≠ kh) (h4 : g ≠ kv) (num : Int) (hnum : 0 ≤ num) :
    ∀ (m : Nat) (i : Nat) (o : List Int) (w : World) (S : List Nat), S.Nodup → (∀ x ∈ S, x < n ∧ 0 ≤ at' o x) → n ≤ S.length + m → o.length = n → (∀ j, j < n → -1 ≤ at' o j) → i < n → at' o i < 0 → Vis w0 a n cap g ko kh kv o w →
      Calls Try.prog 29 #[.int .i64 (i : Int), .int .i64 num, .pointer (some ⟨ko, 0, none⟩), .pointer (some ⟨kh, 0, none⟩), .pointer (some ⟨kv, 0, none⟩)] w (VisPost w0 h a n cap g ko kh kv i num o) := by
  have HN := Lib.hid hn; have HVD := Lib.hid hv; clear hn hv
  intro m
  induction m with
  | zero =>
    intro i o w S hS hSn hm hlo hrg hi hu V
    exfalso
    have := nodup_len (n := n) (S := i :: S) (List.nodup_cons.2 ⟨fun hx => by have := (hSn i hx).2; omega, hS⟩) (fun x hx => by rcases List.mem_cons.1 hx with rfl | hx; exact hi; exact (hSn x hx).1)
    simp at this; omega
  | succ m ih =>
    intro i o w S hS hSn hm hlo hrg hi hu V
    have IH := Lib.hid ih; have HSN := Lib.hid hSn; have HS := Lib.hid hS; have HRG := Lib.hid hrg; have HLO := Lib.hid hlo; have HU := Lib.hid hu; have HM := Lib.hid hm
    clear ih hSn hS hrg hm hu
    have hi' : (i : Int) < (n : Int) := by omega
    have hi0 : (0 : Int) ≤ (i : Int) := by omega
    have c1 := V.out
    have c2 := V.tab
    have ci := V.row.at (j := i) (by rw [hlo]; exact hi)
    have fi := V.row.2.1 i
    have c2' := (V.set h1 h2 h3 h4 (i := i) (by rw [hlo]; exact hi) num).tab
    obtain ⟨b, off, rfl, hT⟩ := tab_at hl (i := i) (by rw [← HN.out]; exact hi)
    obtain ⟨ra, rc, e1, e2, _⟩ := hT i (by rw [← HN.out]; exact hi)
    have hrl : (h.getD i []).length = n := by rw [HVD.out.2.1 i (by rw [← HN.out]; exact hi), HN.out]
    obtain ⟨rb, roff, rfl, e3⟩ := bools_at e2 (i := i) (by rw [hrl]; exact hi)
    rw [hrl] at e1
    have V1 := V.set h1 h2 h3 h4 (i := i) (by rw [hlo]; exact hi) num
    have d1 := keep1 V1.below e1
    have E3 := Lib.hid e3; have HRL := Lib.hid hrl
    have M0 := mid_start (h := h) (i := i) (num := num) (o := o) (by rw [hlo, HN.out]) (fun j hj => HRG.out j (by rw [HN.out]; exact hj)) (by rw [← HN.out]; exact hi) hnum HU.out
    have MM := Lib.hid M0
    clear hT e1 e2 e3 hrl M0 hlo
    go_enter Try.func29, Try.ntmps29
    go_wp2_with fail
    obtain ⟨W1, hW1⟩ : ∃ W1, w.setCell ⟨g, i, none⟩ (.int .i64 num) = W1 := ⟨_, rfl⟩
    rw [hW1] at V1 ⊢
    clear hW1 c1 c2 ci fi c2' d1
    go_loopw [18] (fun k wz => ∃ k' : Nat, k' ≤ n ∧ k = .int .i64 k' ∧ ∃ o', Mid h i num o o' k' ∧ Vis w0 (some ⟨b, off, none⟩) n cap g ko kh kv o' wz) (fun k _ => n - (intOf k).toNat)
    case atStart => exact ⟨0, Nat.zero_le _, rfl, _, MM.out, V1⟩
    case round =>
      clear V1 V
      obtain ⟨k, hkn, rfl, o', hM, V⟩ := hrel
      have HMI := Lib.hid hM; clear hM
      by_cases hlt : k < n
      · have hlt' : (k : Int) < (n : Int) := by omega
        have hk0 : (0 : Int) ≤ (k : Int) := by omega
        have hlo : o'.length = n := by rw [HMI.out.len, HN.out]
        have d2 := keep1 V.below (E3.out k (by rw [HRL.out]; exact hlt))
        have d2' : wr.cell? ⟨rb, roff + k, none⟩ = some (.bool (hb h i k)) := d2
        have c1 := V.out
        have c3 := V.fn
        have ck := V.row.at (j := k) (by rw [hlo]; exact hlt)
        obtain ⟨x, hx⟩ : ∃ x, at' o' k = x := ⟨_, rfl⟩
        obtain ⟨u, hu⟩ : ∃ u, hb h i k = u := ⟨_, rfl⟩
        rw [hx] at ck; rw [hu] at d2'
        have HX := Lib.hid hx; have HU2 := Lib.hid hu; have HL2 := Lib.hid hlo
        clear hx hu d2 hlo
        cases u
        · go_wp2_with fail
          go_roundw
          case rel => exact ⟨k + 1, by omega, by go_num, o', mid_skip HMI.out (.inl HU2.out), V⟩
          case measure => simp [intOf]; omega
        · by_cases hneg : x < 0
          · go_wp2_with fail
            refine (IH.out k o' wr (i :: S) (List.nodup_cons.2 ⟨fun hx => by have := (HSN.out i hx).2; have := HU.out; omega, HS.out⟩) (fun y hy => ?_) (by have := HM.out; simp; omega) HL2.out (fun j hj => HMI.out.rng j (by rw [← HN.out]; exact hj)) hlt (by rw [HX.out]; exact hneg) V).mono ?_
            · rcases List.mem_cons.1 hy with rfl | hy
              · exact ⟨hi, by rw [HMI.out.self]; exact hnum⟩
              · exact ⟨(HSN.out y hy).1, by rw [HMI.out.old y (by rw [← HN.out]; exact (HSN.out y hy).1) (HSN.out y hy).2]; exact (HSN.out y hy).2⟩
            rintro e w1 ⟨rfl, o2, D, V2⟩
            have HD := Lib.hid D; clear D
            go_wp2_with fail
            go_roundw
            case rel => exact ⟨k + 1, by omega, by go_num, o2, mid_take hnum (by rw [← HN.out]; exact hi) (by rw [← HN.out]; exact hlt) HU2.out HMI.out HD.out, V2⟩
            case measure => simp [intOf]; omega
          · go_wp2_with fail
            go_roundw
            case rel => exact ⟨k + 1, by omega, by go_num, o', mid_skip HMI.out (.inr (by rw [HX.out]; omega)), V⟩
            case measure => simp [intOf]; omega
      · have hkn' : n = k := by omega
        have HK := Lib.hid hkn'
        have hlt' : ¬ (k : Int) < (n : Int) := by omega
        clear hkn' hlt
        go_wp2_with fail
        go_end0
        exact ⟨rfl, o', mid_end hnum (by rw [← HN.out, HK.out]; exact Nat.le_refl _) HMI.out, V⟩

set_option maxRecDepth 100000 in
set_option maxHeartbeats 4000000 in
theorem isles_any (h : Tab) (n : Nat) (a : Option Addr) (cap : Nat) (w : World) (hn : n = h.length) (hl : TabAt w a h) (hm : n ≤ maxLen) : Calls Try.prog 14 #[.slice a n cap] w (IslePost h w) := by
  have hm' := hm
  unfold maxLen at hm
  have HN := Lib.hid hn; clear hn
  cases hv : validB h
  · have HV := Lib.hid hv; clear hv
    go_enter Try.func14, Try.ntmps14
    go_wp2_with fail
    refine (isvalid_at h n a cap false _ HN.out (hl.keep (ball (Below.refl _ _) _)) hm' HV.out).mono ?_
    rintro e w1 ⟨rfl, b1⟩
    go_wp2_with fail
    go_ret2
    exact isle_err (bstep (ball (Below.refl _ _) _) b1) HV.out
  have hV := valid_of hv
  have HV := Lib.hid hv; have HVD := Lib.hid hV
  have h60 : n ≤ 60 := by rw [HN.out]; exact hV.1
  clear hv hV
  have hmk := make_ints n h60
  go_enter Try.func14, Try.ntmps14
  go_wp2_with fail
  have Th := CAt.new w [.slice a n cap] 22
  have BB : Below w.heap.size w (w.alloc (.cells #[.slice a n cap] 22)) := ball (Below.refl _ _) _
  obtain ⟨V0, hV0⟩ : ∃ V0, w.alloc (.cells #[.slice a n cap] 22) = V0 := ⟨_, rfl⟩
  rw [hV0] at Th BB ⊢
  clear hV0
  refine (isvalid_at h n a cap true _ HN.out (hl.keep BB) hm' HV.out).mono ?_
  rintro e w1 ⟨rfl, b1⟩
  replace Th := Th.keep b1
  replace BB := bstep BB b1
  clear b1
  have th0 := Th 0 _ rfl
  go_upto_region 4 with (fail)
  have hkg : w.heap.size < w1.heap.size := World.block_lt_of_cell? w1 ⟨w.heap.size, 0, none⟩ th0
  have R := (RowI.new w1 n).keep (Below.alloc (Below.refl _ _) (Nat.le_refl _) (.cells #[.slice (some ⟨w1.heap.size, 0, none⟩) n n] 23))
  have To := CAt.new (w1.alloc (.cells (Array.replicate n (.int .i64 0)) 3)) [.slice (some ⟨w1.heap.size, 0, none⟩) n n] 23
  replace BB := ball (ball BB (.cells (Array.replicate n (.int .i64 0)) 3)) (.cells #[.slice (some ⟨w1.heap.size, 0, none⟩) n n] 23)
  replace Th := (Th.alloc (.cells (Array.replicate n (.int .i64 0)) 3)).alloc (.cells #[.slice (some ⟨w1.heap.size, 0, none⟩) n n] 23)
  simp only [World.size_alloc] at To
  obtain ⟨V2, hV2⟩ : ∃ V2, (w1.alloc (.cells (Array.replicate n (.int .i64 0)) 3)).alloc (.cells #[.slice (some ⟨w1.heap.size, 0, none⟩) n n] 23) = V2 := ⟨_, rfl⟩
  obtain ⟨g, hg⟩ : ∃ g, w1.heap.size = g := ⟨_, rfl⟩
  have e2 : List.toArray [Value.slice (some ⟨w1.heap.size, 0, none⟩) n n] = #[.slice (some ⟨w1.heap.size, 0, none⟩) n n] := rfl
  rw [e2, hV2] at To
  rw [hV2] at R BB Th ⊢
  rw [hg] at R To hkg ⊢
  clear hV2 hg hmk e2 th0
  have to0 := To 0 _ rfl
  have th0 := Th 0 _ rfl
  have hgo : g ≠ g + 1 := by omega
  have hgh : g ≠ w.heap.size := by omega
  have hwg : w.heap.size ≤ g := by omega
  go_wp2_with fail
  go_loopw [16] (fun i wr => ∃ k : Nat, k ≤ n ∧ i = .int .i64 k ∧ RowI wr g (iTo n k) ∧ Below w.heap.size w wr ∧ wr.cell? ⟨g + 1, 0, none⟩ = some (.slice (some ⟨g, 0, none⟩) n n) ∧ wr.cell? ⟨w.heap.size, 0, none⟩ = some (.slice a n cap)) (fun i _ => n - (intOf i).toNat)
  case atStart => exact ⟨0, Nat.zero_le _, rfl, R, BB, to0, th0⟩
  case round =>
    clear R BB to0 th0 To Th
    obtain ⟨k, hk, rfl, R, BB, to0, th0⟩ := hrel
    by_cases hlt : k < n
    · have hlt' : (k : Int) < (n : Int) := by omega
      have hk0 : (0 : Int) ≤ (k : Int) := by omega
      have c := R.at (j := k) (by rw [iTo_len]; exact hlt)
      have f := R.2.1 k
      go_wp2_with fail
      go_roundw
      case rel => exact ⟨k + 1, by omega, by go_num, R.set (by rw [iTo_len]; exact hlt) (-1), BB.setCell (p := ⟨_, k, none⟩) hwg _, cell_other to0 hgo, cell_other th0 hgh⟩
      case measure => simp [intOf]; omega
    · have hkn : n = k := by omega
      have HKN := Lib.hid hkn
      have hlt' : ¬ (k : Int) < (n : Int) := by omega
      rw [← hkn, iTo_end] at R
      clear hkn hlt hk
      have nf1 := CAt.new wr [.nilFunc] 46 0 _ rfl
      have nf2 := (Fz.new wr #[.nilFunc] 46).1 0
      have gl := R.2.2
      have hln : (List.replicate n (-1 : Int)).length = n := by simp
      have C1 := CAt.new wr [.func (.func 29) #[] #[.pointer (some ⟨g + 1, 0, none⟩), .pointer (some ⟨w.heap.size, 0, none⟩), .pointer (some ⟨wr.heap.size, 0, none⟩)]] 46
      have R1 := R.keep (Below.alloc (Below.refl _ _) (Nat.le_refl _) (.cells #[.func (.func 29) #[] #[.pointer (some ⟨g + 1, 0, none⟩), .pointer (some ⟨w.heap.size, 0, none⟩), .pointer (some ⟨wr.heap.size, 0, none⟩)]] 46))
      have B1 := ball BB (.cells #[.func (.func 29) #[] #[.pointer (some ⟨g + 1, 0, none⟩), .pointer (some ⟨w.heap.size, 0, none⟩), .pointer (some ⟨wr.heap.size, 0, none⟩)]] 46)
      have to1 := old1 to0 (.cells #[.func (.func 29) #[] #[.pointer (some ⟨g + 1, 0, none⟩), .pointer (some ⟨w.heap.size, 0, none⟩), .pointer (some ⟨wr.heap.size, 0, none⟩)]] 46)
      have th1 := old1 th0 (.cells #[.func (.func 29) #[] #[.pointer (some ⟨g + 1, 0, none⟩), .pointer (some ⟨w.heap.size, 0, none⟩), .pointer (some ⟨wr.heap.size, 0, none⟩)]] 46)
      have klt := World.block_lt_of_cell? wr ⟨g + 1, 0, none⟩ to0
      simp only at klt
      have V : Vis w a n cap g (g + 1) w.heap.size wr.heap.size (List.replicate n (-1)) (wr.alloc (.cells #[.func (.func 29) #[] #[.pointer (some ⟨g + 1, 0, none⟩), .pointer (some ⟨w.heap.size, 0, none⟩), .pointer (some ⟨wr.heap.size, 0, none⟩)]] 46)) :=
        ⟨R1, B1, to1, th1, C1 0 _ rfl⟩
      go_upto_region 11 with (fail)
      obtain ⟨V3, hV3⟩ : ∃ V3, V3 = wr.alloc (.cells #[.func (.func 29) #[] #[.pointer (some ⟨g + 1, 0, none⟩), .pointer (some ⟨w.heap.size, 0, none⟩), .pointer (some ⟨wr.heap.size, 0, none⟩)]] 46) := ⟨_, rfl⟩
      rw [← hV3] at V ⊢
      obtain ⟨kv, hkv⟩ : ∃ kv, wr.heap.size = kv := ⟨_, rfl⟩
      rw [hkv] at V gl ⊢
      have hgv : g ≠ kv := by omega
      clear hV3 nf1 nf2 C1 R1 B1 to1 th1 to0 th0 R BB hkv klt
      have tz0 := V.out
      have I0 := isl_start h
      rw [← HN.out] at I0
      have IS := Lib.hid I0; clear I0
      go_wp2_with fail
      go_loopw [26] (fun i wz => ∃ k : Nat, k ≤ n ∧ i = .int .i64 k ∧ ∃ o, Isl h o k ∧ Vis w a n cap g (g + 1) w.heap.size kv o wz) (fun i _ => n - (intOf i).toNat)
      case atStart => exact ⟨0, Nat.zero_le _, rfl, _, IS.out, V⟩
      case round =>
        clear V tz0
        obtain ⟨i, hin, rfl, o, hI, V⟩ := hrel
        have HI := Lib.hid hI; clear hI
        have tz0 := V.out
        by_cases hi : i < n
        · have hi' : (i : Int) < (n : Int) := by omega
          have hi0 : (0 : Int) ≤ (i : Int) := by omega
          have hlo : o.length = n := by rw [HI.out.len, HN.out]
          have ci := V.row.at (j := i) (by rw [hlo]; exact hi)
          have fv := V.fn
          obtain ⟨x, hx⟩ : ∃ x, at' o i = x := ⟨_, rfl⟩
          rw [hx] at ci
          have HX := Lib.hid hx; have HLO := Lib.hid hlo; clear hx hlo
          by_cases hneg : x < 0
          · go_wp2_with fail
            refine (visit_any w h a n cap g (g + 1) w.heap.size kv HN.out hl h60 HVD.out hwg hgo hgh hgv i (by omega) n i o wr [] List.nodup_nil (fun x hx => by cases hx) (by simp) HLO.out (fun j hj => (HI.out.rng j (by rw [← HN.out]; exact hj)).1) hi (by rw [HX.out]; exact hneg) V).mono ?_
            rintro e w3 ⟨rfl, o2, D, V2⟩
            have HD := Lib.hid D; clear D
            go_wp2_with fail
            go_roundw
            case rel => exact ⟨i + 1, by omega, by go_num, o2, isl_take HVD.out HI.out (by rw [← HN.out]; exact hi) HD.out, V2⟩
            case measure => simp [intOf]; omega
          · go_wp2_with fail
            go_roundw
            case rel => exact ⟨i + 1, by omega, by go_num, o, isl_skip HI.out (by rw [HX.out]; omega), V⟩
            case measure => simp [intOf]; omega
        · have hlt2 : ¬ (i : Int) < (n : Int) := by omega
          have I := isl_done HVD.out HI.out (by rw [← HN.out]; omega)
          have hdep := isle_eq HVD.out I
          have HDEP := Lib.hid hdep
          have HLN := Lib.hid (show o.length = n by rw [I.len, HN.out])
          clear hdep I
          go_wp2_with fail
          go_ret2
          refine ⟨fun _ => ?_, fun hh => (by rw [HV.out] at hh; cases hh)⟩
          rw [HDEP.out]
          exact ⟨some ⟨g, 0, none⟩, n, by rw [HLN.out]; rfl, V.row.ints, by rw [HLN.out]; exact Nat.le_refl _, hm', V.below⟩
end Go.Proofs.Ytkomgjkeikaigaa
