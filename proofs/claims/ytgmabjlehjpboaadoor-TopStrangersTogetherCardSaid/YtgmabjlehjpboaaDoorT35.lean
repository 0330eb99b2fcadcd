/- Proved: strangers together: plain facts and facts on memory. Conditions: those that each theorem names. -/
import Derived.Test.YtgmabjlehjpboaaDoorT34
import Derived.Test.YtgmabjlehjpboaaDoorT30
import Derived.Test.YtgmabjlehjpboaaDoorT32
namespace Go.Proofs.YtgmabjlehjpboaaDoor
open Go.RowKit Go.Sort Go.BigFrame Go.Proofs.YtgmabjlehjpboaaDoor.K
set_option linter.unusedVariables false
set_option linter.unusedSimpArgs false
attribute [local go_sem] cell_alloc_old

open Go.Maps Go.Shelf
theorem srt_len : ∀ (l : List Hf) (a : Int) (n : Nat), Srt l → (∀ h ∈ l, a ≤ h.s ∧ h.s < a + n) → l.length ≤ n
  | [], _, _, _, _ => Nat.zero_le _
  | y :: r, a, n, hs, hr => by
    obtain ⟨h1, h2⟩ := List.pairwise_cons.1 hs
    have hy := hr y List.mem_cons_self
    have := srt_len r (y.s + 1) ((a + n - (y.s + 1)).toNat) h2 fun h hh => by
      have := h1 h hh
      have := hr h (List.mem_cons_of_mem _ hh)
      omega
    simp only [List.length_cons]
    omega
/-- The state of a stranger by what it has done. -/
def jOf (me nn : Int) (d : Int) : Jn := if d ≤ 0 then ⟨0, -1, 0, 0, 0⟩ else if d = 1 then ⟨1, me, nn, 1, 1⟩ else if d = 2 then ⟨2, me, nn, 1, 1⟩ else ⟨3, me, nn, 1, 1⟩
theorem jOf_in (me nn d : Int) : ((jOf me nn d).ph == 3) = decide (3 ≤ d) := by
  unfold jOf
  split
  · simp only; rw [decide_eq_false (by omega)]; rfl
  · split
    · simp only; rw [decide_eq_false (by omega)]; rfl
    · split
      · simp only; rw [decide_eq_false (by omega)]; rfl
      · simp only; rw [decide_eq_true (by omega)]; rfl
/-- The list of half-open joins by what has been done. -/
structure TgI (n : Nat) (nn : Int) (t : Nat) (dn : List Int) (L : List Hf) : Prop where
  len : dn.length = n
  ok : OkL L
  rng : ∀ h ∈ L, 50 ≤ h.s ∧ h.s < 50 + n
  bd : ∀ i, i < n → 0 ≤ dn.getD i 0 ∧ dn.getD i 0 ≤ t
  st0 : ∀ i, i < n → dn.getD i 0 = 0 → findL L (50 + i) = none
  st1 : ∀ i, i < n → dn.getD i 0 = 1 → ∃ ch, findL L (50 + i) = some ⟨50 + i, nn, ch, 13, false, 0⟩
  st2 : ∀ i, i < n → dn.getD i 0 = 2 → ∃ ch, findL L (50 + i) = some ⟨50 + i, nn, ch, 13, true, 1000000 + (50 + i)⟩
theorem getD_set {dn : List Int} {i j : Nat} {v : Int} (hi : i < dn.length) : (dn.set i v).getD j 0 = if j = i then v else dn.getD j 0 := by
  by_cases e : j = i
  · subst e; rw [if_pos rfl, List.getD_eq_getElem?_getD, List.getElem?_set_self hi]; rfl
  · rw [if_neg e, List.getD_eq_getElem?_getD, List.getElem?_set_ne (fun h => e h.symm), ← List.getD_eq_getElem?_getD]
section
variable {n : Nat} {nn : Int} {t : Nat} {dn : List Int} {L : List Hf} {i : Nat}
theorem TgI.start (n : Nat) (nn : Int) : TgI n nn 0 (List.replicate n 0) [] where
  len := by simp
  ok := OkL.nil
  rng := fun h hh => by simp at hh
  bd := fun i hi => by simp [List.getD_eq_getElem?_getD, hi]
  st0 := fun i hi _ => rfl
  st1 := fun i hi h => by simp [List.getD_eq_getElem?_getD, hi] at h
  st2 := fun i hi h => by simp [List.getD_eq_getElem?_getD, hi] at h
theorem TgI.small (h : TgI n nn t dn L) : L.length ≤ n := srt_len L 50 n h.ok.srt h.rng
theorem TgI.room (h : TgI n nn t dn L) (hi : i < n) (h0 : dn.getD i 0 = 0) : L.length < n := by
  have hp := srt_len (putL L ⟨50 + i, 0, 0, 0, false, 0⟩) 50 n (srt_put h.ok.srt) fun x hx => by
    rcases mem_put.1 hx with rfl | ⟨h1, _⟩
    · simp only; omega
    · exact h.rng x h1
  rw [len_put_none (h.st0 i hi h0)] at hp
  omega
/-- Nothing on the list, one more step done. -/
theorem TgI.more (h : TgI n nn t dn L) (hi : i < n) (h2 : 2 ≤ dn.getD i 0) : TgI n nn (t + 1) (dn.set i (dn.getD i 0 + 1)) L where
  len := by simp [h.len]
  ok := h.ok
  rng := h.rng
  bd := fun j hj => by
    rw [getD_set (by rw [h.len]; exact hi)]
    have := h.bd i hi; have := h.bd j hj
    split <;> omega
  st0 := fun j hj e => by
    rw [getD_set (by rw [h.len]; exact hi)] at e
    split at e
    · omega
    · exact h.st0 j hj e
  st1 := fun j hj e => by
    rw [getD_set (by rw [h.len]; exact hi)] at e
    split at e
    · omega
    · exact h.st1 j hj e
  st2 := fun j hj e => by
    rw [getD_set (by rw [h.len]; exact hi)] at e
    split at e
    · omega
    · exact h.st2 j hj e
theorem TgI.asks (h : TgI n nn t dn L) (hi : i < n) (h0 : dn.getD i 0 = 0) {ch : Int} {M : List Hf} (hM : M = putL L ⟨50 + i, nn, ch, 13, false, 0⟩) (ok : OkL M) : TgI n nn (t + 1) (dn.set i (dn.getD i 0 + 1)) M where
  len := by simp [h.len]
  ok := ok
  rng := fun x hx => by
    rw [hM] at hx
    rcases mem_put.1 hx with rfl | ⟨h1, _⟩
    · simp only; omega
    · exact h.rng x h1
  bd := fun j hj => by
    rw [getD_set (by rw [h.len]; exact hi)]
    have := h.bd i hi; have := h.bd j hj
    split <;> omega
  st0 := fun j hj e => by
    rw [getD_set (by rw [h.len]; exact hi)] at e
    split at e
    · omega
    · rename_i hji
      rw [hM, find_put _ _ h.ok.srt, if_neg (by simp only; omega)]; exact h.st0 j hj e
  st1 := fun j hj e => by
    rw [getD_set (by rw [h.len]; exact hi)] at e
    rw [hM, find_put _ _ h.ok.srt]
    split at e
    · rename_i hji
      subst hji
      exact ⟨ch, by rw [if_pos rfl]⟩
    · rename_i hji
      rw [if_neg (by simp only; omega)]; exact h.st1 j hj e
  st2 := fun j hj e => by
    rw [getD_set (by rw [h.len]; exact hi)] at e
    rw [hM, find_put _ _ h.ok.srt]
    split at e
    · omega
    · rename_i hji
      rw [if_neg (by simp only; omega)]; exact h.st2 j hj e
theorem TgI.proves (h : TgI n nn t dn L) (hi : i < n) (h0 : dn.getD i 0 = 1) {ch : Int} (hf : findL L (50 + i) = some ⟨50 + i, nn, ch, 13, false, 0⟩) {M : List Hf} (hM : M = putL L ⟨50 + i, nn, ch, 13, true, 1000000 + (50 + i)⟩) : TgI n nn (t + 1) (dn.set i (dn.getD i 0 + 1)) M where
  len := by simp [h.len]
  ok := by
    rw [hM]
    have ho := h.ok.ok _ (find_some hf).1
    refine h.ok.put ⟨ho.s, ho.n, ho.c, ho.u, ?_, fun e => by cases e⟩ (.inl (by simp [hf]))
    have := (find_some hf).1
    have hs : 0 ≤ (50 + (i : Int)) ∧ (50 + (i : Int)) < 60 := by simpa [nodeB] using ho.s
    unfold inB; simp only [decide_eq_true_eq]; omega
  rng := fun x hx => by
    rw [hM] at hx
    rcases mem_put.1 hx with rfl | ⟨h1, _⟩
    · simp only; omega
    · exact h.rng x h1
  bd := fun j hj => by
    rw [getD_set (by rw [h.len]; exact hi)]
    have := h.bd i hi; have := h.bd j hj
    split <;> omega
  st0 := fun j hj e => by
    rw [getD_set (by rw [h.len]; exact hi)] at e
    split at e
    · omega
    · rename_i hji
      rw [hM, find_put _ _ h.ok.srt, if_neg (by simp only; omega)]; exact h.st0 j hj e
  st1 := fun j hj e => by
    rw [getD_set (by rw [h.len]; exact hi)] at e
    rw [hM, find_put _ _ h.ok.srt]
    split at e
    · omega
    · rename_i hji
      rw [if_neg (by simp only; omega)]; exact h.st1 j hj e
  st2 := fun j hj e => by
    rw [getD_set (by rw [h.len]; exact hi)] at e
    rw [hM, find_put _ _ h.ok.srt]
    split at e
    · rename_i hji
      subst hji
      exact ⟨ch, by rw [if_pos rfl]⟩
    · rename_i hji
      rw [if_neg (by simp only; omega)]; exact h.st2 j hj e
end
/-! ### the welcomes of a list -/
theorem idx_map {F : List Hf} {f : Hf → Wd} (hs : Srt F) (hfs : ∀ g ∈ F, (f g).s = g.s) {h : Hf} (hf : h ∈ F) : ∃ p, p < (F.map f).length ∧ (F.map f).getD p default = f h ∧ ∀ i, i < (F.map f).length → i ≠ p → ((F.map f).getD i default).s ≠ h.s := by
  obtain ⟨p, hpl, rfl⟩ := List.mem_iff_getElem.1 hf
  refine ⟨p, by simpa using hpl, by simp [List.getD_eq_getElem?_getD, hpl], fun i hi hne => ?_⟩
  rw [List.length_map] at hi
  rw [List.getD_eq_getElem?_getD, List.getElem?_map, List.getElem?_eq_getElem hi]
  show (f F[i]).s ≠ F[p].s
  rw [hfs _ (List.getElem_mem hi)]
  rcases Nat.lt_trichotomy i p with h | h | h
  · have := List.pairwise_iff_getElem.1 hs i p hi hpl h; omega
  · exact absurd h hne
  · have := List.pairwise_iff_getElem.1 hs p i hpl hi h; omega
theorem judge_formed {x : Wd} {a b : Int} (h : judgeE x a b = 0) : formedB (judgeV x a b) = true ∧ (judgeV x a b).s = x.s := by
  have hv : judgeV x a b = ⟨4, x.s, x.p, x.n, 0, x.key, a, b⟩ := by unfold judgeV; rw [if_pos h]
  rw [hv]
  refine ⟨?_, rfl⟩
  unfold judgeE at h
  split at h
  · rename_i hf
    unfold formedB at hf ⊢
    simp only [Bool.and_eq_true, decide_eq_true_eq] at hf ⊢
    obtain ⟨⟨⟨⟨⟨⟨h1, h2⟩, h3⟩, h4⟩, h5⟩, _⟩, _⟩ := hf
    refine ⟨⟨⟨⟨⟨⟨h1, h2⟩, h3⟩, ?_⟩, ?_⟩, by decide⟩, by decide⟩ <;> omega
  · cases h
theorem welc_form {L : List Hf} {me ra rb : Int} {i : Nat} (hi : i < (welcF (toldV L me 3 true) ra rb).length) : formedB ((welcF (toldV L me 3 true) ra rb).getD i default) = true := by
  have hm := getD_mem hi
  unfold welcF at hm
  obtain ⟨x, hx, e⟩ := List.mem_map.1 hm
  have := (List.mem_filter.1 hx).2
  have h0 : judgeE x ra rb = 0 := by simpa using this
  have h2 := (judge_formed h0).1
  rw [e] at h2
  exact h2
theorem welc_index {L : List Hf} {me ra rb id nn ch u : Int} (ok : OkL L) (hm : nodeB me = true) (hne : id ≠ me) (h0 : ¬ ra < 0) (h1 : ¬ rb ≤ ra) (h2 : ¬ 1000000000 < rb) (hf : findL L id = some ⟨id, nn, ch, u, true, 1000000 + id⟩) :
    ∃ p, p < (welcF (toldV L me 3 true) ra rb).length ∧ (welcF (toldV L me 3 true) ra rb).getD p default = ⟨4, id, me, nn, 0, 1000000 + id, ra, rb⟩ ∧ ∀ i, i < (welcF (toldV L me 3 true) ra rb).length → i ≠ p → ((welcF (toldV L me 3 true) ra rb).getD i default).s ≠ id := by
  obtain ⟨hl, hs⟩ := find_some hf
  have e1 : toldV L me 3 true = (L.filter (fun h => h.pr == true)).map (wordOf me 3) := by simp [toldV, hm]
  have e2 : welcF (toldV L me 3 true) ra rb = ((L.filter (fun h => h.pr == true)).filter (fun g => judgeE (wordOf me 3 g) ra rb == 0)).map (fun g => judgeV (wordOf me 3 g) ra rb) := by
    rw [e1]; unfold welcF; rw [List.filter_map, List.map_map]; rfl
  have hfo : formedB (wordOf me 3 ⟨id, nn, ch, u, true, 1000000 + id⟩) = true := word_formed (ok.ok _ hl) hm hne (by decide) (by decide)
  have hj : judgeE (wordOf me 3 ⟨id, nn, ch, u, true, 1000000 + id⟩) ra rb = 0 := by
    unfold judgeE
    rw [if_pos hfo, if_neg h0, if_neg h1, if_neg h2]
    simp [wordOf]
  have hv : judgeV (wordOf me 3 ⟨id, nn, ch, u, true, 1000000 + id⟩) ra rb = ⟨4, id, me, nn, 0, 1000000 + id, ra, rb⟩ := by unfold judgeV; rw [if_pos hj]; rfl
  have hF : (⟨id, nn, ch, u, true, 1000000 + id⟩ : Hf) ∈ (L.filter (fun h => h.pr == true)).filter (fun g => judgeE (wordOf me 3 g) ra rb == 0) := List.mem_filter.2 ⟨List.mem_filter.2 ⟨hl, rfl⟩, by rw [hj]; rfl⟩
  have hsF : Srt ((L.filter (fun h => h.pr == true)).filter (fun g => judgeE (wordOf me 3 g) ra rb == 0)) := (ok.srt.filter _).filter _
  obtain ⟨p, hp1, hp2, hp3⟩ := idx_map (f := fun g => judgeV (wordOf me 3 g) ra rb) hsF (fun g hg => by
    have := (List.mem_filter.1 hg).2
    exact (judge_formed (by simpa using this)).2) hF
  rw [e2]
  exact ⟨p, hp1, by rw [hp2, hv], hp3⟩
/-! ### memory -/
structure Sr where
  id : Int
  j : Jn
instance : Inhabited Sr := ⟨⟨0, zJn⟩⟩
abbrev Sr.cs (s : Sr) : List Value := [.int .i64 s.id, .int .i64 s.j.ph, .int .i64 s.j.sp, .int .i64 s.j.n, .int .i64 s.j.si, .int .i64 s.j.tr]
theorem sr_size (s : Sr) : s.cs.length = 6 := rfl
theorem sr_one (x : Sr) : ∀ u ∈ x.cs, u.oneCell' = true := by
  intro u hu; simp only [List.mem_cons, List.not_mem_nil, or_false] at hu; rcases hu with rfl | rfl | rfl | rfl | rfl | rfl <;> rfl
theorem info30 : (Tryd.prog.info? 30).map (fun i => (i.zero, i.size, i.bytes)) = some (some (.agg #[.int .i64 0, .int .i64 0, .int .i64 0, .int .i64 0, .int .i64 0, .int .i64 0]), 6, 48) := by kernel_rfl
theorem info3 : (Tryd.prog.info? 3).map (fun i => (i.zero, i.size, i.bytes)) = some (some (.int .i64 0), 1, 8) := by kernel_rfl
theorem made_rep (v : Value) (hv : v.cells = #[v]) (n : Nat) : madeCells v.cells (n * 1) = Array.replicate n v := by
  rw [hv, Nat.mul_one]
  apply Array.ext
  · simp [madeCells]
  · intro i h1 h2
    simp [madeCells]
    try (rw [show i % 1 = 0 from Nat.mod_one i]; rfl)
theorem make_ints (n : Nat) (hn : n ≤ 60) (w : World) : (Instr.makeSlice 26 (.int .i64 n) (.int .i64 n)).run Tryd.prog w = .ok (.slice (some ⟨w.heap.size, 0, none⟩) n n) (w.alloc (.cells (Array.replicate n (.int .i64 0)) 3)) := by
  obtain ⟨i0, hi, hz0, hz1, hz2⟩ := info_parts info3
  have := run_make (P := Tryd.prog) w 26 3 i0 (.int .i64 0) Tryd.underlying26 hi hz0 .i64 .i64 n n (by omega) (Int.le_refl _) (by rw [hz2]; omega) (by omega)
  rw [hz1, made_rep _ rfl] at this
  simpa using this
def RowI (w : World) (g : Nat) (zs : List Int) : Prop := CAt w g (zs.map (Value.int .i64)) ∧ Fz w g
section
variable {w w' : World} {g k o : Nat} {zs : List Int}
theorem RowI.keep (h : RowI w g zs) (hb : Below w.heap.size w w') : RowI w' g zs := ⟨h.1.keep hb, h.2.keep hb⟩
theorem RowI.tch (h : RowI w g zs) (hT : Tch k o w w') (hk : g ≠ k) : RowI w' g zs := ⟨CAt.tch h.1 hT hk, h.2.grown hT.g (fun e => hk (Option.some.inj e))⟩
theorem RowI.at (h : RowI w g zs) {i : Nat} (hi : i < zs.length) : w.cell? ⟨g, i, none⟩ = some (.int .i64 (zs.getD i 0)) := h.1 i _ (by rw [List.getElem?_map, List.getElem?_eq_getElem hi, List.getD_eq_getElem?_getD, List.getElem?_eq_getElem hi]; rfl)
theorem RowI.set (h : RowI w g zs) {i : Nat} (hi : i < zs.length) (v : Int) : RowI (w.setCell ⟨g, i, none⟩ (.int .i64 v)) g (zs.set i v) := ⟨by rw [List.map_set]; exact h.1.set i _ (by simpa using hi), h.2.set _ _⟩
end
/-- All strangers. -/
def AllS (w : World) (g n : Nat) (f : Nat → Jn) : Prop := (∀ i, i < n → Sg w g (i * 6) (50 + (i : Int)) (f i)) ∧ Fz w g
section
variable {w w' : World} {g n k : Nat} {f : Nat → Jn}
theorem AllS.keep (h : AllS w g n f) (hb : Below w.heap.size w w') : AllS w' g n f := ⟨fun i hi => (h.1 i hi).keep hb, h.2.keep hb⟩
theorem AllS.other (h : AllS w g n f) (hk : k ≠ g) (x : Nat) (v : Value) : AllS (w.setCell ⟨k, x, none⟩ v) g n f := ⟨fun i hi => (h.1 i hi).other hk x v, h.2.set _ _⟩
theorem Sg.off {o i : Nat} {id : Int} {j : Jn} (h : Sg w g o id j) (hT : Tch g i w w') (ho : o + 6 ≤ i ∨ i + 6 ≤ o) : Sg w' g o id j := by
  obtain ⟨h0, h1, h2, h3, h4, h5⟩ := h
  exact ⟨(hT.c _ (by omega)).trans h0, (hT.c _ (by omega)).trans h1, (hT.c _ (by omega)).trans h2, (hT.c _ (by omega)).trans h3, (hT.c _ (by omega)).trans h4, (hT.c _ (by omega)).trans h5⟩
theorem AllS.turn (h : AllS w g n f) {i : Nat} (hi : i < n) (hT : Tch g (i * 6) w w') {J : Jn} (hs : Sg w' g (i * 6) (50 + (i : Int)) J) {f' : Nat → Jn} (hf : ∀ j, j < n → f' j = if j = i then J else f j) : AllS w' g n f' :=
  ⟨fun j hj => by
    rw [hf j hj]
    by_cases e : j = i
    · subst e; rw [if_pos rfl]; exact hs
    · rw [if_neg e]
      refine Sg.off (h.1 j hj) hT ?_
      rcases Nat.lt_or_ge j i with hlt | hge
      · left; omega
      · right; omega, Fz.tch h.2 hT⟩
end
theorem HsAt.put9 {w : World} {a : Option Addr} {l : List Hf} {k : Nat} (h : HsAt w a l) (ha : Apart a k) (x : Nat) (v : Value) : HsAt (w.setCell ⟨k, x, none⟩ v) a l :=
  ⟨by
    rcases h.cells with h | ⟨b, off, e, h⟩
    · exact .inl h
    · exact .inr ⟨b, off, e, fun i hi j u hj => (grown_set w k x v).cell (h i hi j u hj) (fun e' => ha b off _ e (Option.some.inj e'))⟩,
   h.ad.imp id fun ⟨b, off, e, hlt⟩ => ⟨b, off, e, by simpa using hlt⟩⟩
end Go.Proofs.YtgmabjlehjpboaaDoor
