/- Proved: what a sponsor tells of its half-open joins. Conditions: the list is valid and lies in memory. -/
import Derived.Test.YtgmabjlehjpboaaDoorT14
namespace Go.Proofs.YtgmabjlehjpboaaDoor
open Go.RowKit Go.Sort Go.BigFrame Go.Proofs.YtgmabjlehjpboaaDoor.K
set_option linter.unusedVariables false
set_option linter.unusedSimpArgs false
attribute [local go_sem] cell_alloc_old

/-- A list of structs that a call has itself made. -/
def OwnG {α : Type} (cs : α → List Value) (e : TypeId) (s : Nat) (w : World) (base : Nat) (v : Value) (l : List α) : Prop := w.ownsRow base e s v l.length (flatL cs l)
section
variable {α : Type} {cs : α → List Value} {e : TypeId} {s : Nat} {w w' : World} {base : Nat} {v : Value} {l : List α}
theorem OwnG.nil (cs : α → List Value) (e : TypeId) (s : Nat) (w : World) (base : Nat) : OwnG cs e s w base (.slice none 0 0) [] := World.ownsRow_nil _ _ _ _
theorem OwnG.keep (h : OwnG cs e s w base v l) (hb : Below w.heap.size w w') : OwnG cs e s w' base v l := ownsRow_below h hb
theorem OwnG.shape [Inhabited α] (h : OwnG cs e s w base v l) (hs : ∀ x, (cs x).length = s) : ∃ a cap, v = .slice a l.length cap ∧ At s cs w a l ∧ l.length ≤ cap ∧ cap ≤ maxLen := own_at hs h rfl
theorem OwnG.push {x : α} (h : w.ownsRow base e s v (l.length + 1) (flatL cs l ++ cs x)) : OwnG cs e s w base v (l ++ [x]) := by
  unfold OwnG; rw [flatL_append, flatL_one, List.length_append]; exact h
theorem OwnG.grown {w0 : World} {o : Obj} (hB : Below w0.heap.size w0 w) (h : OwnG cs e s w base v l) (hb : w0.heap.size ≤ base) (hg : (w.alloc o).grownBy w' v.ownBlock) : Below w0.heap.size w0 w' :=
  (ball hB o).grown hg (by have := hB.size; simp; omega) (fun j hj => by have := (World.ownsRow.lt h j hj).1; omega)
theorem OwnG.fresh {a : Option Addr} {m c : Nat} (h : OwnG cs e s w base (.slice a m c) l) : Fresh base a := by
  rcases h.2 with ⟨hv, _⟩ | ⟨g, cap, cur, hv, hb, _⟩
  · simp only [Value.slice.injEq] at hv
    rw [hv.1]; exact Fresh.none _
  · simp only [Value.slice.injEq] at hv
    rw [hv.1]; exact Fresh.at _ _ _ hb
theorem flat_new (w : World) (cs : List Value) (e : TypeId) : ∀ (j : Nat) (u : Value), cs[j]? = some u → (w.alloc (.cells cs.toArray e)).cell? ((⟨w.heap.size, 0, none⟩ : Addr).add j) = some u := by
  intro j u hj
  rw [addr0]; exact new0 rfl (by simpa using hj)
end
theorem OwnG.hs {w : World} {base : Nat} {v : Value} {l : List Hf} (h : OwnG Hf.cs 70 6 w base v l) : ∃ a c, v = .slice a l.length c ∧ HsAt w a l := by
  obtain ⟨a, c, e, hat, _, _⟩ := h.shape hf_size
  refine ⟨a, c, e, hat, ?_⟩
  rcases h.2 with ⟨hv, _⟩ | ⟨g, cap, cur, hv, _, hg, _⟩
  · rw [e] at hv
    simp only [Value.slice.injEq] at hv
    exact .inl hv.1
  · rw [e] at hv
    simp only [Value.slice.injEq] at hv
    exact .inr ⟨g, 0, hv.1, (Array.getElem?_eq_some_iff.1 hg).1⟩
theorem hf_one (x : Hf) : ∀ u ∈ x.cs, u.oneCell' = true := by
  intro u hu; simp only [List.mem_cons, List.not_mem_nil, or_false] at hu; rcases hu with rfl | rfl | rfl | rfl | rfl | rfl <;> rfl
theorem wd_one (x : Wd) : ∀ u ∈ x.cs, u.oneCell' = true := by
  intro u hu; simp only [List.mem_cons, List.not_mem_nil, or_false] at hu; rcases hu with rfl | rfl | rfl | rfl | rfl | rfl | rfl | rfl <;> rfl
/-- The word about a half-open join. -/
def wordOf (me kind : Int) (h : Hf) : Wd := ⟨kind, h.s, me, h.n, h.c, h.k, 0, 0⟩
def toldV (l : List Hf) (me kind : Int) (pr : Bool) : List Wd := if nodeB me = true then (l.filter (fun h => h.pr == pr)).map (wordOf me kind) else []
/-- A list of words is returned. -/
def WordsPost (W : List Wd) (w : World) (e : Ending) (w' : World) : Prop := ∃ a m c, e = .returned (.slice a m c) ∧ Hid (m = W.length) ∧ WsAt w' a W ∧ Below w.heap.size w w' ∧ Fresh w.heap.size a
def toTold (l : List Hf) (me kind : Int) (pr : Bool) (k : Nat) : List Wd := ((l.take k).filter (fun h => h.pr == pr)).map (wordOf me kind)
theorem toTold_snoc {l : List Hf} {me kind : Int} {pr : Bool} {k : Nat} (hk : k < l.length) : toTold l me kind pr (k + 1) = if ((l.getD k default).pr == pr) = true then toTold l me kind pr k ++ [wordOf me kind (l.getD k default)] else toTold l me kind pr k := by
  unfold toTold
  rw [filter_snoc _ hk, List.map_append]
  split <;> simp
theorem toTold_len {l : List Hf} {me kind : Int} {pr : Bool} (k : Nat) : (toTold l me kind pr k).length ≤ k := by
  unfold toTold; rw [List.length_map]; exact filter_len_le _ _ _
set_option maxRecDepth 100000 in
set_option maxHeartbeats 4000000 in
theorem told_no (l : List Hf) (n : Nat) (a : Option Addr) (cap : Nat) (me kind : Int) (pr : Bool) (w : World) (ok : OkL l) (hn : Hid (n = l.length)) (hl : HsAt w a l) (hm : nodeB me = false) : Calls Tryd.prog 35 #[.slice a n cap, .int .i64 me, .int .i64 kind, .bool pr] w (WordsPost [] w) := by
  have OK := Lib.hid ok; clear ok
  have HM := Lib.hid hm; clear hm
  go_enter Tryd.func35, Tryd.ntmps35
  go_wp2_with fail
  refine (svalid_at l n a cap w OK.out hn hl).mono ?_
  rintro e w1 ⟨rfl, b1⟩
  go_wp2_with fail
  refine (isnode_at me false _ HM.out).mono ?_
  rintro e w' ⟨rfl, rfl⟩
  go_wp2_with fail
  go_ret
  exact ⟨_, _, _, rfl, Lib.hid rfl, .inl rfl, b1, Fresh.none _⟩
set_option maxRecDepth 100000 in
set_option maxHeartbeats 4000000 in
theorem told_yes (l : List Hf) (n : Nat) (a : Option Addr) (cap : Nat) (me kind : Int) (pr : Bool) (w : World) (ok : OkL l) (hn : Hid (n = l.length)) (hl : HsAt w a l) (hm : nodeB me = true) : Calls Tryd.prog 35 #[.slice a n cap, .int .i64 me, .int .i64 kind, .bool pr] w (WordsPost (toTold l me kind pr n) w) := by
  obtain ⟨i0, hi0, hz0, hz1, hz2⟩ := info_parts info43
  have OK := Lib.hid ok; clear ok
  have HM := Lib.hid hm; clear hm
  have h4 : n ≤ 4 := by rw [hn.out]; exact OK.out.len
  go_enter Tryd.func35, Tryd.ntmps35
  go_wp2_with fail
  refine (svalid_at l n a cap w OK.out hn hl).mono ?_
  rintro e w1 ⟨rfl, b1⟩
  go_wp2_with fail
  refine (isnode_at me true _ HM.out).mono ?_
  rintro e w' ⟨rfl, rfl⟩
  go_wp2_with fail
  go_loopw [9, 22] (fun v i wr => ∃ k : Nat, k ≤ n ∧ i = .int .i64 k ∧ OwnG Wd.cs 43 8 wr w.heap.size v (toTold l me kind pr k) ∧ Below w.heap.size w wr) (fun _ i _ => n - (intOf i).toNat)
  case atStart => exact ⟨0, Nat.zero_le _, rfl, OwnG.nil _ _ _ _ _, b1⟩
  case round =>
    clear b1
    obtain ⟨k, hk, rfl, hown, BB⟩ := hrel
    by_cases hlt : k < n
    · have hlt' : (k : Int) < (n : Int) := by omega
      have hk0 : (0 : Int) ≤ (k : Int) := by omega
      have hwk : IntKind.i64.wrap ((k : Int) + 1) = (k : Int) + 1 := IntWalk.i64_in _ (by omega)
      obtain ⟨b, off, e1, c0, c1, c2, c3, c4, c5⟩ := hl.hf BB (i := k) (by rw [← hn.out]; exact hlt)
      have hsn := toTold_snoc (l := l) (me := me) (kind := kind) (pr := pr) (k := k) (by rw [← hn.out]; exact hlt)
      have hlen := toTold_len (l := l) (me := me) (kind := kind) (pr := pr) k
      obtain ⟨x, hx⟩ : ∃ x, l.getD k default = x := ⟨_, rfl⟩
      rw [hx] at c0 c1 c2 c3 c4 c5 hsn
      clear hx
      subst e1
      obtain ⟨O, hO⟩ : ∃ O, toTold l me kind pr k = O := ⟨_, rfl⟩
      rw [hO] at hown hsn hlen
      clear hO
      have HL := Lib.hid hlen; clear hlen
      go_upto_region 7 with (fail)
      have bs1 : w.heap.size ≤ wr.heap.size := BB.size
      have Tx := CAt.new (wr) [.int .i64 x.s, .int .i64 x.n, .int .i64 x.c, .int .i64 x.u, .bool x.pr, .int .i64 x.k] 70
      replace hown := hown.keep (Below.alloc (Below.refl _ (wr)) (Nat.le_refl _) (.cells #[.int .i64 x.s, .int .i64 x.n, .int .i64 x.c, .int .i64 x.u, .bool x.pr, .int .i64 x.k] 70))
      replace BB := ball BB (.cells #[.int .i64 x.s, .int .i64 x.n, .int .i64 x.c, .int .i64 x.u, .bool x.pr, .int .i64 x.k] 70)
      obtain ⟨V1, hV1⟩ : ∃ V1, wr.alloc (.cells #[.int .i64 x.s, .int .i64 x.n, .int .i64 x.c, .int .i64 x.u, .bool x.pr, .int .i64 x.k] 70) = V1 := ⟨_, rfl⟩
      rw [hV1] at BB Tx hown ⊢
      clear hV1
      obtain ⟨k1, hk1⟩ : ∃ k1, wr.heap.size = k1 := ⟨_, rfl⟩
      rw [hk1] at Tx bs1 ⊢
      clear hk1
      by_cases hp : (x.pr == pr) = true
      · rw [if_pos hp] at hsn
        have HS := Lib.hid hsn; clear hsn
        have x0 := Tx 0 _ rfl
        have x1 := Tx 1 _ rfl
        have x2 := Tx 2 _ rfl
        have x3 := Tx 3 _ rfl
        have x4 := Tx 4 _ rfl
        have x5 := Tx 5 _ rfl
        go_wp2_with (first
          | (at_builtin; refine wpList_append_own _ rfl _ _ 37 rfl w.heap.size 43 i0 _ 8 64 Tryd.underlying37 hi0 hz0 hz1 hz2 rfl (by decide) _ _ _ rfl (World.ownsRow.alloc hown _) ⟨V1.heap.size, 0, none⟩ 1 1 (wordOf me kind x).cs rfl rfl (flat_new _ _ _) (wd_one _) (by have := HL.out; unfold maxLen; omega) (by have := HL.out; omega) (by have := BB.size; simp; omega) ?_; intro v' w4 hown' hgrow _))
        have hB4 := OwnG.grown BB hown (Nat.le_refl _) hgrow
        have hown2 := OwnG.push hown'
        rw [← HS.out] at hown2
        clear hown' hgrow
        go_wp2_with fail
        go_roundw
        case rel => exact ⟨k + 1, by omega, by go_num, hown2, hB4⟩
        case measure => simp [intOf]; omega
      · rw [if_neg hp] at hsn
        have hp' : (x.pr == pr) = false := by simpa using hp
        have HS := Lib.hid hsn; clear hsn hp
        have x0 := Tx 0 _ rfl
        have x1 := Tx 1 _ rfl
        have x2 := Tx 2 _ rfl
        have x3 := Tx 3 _ rfl
        have x4 := Tx 4 _ rfl
        have x5 := Tx 5 _ rfl
        go_wp2_with fail
        go_roundw
        case rel => exact ⟨k + 1, by omega, by go_num, by rw [HS.out]; exact hown, BB⟩
        case measure => simp [intOf]; omega
    · have hkn : k = n := by omega
      subst hkn
      have hlt' : ¬ (k : Int) < (k : Int) := by omega
      go_wp2_with fail
      go_ret
      obtain ⟨a', c', rfl, hat, _, _⟩ := hown.shape wd_size
      exact ⟨_, _, _, rfl, Lib.hid rfl, hat, BB, hown.fresh⟩
theorem told_at (l : List Hf) (n : Nat) (a : Option Addr) (cap : Nat) (me kind : Int) (pr : Bool) (w : World) (ok : OkL l) (hn : Hid (n = l.length)) (hl : HsAt w a l) : Calls Tryd.prog 35 #[.slice a n cap, .int .i64 me, .int .i64 kind, .bool pr] w (WordsPost (toldV l me kind pr) w) := by
  cases hm : nodeB me
  · have e : toldV l me kind pr = [] := by simp [toldV, hm]
    rw [e]; exact told_no l n a cap me kind pr w ok hn hl hm
  · have e : toldV l me kind pr = toTold l me kind pr n := by rw [hn.out]; simp [toldV, toTold, hm]
    rw [e]; exact told_yes l n a cap me kind pr w ok hn hl hm
theorem words_at (l : List Hf) (n : Nat) (a : Option Addr) (cap : Nat) (me : Int) (w : World) (ok : OkL l) (hn : Hid (n = l.length)) (hl : HsAt w a l) : Calls Tryd.prog 16 #[.slice a n cap, .int .i64 me] w (WordsPost (toldV l me 2 false) w) := by
  have OK := Lib.hid ok; clear ok
  go_enter Tryd.func16, Tryd.ntmps16
  go_wp2_with fail
  refine (told_at l n a cap me 2 false w OK.out hn hl).mono ?_
  rintro e w1 ⟨a1, m1, c1, rfl, h1, h2, b1, f1⟩
  go_wp2_with fail
  go_ret
  exact ⟨_, _, _, rfl, h1, h2, b1, f1⟩
theorem proofs_at (l : List Hf) (n : Nat) (a : Option Addr) (cap : Nat) (me : Int) (w : World) (ok : OkL l) (hn : Hid (n = l.length)) (hl : HsAt w a l) : Calls Tryd.prog 17 #[.slice a n cap, .int .i64 me] w (WordsPost (toldV l me 3 true) w) := by
  have OK := Lib.hid ok; clear ok
  go_enter Tryd.func17, Tryd.ntmps17
  go_wp2_with fail
  refine (told_at l n a cap me 3 true w OK.out hn hl).mono ?_
  rintro e w1 ⟨a1, m1, c1, rfl, h1, h2, b1, f1⟩
  go_wp2_with fail
  go_ret
  exact ⟨_, _, _, rfl, h1, h2, b1, f1⟩
end Go.Proofs.YtgmabjlehjpboaaDoor
