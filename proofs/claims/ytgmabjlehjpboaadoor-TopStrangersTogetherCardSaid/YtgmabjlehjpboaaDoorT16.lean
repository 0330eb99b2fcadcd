/- Proved: a sponsor's table of half-open joins in a map of its own: what looking up, noting and listing do. Conditions: those that each theorem names. -/
import Derived.Test.YtgmabjlehjpboaaDoorT15
import Derived.Test.YtgmabjlehjpboaaDoorSh
import Derived.Maps.OwnSet
import Derived.Maps.Views
namespace Go.Proofs.YtgmabjlehjpboaaDoor
open Go.RowKit Go.Sort Go.BigFrame Go.Proofs.YtgmabjlehjpboaaDoor.K
set_option linter.unusedVariables false
set_option linter.unusedSimpArgs false
attribute [local go_sem] cell_alloc_old

open Go.Maps Go.Shelf
def encH (h : Hf) : DataW Unit := .agg [.lit (.int .i64 h.s), .lit (.int .i64 h.n), .lit (.int .i64 h.c), .lit (.int .i64 h.u), .lit (.bool h.pr), .lit (.int .i64 h.k)]
/-- How a half-open join reads. -/
def Rl (l : List Value) : Option (DataW Unit × List MemPlace) := match l with
  | [.int .i64 s, .int .i64 n, .int .i64 c, .int .i64 u, .bool p, .int .i64 k] => some (encH ⟨s, n, c, u, p, k⟩, [])
  | _ => none
def Rh (v : Value) : Option (DataW Unit × List MemPlace) := match v with
  | .agg a => Rl a.toList
  | _ => none
theorem Rh_v (h : Hf) : Rh h.v = some (encH h, []) := rfl
theorem Rl_inv {l : List Value} {h : Hf} {ps : List MemPlace} (e : Rl l = some (encH h, ps)) : l = h.cs := by
  unfold Rl at e
  split at e
  · simp only [encH, Option.some.injEq, Prod.mk.injEq, DataW.agg.injEq, List.cons.injEq, DataW.lit.injEq, Lit.int.injEq, Lit.bool.injEq, true_and, and_true] at e
    obtain ⟨⟨rfl, rfl, rfl, rfl, rfl, rfl⟩, _⟩ := e
    rfl
  · cases e
theorem Rh_inv {v : Value} {h : Hf} {ps : List MemPlace} (e : Rh v = some (encH h, ps)) : v = h.v := by
  unfold Rh at e
  split at e
  · rename_i a
    have := Rl_inv e
    obtain ⟨a⟩ := a
    simp only at this
    subst this
    rfl
  · cases e
abbrev zHf : Hf := ⟨0, 0, 0, 0, false, 0⟩
def encL (l : List Hf) : DataW Unit := .map (l.map fun h => (.int .i64 h.s, encH h))
def insH (h : Hf) : List Hf → List Hf
  | [] => [h]
  | y :: r => if h.s < y.s then h :: y :: r else y :: insH h r
def putL (l : List Hf) (h : Hf) : List Hf := insH h (l.filter fun y => !decide (y.s = h.s))
def findL (l : List Hf) (x : Int) : Option Hf := l.find? fun h => decide (h.s = x)
theorem enc_ins (h : Hf) : ∀ l : List Hf, DataW.insert (Lit.int .i64 h.s, encH h) (l.map fun h => (Lit.int .i64 h.s, encH h)) = (insH h l).map fun h => (Lit.int .i64 h.s, encH h)
  | [] => rfl
  | y :: r => by
    simp only [List.map_cons, DataW.insert, insH, Lit.before, decide_eq_true_eq]
    split
    · rfl
    · rw [enc_ins h r]; rfl
theorem enc_filter (x : Int) : ∀ l : List Hf, (l.map fun h => (Lit.int .i64 h.s, encH h)).filter (fun p => !p.1.sameKey (.int .i64 x)) = (l.filter fun y => !decide (y.s = x)).map fun h => (Lit.int .i64 h.s, encH h)
  | [] => rfl
  | y :: r => by
    by_cases e : y.s = x
    · simp [Lit.sameKey, e]; simpa [Lit.sameKey] using enc_filter x r
    · simp [Lit.sameKey, e]; simpa [Lit.sameKey] using enc_filter x r
theorem encL_put (l : List Hf) (h : Hf) : (encL l).put (.int .i64 h.s) (encH h) = encL (putL l h) := by
  unfold encL putL DataW.put
  simp only
  rw [enc_filter, enc_ins]
theorem encL_find (x : Int) : ∀ l : List Hf, (l.map fun h => (Lit.int .i64 h.s, encH h)).find? (fun p => p.1.sameKey (.int .i64 x)) = (findL l x).map fun h => (Lit.int .i64 h.s, encH h)
  | [] => rfl
  | y :: r => by
    by_cases e : y.s = x
    · simp [findL, Lit.sameKey, e]
    · have := encL_find x r
      simp only [findL] at this ⊢
      simp [Lit.sameKey, e]
      simpa [Lit.sameKey] using this
theorem encL_at (l : List Hf) (x : Int) : (encL l).atKey (.int .i64 x) (encH zHf) = encH ((findL l x).getD zHf) := by
  unfold encL DataW.atKey
  simp only
  rw [encL_find]
  cases findL l x <;> rfl
theorem encL_has (l : List Hf) (x : Int) : Maps.has (encL l) (.int .i64 x) = (findL l x).isSome := by
  unfold encL
  rw [has_eq]
  induction l with
  | nil => rfl
  | cons y r ih =>
    by_cases e : y.s = x
    · simp [findL, Lit.sameKey, e]
    · simp only [findL] at ih ⊢
      simp [Lit.sameKey, e]
      simpa [Lit.sameKey] using ih
theorem encL_size (l : List Hf) : Maps.size (encL l) = l.length := by simp [encL, Maps.size]
theorem encL_keys (l : List Hf) : intKeys (encL l) = l.map Hf.s := by simp [encL, intKeys, Function.comp_def, _root_.Go.intOf]
theorem lawI : Keyed Tryd.prog 3 := int_keyed Tryd.underlying3
/-- Block b is a table of these half-open joins. -/
def TabH (w : World) (b n : Nat) (l : List Hf) : Prop := w.ownsMap Tryd.prog 3 Rh b n (encL l)
section
variable {w w' : World} {b n : Nat} {l : List Hf}
theorem TabH.lt (h : TabH w b n l) : b < w.heap.size := World.ownsMap.lt h
theorem TabH.same (h : TabH w b n l) (hb : w'.heap[b]? = w.heap[b]?) : TabH w' b n l := by
  obtain ⟨es, clock, h1, h2, h3, h4⟩ := h
  exact ⟨es, clock, by rw [hb]; exact h1, h2, h3, h4⟩
theorem TabH.keep (h : TabH w b n l) (hb : Below w.heap.size w w') : TabH w' b n l := h.same (hb.block b h.lt)
theorem TabH.made (w : World) : TabH (w.alloc (.map #[] 0)) w.heap.size 0 [] := World.ownsMap_made _ _ _ _
theorem TabH.look (h : TabH w b n l) {x : Int} (hx : I64 x) : (Instr.lookup 76 (.map (some b)) (.int .i64 x) true).run Tryd.prog w = .ok (.tuple #[((findL l x).getD zHf).v, .bool (findL l x).isSome]) w := by
  obtain ⟨v, ps, hrun, hv⟩ := World.ownsMap.look_ok h lawI Tryd.underlying76 (Tryd.zeroValue70 w) (zd := encH zHf) (zp := []) rfl (keyOf_int_mk Tryd.underlying3 hx)
  rw [encL_at] at hv
  rw [hrun, Rh_inv hv, encL_has]
theorem TabH.look1 (h : TabH w b n l) {x : Int} (hx : I64 x) : (Instr.lookup 76 (.map (some b)) (.int .i64 x) false).run Tryd.prog w = .ok ((findL l x).getD zHf).v w := by
  obtain ⟨v, ps, hrun, hv⟩ := World.ownsMap.lookup h lawI Tryd.underlying76 (Tryd.zeroValue70 w) (zd := encH zHf) (zp := []) rfl (keyOf_int_mk Tryd.underlying3 hx)
  rw [encL_at] at hv
  rw [hrun, Rh_inv hv]
theorem TabH.put (h : TabH w b n l) (hn : n < maxLen) (x : Hf) (hx : I64 x.s) : ∃ w', (Instr.mapUpdate 76 (.map (some b)) (.int .i64 x.s) x.v).run Tryd.prog w = .ok () w' ∧ TabH w' b (n + 1) (putL l x) ∧ w.grownBy w' (some b) := by
  obtain ⟨w', hrun, h3, h4⟩ := World.ownsMap.update h lawI Tryd.underlying76 hn (keyOf_int_mk Tryd.underlying3 hx) (Rh_v x)
  exact ⟨w', hrun, by rw [encL_put] at h3; exact h3, h4⟩
theorem TabH.len (h : TabH w b n l) (ty : TypeId) : (Builtin.len_ #[76] ty #[.map (some b)]).run Tryd.prog w = .ok (.int .i64 l.length) w := by
  rw [World.ownsMap.len h Tryd.underlying76 ty, encL_size]
end
/-! ### the keys, sorted -/
theorem sorts_in (m : Nat) : AnyZI.SortsIn Tryd.prog Tryd.sortedA_ren Fence.wide m :=
  ⟨fun blk off cap ss W hH hblk hsz => callsIn_wide.2 (AnyM.slices_Sort_int Tryd.sortA blk off cap ss W hH hblk hsz),
   fun p cap W => callsIn_wide.2 (AnyM.slices_Sort_int_none Tryd.sortA p cap W)⟩
theorem keys_at (b : Nat) (w : World) : Calls Tryd.prog 55 #[.map (some b)] w fun e w' => e = .returned (.func (.func 63) #[] #[.pointer (some ⟨w.heap.size, 0, none⟩)]) ∧ w' = w.alloc (.cells #[.map (some b)] 76) :=
  callsIn_wide.1 (AnyZI.keys_in Tryd.keysA Fence.wide 5 trivial rfl (some b) w)
theorem sort_sorted {l : List Int} (h : l.Pairwise (· < ·)) : l.mergeSort (fun x y => decide (x ≤ y)) = l :=
  List.mergeSort_of_pairwise (h.imp fun {a b} h => by simp only [decide_eq_true_eq]; omega)
theorem sorted_at (b n : Nat) (l : List Hf) (w : World) (h : TabH w b n l) (hs : l.Pairwise fun x y => x.s < y.s) (hl : l.length ≤ 60) :
    Calls Tryd.prog 54 #[.func (.func 63) #[] #[.pointer (some ⟨w.heap.size, 0, none⟩)]] (w.alloc (.cells #[.map (some b)] 76)) fun e w' => ∃ v, e = .returned v ∧ K.Own .i64 w' (w.heap.size + 1) 3 v (l.map Hf.s) ∧ Below (w.heap.size + 1) (w.alloc (.cells #[.map (some b)] 76)) w' := by
  have hbl := h.lt
  have hseq : SeqGives Fence.wide 2 Tryd.prog 63 #[.pointer (some ⟨w.heap.size, 0, none⟩)] encZ (fun ss => ss.Perm (intKeys (encL l))) (Maps.size (encL l)) (w.alloc (.cells #[.map (some b)] 76)) :=
    AnyZI.keys_gives (ρ := Tryd.keysA_ren) { Tryd.keysA with } Fence.wide _ trivial rfl (by omega) w.heap.size b n (encL l) _ (by simp) (by simp) (World.ownsMap.alloc h _)
  have cS := AnyZI.sorted_in Tryd.sortedA Fence.wide 5 trivial trivial trivial trivial rfl (by omega) (sorts_in _) (enters_of Tryd.func62 (by kernel_rfl) rfl) 63 #[.pointer (some ⟨w.heap.size, 0, none⟩)] trivial (enters_of Tryd.func63 (by kernel_rfl) rfl) _ _ (by rw [encL_size]; unfold maxLen; omega) (by rw [encL_size]; omega) _ hseq
  change CallsIn _ _ Tryd.prog 54 _ _ _ at cS
  refine (callsIn_wide.1 cS).mono ?_
  rintro e w' ⟨v, ss, rfl, hp, hrow, _, hb⟩
  rw [encL_keys] at hp
  have e1 : ss.mergeSort (fun x y => decide (x ≤ y)) = l.map Hf.s := by
    rw [show ss.mergeSort (fun x y => decide (x ≤ y)) = (l.map Hf.s).mergeSort (fun x y => decide (x ≤ y)) from mergeSort_of_perm_i hp]
    exact sort_sorted (List.pairwise_map.2 hs)
  rw [e1] at hrow
  have e2 : ss.length = (l.map Hf.s).length := hp.length_eq
  rw [e2] at hrow
  have hsz : (w.alloc (.cells #[.map (some b)] 76)).heap.size = w.heap.size + 1 := by simp
  rw [hsz] at hrow
  exact ⟨v, rfl, hrow, by have := hb; rwa [hsz] at this⟩
end Go.Proofs.YtgmabjlehjpboaaDoor
