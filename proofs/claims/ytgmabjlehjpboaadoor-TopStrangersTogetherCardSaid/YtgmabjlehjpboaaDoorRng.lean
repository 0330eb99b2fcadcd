/- Proved: a range over a function, opened, and one of its rounds, for whatever program. Conditions: those that each theorem names. -/
import Derived.Test.YtgmabjlehjpboaaDoorMixIn
import Derived.RangeFuncNested
import Derived.RangeFuncBound
import Derived.RangeFuncCalls
import Derived.RangeFuncLeaves
import Derived.OwnWalkIn
import Derived.TacticsInMore
import Derived.LoopNIn
import Derived.LoopIn
import Derived.Shelf.Abstract
namespace Go.Proofs.YtgmabjlehjpboaaDoor.K
open Go.RowKit Go.Sort
set_option linter.unusedVariables false

theorem putObj_below {B l : Nat} {W W' : World} {o : Obj} (h : Below B W W') (hl : B ≤ l) : Below B W (W'.putObj l o) :=
  ⟨h.os, h.tape, h.output, by rw [World.putObj_size]; exact h.size, fun k hk => (World.putObj_heap_other (by omega)).trans (h.block k hk)⟩
theorem putObj_cell {W : World} {l : Nat} {o : Obj} {a : Addr} (h : a.block ≠ l) : (W.putObj l o).cell? a = W.cell? a := World.cell?_of_block (World.putObj_heap_other h)
theorem putObj_frozen {W : World} {l : Nat} {o : Obj} {a : Addr} (h : a.block ≠ l) : (W.putObj l o).frozen? a = W.frozen? a := World.frozen?_of_block (World.putObj_heap_other h)

section
variable {P : Program}
/-- 'rec' is the record of a loop, by its state and the jump that is pending. -/
def IsRec (rec : LoopState → Option Code → Loop) (fn : FuncId) (tmps : Array Value) (ps : Array Tmp) (assign body : Code) (D : Nat) : Prop :=
  rec = fun st pe => { state := st, pending := pe, fn := fn, tmps := tmps, params := ps, assign := assign, body := body, defers := D }

theorem range_plain {n : Nat} {g : Operand} {ps : Array Tmp} {assign body : Code} {Q : Exit → Act → World → Prop} {a : Act} {w : World} {gf : Nat} {lb : Array Value}
    (hg : a.eval g = .func (.func gf) #[] lb) (eg : ∀ args w, (callFunc gf args).run P w = .ok (.enter gf args) w)
    (h : ∀ fn W1 rec, IsRec rec fn a.tmps ps assign body w.heap.size →
      W1.heap[w.heap.size]? = some (.deferred (some [])) → W1.heap[w.heap.size + 1]? = some (.loop (rec .ready none)) → Below w.heap.size w W1 → W1.heap.size = w.heap.size + 2 →
      CallsIn Fence.wide (n - 1) P gf (#[.func (.yield (w.heap.size + 1)) #[] #[]] ++ lb) W1
        (rangePost Fence.wide n P (w.heap.size + 1) Q { a with defers := { target := .collected w.heap.size, args := #[] } :: a.defers })) :
    (Code.rangeFunc g ps assign body).wpIn Fence.wide n P Q a w := by
  refine wpIn_rangeFunc ?_
  intro fn hfn
  obtain ⟨rec, hrec⟩ : ∃ rec : LoopState → Option Code → Loop, rec = fun st pe => { state := st, pending := pe, fn := fn, tmps := a.tmps, params := ps, assign := assign, body := body, defers := w.heap.size } := ⟨_, rfl⟩
  obtain ⟨W1, hW1⟩ : ∃ W1, (w.alloc (.deferred (some []))).alloc (.loop (rec .ready none)) = W1 := ⟨_, rfl⟩
  have h1 : W1.heap[w.heap.size]? = some (.deferred (some [])) := by rw [← hW1]; exact (Below.heap_alloc _ _ _ (by simp)).trans (alloc_new_heap w _)
  have h2 : W1.heap[w.heap.size + 1]? = some (.loop (rec .ready none)) := by
    rw [← hW1]; have := alloc_new_heap (w.alloc (.deferred (some []))) (.loop (rec .ready none)); rwa [World.size_alloc] at this
  have h3 : Below w.heap.size w W1 := by rw [← hW1]; exact ((Below.refl _ w).alloc (Nat.le_refl _) _).alloc (by simp) _
  have h4 : W1.heap.size = w.heap.size + 2 := by rw [← hW1]; simp
  have hc := h fn W1 rec hrec h1 h2 h3 h4
  refine ⟨w.heap.size + 1, [{ target := .collected w.heap.size, args := #[] }], W1, { target := .fn (.func gf) lb, args := #[.func (.yield (w.heap.size + 1)) #[] #[]] }, W1, gf,
    #[.func (.yield (w.heap.size + 1)) #[] #[]] ++ lb, W1, ?_, ?_, ?_, ?_, ?_, ?_⟩
  · rw [← hW1, hrec]; exact run_enterLoop_outer _ _ _ _ _
  · simp only [resolve, hg]; simp [go_sem]
  · intro f' hf'; exact True.intro
  · simp [invoke, go_sem, eg]
  · intro hh; exact absurd hh (by decide)
  · exact hc

/-- One round: the body is walked in the world in which the record is busy. -/
theorem round_plain {m l : Nat} {rec : LoopState → Option Code → Loop} {fn : FuncId} {tmps : Array Value} {ps : Array Tmp} {assign body : Code} {D : Nat} (hrec : IsRec rec fn tmps ps assign body D)
    {args : Array Value} {W : World} {R : Ending → World → Prop} (h : W.heap[l]? = some (.loop (rec .ready none))) (hs : args.size = ps.size)
    (hb : ∀ W2, W2 = W.putObj l (.loop (rec .busy none)) →
      assign.wpIn (Fence.wide.inRound l) m P (Exit.then (fun a₁ w₁ => w₁ = W ∧ body.wpIn (Fence.wide.inRound l) m P (roundPost P l R) a₁ W2) (fun _ _ _ => False)) { tmps := (ps.zip args).foldl (fun t (p, v) => t.setIfInBounds p v) tmps, defers := [] } W) :
    YieldAt Fence.wide m P l args W R := by
  unfold IsRec at hrec
  subst hrec
  refine ⟨_, _, _, _, run_yield h hs, roundIn_of_wpIn trivial ?_⟩
  refine wpIn_mono (hb _ rfl) ?_
  rintro e a₁ w₁ hq
  cases e with
  | normal => obtain ⟨rfl, hq⟩ := hq; exact ⟨_, run_beginRound h rfl, hq⟩
  | _ => exact hq

theorem end_rec {l : Nat} {rec : LoopState → Option Code → Loop} {fn : FuncId} {tmps : Array Value} {ps : Array Tmp} {assign body : Code} {D : Nat} (hrec : IsRec rec fn tmps ps assign body D)
    {W : World} {st : LoopState} {pe : Option Code} (jump : Option Code) (h : W.heap[l]? = some (.loop (rec st pe))) :
    (Instr.endRound l jump).run P W = .ok (.bool jump.isNone) (W.putObj l (.loop (rec (if jump.isNone then .ready else .done) jump))) := by
  unfold IsRec at hrec
  subst hrec
  exact run_endRound jump h
theorem endLoop_rec {l : Nat} {rec : LoopState → Option Code → Loop} {fn : FuncId} {tmps : Array Value} {ps : Array Tmp} {assign body : Code} {D : Nat} (hrec : IsRec rec fn tmps ps assign body D)
    {W : World} {st : LoopState} {pe : Option Code} (h : W.heap[l]? = some (.loop (rec st pe))) (hst : st ≠ .busy) :
    (Instr.endLoop l).run P W = .ok pe (W.putObj l (.loop (rec .exhausted pe))) := by
  unfold IsRec at hrec
  subst hrec
  exact run_endLoop h hst
end
end Go.Proofs.YtgmabjlehjpboaaDoor.K
