/- Proved: how code that sends and receives on a channel, in one goroutine where nothing waits, is walked: rules for sequences, conditions, blocks, loops and regions in frames of normal calls. Conditions: the channel has room, or holds something. -/
import Derived.Test.YtkomgjkeikaigaaG7
import Derived.Conc.LoneCalls
import Derived.Conc.LoneSelectN
namespace Go.Proofs.Ytkomgjkeikaigaa
open Go.RowKit Go.Conc
set_option linter.unusedVariables false

/-- The code runs from here to an exit of which Q holds, in every frame of a normal call. -/
def wpN (P : Program) (c : Code) (Q : Exit → Act → World → Prop) (a : Act) (w : World) : Prop :=
  ∀ b : Frame, b.kind = .normal → ∀ (k : List Item) (cs : List Frame), ∃ e a' w', Q e a' w' ∧ Arrives P (lone (b.at a (.code c :: k)) cs w) b k cs e a' w'
def opsN (P : Program) (ops : Array Oper) (Q : Exit → Act → World → Prop) (l : List Nat) (a : Act) (w : World) : Prop :=
  ∀ b : Frame, b.kind = .normal → ∀ (k : List Item) (cs : List Frame), ∃ e a' w', Q e a' w' ∧ Arrives P (lone (b.at a (.inRegion ops l :: k)) cs w) b k cs e a' w'
section
variable {P : Program} {Q : Exit → Act → World → Prop} {a : Act} {w : World}
theorem wpN_of_wp {c : Code} (h : c.wp P Q a w) : wpN P c Q a w := fun b _ k cs => h b k cs
theorem wpN_seq {x y : Code} (h : ∀ K : Act → World → Prop, (∀ a w, wpN P y Q a w → K a w) → wpN P x (Exit.then K Q) a w) : wpN P (.seq x y) Q a w := by
  intro b hb k cs
  obtain ⟨e, a1, w1, hq, harr⟩ := h (wpN P y Q) (fun _ _ h => h) b hb (.code y :: k) cs
  have stay : ∀ e, (∀ a w, e ≠ .normal) → Q e a1 w1 → Arrives P (lone (b.at a (.code x :: .code y :: k)) cs w) b (.code y :: k) cs e a1 w1 → ∃ e a' w', Q e a' w' ∧ Arrives P (lone (b.at a (.code (.seq x y) :: k)) cs w) b k cs e a' w' :=
    fun e he hq harr => ⟨e, a1, w1, hq, .of_steps (.one step_seq) (.pass (x := .code y) rfl (fun a w => .inl (he a w)) harr)⟩
  cases e with
  | normal =>
    obtain ⟨e2, a2, w2, hq2, harr2⟩ := hq b hb k cs
    exact ⟨e2, a2, w2, hq2, .of_steps (.head step_seq harr) harr2⟩
  | exit id => exact stay _ (fun _ _ => by simp) hq harr
  | goto l => exact stay _ (fun _ _ => by simp) hq harr
  | ret => exact stay _ (fun _ _ => by simp) hq harr
  | panic ch => exact stay _ (fun _ _ => by simp) hq harr
  | outgrown => exact stay _ (fun _ _ => by simp) hq harr
theorem wpN_cond {c : Operand} {x y : Code} {t : Bool} (hc : a.eval c = .bool t) (h : wpN P (if t then x else y) Q a w) : wpN P (.cond c x y) Q a w :=
  fun b hb k cs => let ⟨e, a', w', q, r⟩ := h b hb k cs; ⟨e, a', w', q, .of_steps (.one (step_cond hc)) r⟩
theorem wpN_block {id : Nat} {c : Code} (h : wpN P c (Exit.inBlock id Q) a w) : wpN P (.block id c) Q a w := by
  intro b hb k cs
  obtain ⟨e, a1, w1, hq, harr⟩ := h b hb (.inBlock id :: k) cs
  cases e with
  | normal => exact ⟨.normal, a1, w1, hq, .head step_block (Steps.trans harr (.one step_inBlock))⟩
  | exit id' =>
    by_cases hid : id' = id
    · simp only [Exit.inBlock, hid, if_true] at hq
      exact ⟨.normal, a1, w1, hq, .head step_block (harr k (by simp [exitTo, hid]))⟩
    · simp only [Exit.inBlock, hid, if_false] at hq
      refine ⟨.exit id', a1, w1, hq, fun k' hk => .head step_block (harr k' ?_)⟩
      have : (id == id') = false := by simp; exact fun h => hid h.symm
      simp [exitTo, this, hk]
  | goto l => exact ⟨_, a1, w1, hq, fun k' hk => .head step_block (harr k' (by simp [gotoIn, hk]))⟩
  | ret => exact ⟨_, a1, w1, hq, .of_steps (.one step_block) harr⟩
  | panic ch => exact ⟨_, a1, w1, hq, .of_steps (.one step_block) harr⟩
  | outgrown => exact ⟨_, a1, w1, hq, .of_steps (b := b) (k := k) (cs := cs) (e := .outgrown) (.one step_block) harr⟩
theorem wpN_loop {c : Code} (I : Nat → Act → World → Prop) (n : Nat) (h0 : I n a w)
    (round : ∀ n a w, I n a w → ∀ K : Act → World → Prop, (∀ m a w, m < n → I m a w → K a w) → wpN P c (Exit.then K Q) a w) : wpN P (.loop c) Q a w := by
  intro b hb k cs
  have key : ∀ n a w, I n a w → ∃ e a' w', Q e a' w' ∧ Arrives P (lone (b.at a (.code c :: .inLoop c :: k)) cs w) b k cs e a' w' := by
    intro n
    induction n using Nat.strongRecOn with
    | _ n ih =>
      intro a w hI
      obtain ⟨e, a1, w1, hq, harr⟩ := round n a w hI (fun a w => ∃ m, m < n ∧ I m a w) (fun m _ _ h1 h2 => ⟨m, h1, h2⟩) b hb (.inLoop c :: k) cs
      cases e with
      | normal =>
        obtain ⟨m, hm, hI1⟩ := hq
        obtain ⟨e2, a2, w2, hq2, harr2⟩ := ih m hm a1 w1 hI1
        exact ⟨e2, a2, w2, hq2, .of_steps (Steps.trans harr (.one step_inLoop)) harr2⟩
      | exit id => exact ⟨_, a1, w1, hq, .pass (x := .inLoop c) rfl (fun _ _ => .inl (by simp)) harr⟩
      | goto l => exact ⟨_, a1, w1, hq, .pass (x := .inLoop c) rfl (fun _ _ => .inl (by simp)) harr⟩
      | ret => exact ⟨_, a1, w1, hq, .pass (x := .inLoop c) rfl (fun _ _ => .inl (by simp)) harr⟩
      | panic ch => exact ⟨_, a1, w1, hq, .pass (x := .inLoop c) rfl (fun _ _ => .inl (by simp)) harr⟩
      | outgrown => exact ⟨_, a1, w1, hq, .pass (x := .inLoop c) rfl (fun _ _ => .inl (by simp)) harr⟩
  obtain ⟨e, a', w', hq, harr⟩ := key n a w h0
  exact ⟨e, a', w', hq, .of_steps (.one step_loop) harr⟩
theorem calls_of_wpN {f : FuncId} {fn : Func} {c : Code} {args : Array Value} {R : Ending → World → Prop} (hf : P.funcs[f]? = some fn) (hb : fn.body = some c)
    (h : wpN P c (bodyPost P fn R) { tmps := args ++ Array.replicate (fn.ntmps - args.size) undef, defers := [] } w) : Calls P f args w R := by
  intro cs
  let b : Frame := { (default : Frame) with fn := f, kind := .normal }
  have hbk : b.kind = .normal := rfl
  have henter : Frame.enter P f args .normal = b.at { tmps := args ++ Array.replicate (fn.ntmps - args.size) undef, defers := [] } [.code c] := by
    simp [Frame.enter, Frame.at, hf, hb, b]
  obtain ⟨e, a', w', hq, harr⟩ := h b hbk [] cs
  rw [← henter] at harr
  cases e with
  | normal =>
    obtain ⟨hd, v, hr, hR⟩ := hq
    exact ⟨.returned v, w', _, hR, Steps.trans harr (.one step_end), rfl, rfl, hd, rfl, fn, hf, hr⟩
  | ret =>
    obtain ⟨hd, v, hr, hR⟩ := hq
    obtain ⟨todo, hs⟩ := harr
    exact ⟨.returned v, w', _, hR, hs, rfl, rfl, hd, rfl, fn, hf, hr⟩
  | panic chain =>
    obtain ⟨hd, hR⟩ := hq
    obtain ⟨todo, hs⟩ := harr
    exact ⟨.panicked chain, w', _, hR, hs, rfl, rfl, hd, fn, hf⟩
  | exit id => exact hq.elim
  | goto l => exact hq.elim
  | outgrown => exact ⟨.outgrown, w', b, hq, harr.resolve_left (by simp [b]), rfl, trivial⟩
theorem wpN_region {id : Nat} {ops : Array Oper} (h : opsN P ops Q (List.range ops.size) a w) : wpN P (.region id ops false) Q a w :=
  fun b hb k cs => let ⟨e, a', w', q, r⟩ := h b hb k cs; ⟨e, a', w', q, .of_steps (.one step_region) r⟩
section
variable {ops : Array Oper} {i : Nat} {rest : List Nat} {o : Oper}
theorem opsN_nil (h : Q .normal a w) : opsN P ops Q [] a w := fun b _ k cs => ⟨.normal, a, w, h, .one step_region_end⟩
theorem opsN_value {v : Value} {w' : World} (ho : ops[i]? = some o) (hw : Region.wanted o (yielded ops a.tmps) = true) (hr : (execOp a.eval o).run P w = .ok (.value v) w') (h : opsN P ops Q rest (a.put o.dst v) w') : opsN P ops Q (i :: rest) a w := by
  intro b hb k cs
  obtain ⟨e, a', w2, hq, harr⟩ := h b hb k cs
  refine ⟨e, a', w2, hq, .of_steps (.one (step_lone_go ?_)) harr⟩
  have hfin : (b.at a (.inRegion ops (i :: rest) :: k)).finish v = b.at (a.put o.dst v) (.inRegion ops rest :: k) := by rw [Frame.finish_at, ho]; rfl
  rw [stepG_op ho hw, ← hfin]; simp [stepG.apply, hr]
theorem opsN_send {c cap s r : Nat} {buf : Array Value} {v z : Value} {tm : Bool} (ho : ops[i]? = some o) (hw : Region.wanted o (yielded ops a.tmps) = true) (hr : (execOp a.eval o).run P w = .ok (.comm #[scase c v z] true .send) w)
    (hc : w.heap[c]? = some (.chan cap buf false s r tm)) (hroom : buf.size < cap) (h : opsN P ops Q rest (a.put o.dst undef) (w.setChan c cap (buf.push v) false (s + 1) r tm)) : opsN P ops Q (i :: rest) a w := by
  intro b hb k cs
  obtain ⟨e, a', w2, hq, harr⟩ := h b hb k cs
  have hs := step_lone_send_room (fr := b.at a (.inRegion ops (i :: rest) :: k)) (cs := cs) (stepG_comm (main := true) ho hw (by rw [hb]; simp) hr) hc hroom
  rw [Frame.finish_at, ho] at hs
  exact ⟨e, a', w2, hq, .of_steps (.one hs) harr⟩
theorem opsN_recv {c cap s r : Nat} {buf : Array Value} {z : Value} {tm closed : Bool} (ho : ops[i]? = some o) (hw : Region.wanted o (yielded ops a.tmps) = true) (hr : (execOp a.eval o).run P w = .ok (.comm #[rcase c z] true (.recv false)) w)
    (hc : w.heap[c]? = some (.chan cap buf closed s r tm)) (hsome : 0 < buf.size) (h : opsN P ops Q rest (a.put o.dst (buf.getD 0 undef)) (w.setChan c cap (buf.extract 1 buf.size) closed s (r + 1) tm)) : opsN P ops Q (i :: rest) a w := by
  intro b hb k cs
  obtain ⟨e, a', w2, hq, harr⟩ := h b hb k cs
  have hs := step_lone_recv_buf (fr := b.at a (.inRegion ops (i :: rest) :: k)) (cs := cs) false (stepG_comm (main := true) ho hw (by rw [hb]; simp) hr) hc hsome
  rw [Frame.finish_at, ho] at hs
  exact ⟨e, a', w2, hq, .of_steps (.one hs) harr⟩
end
end
end Go.Proofs.Ytkomgjkeikaigaa
