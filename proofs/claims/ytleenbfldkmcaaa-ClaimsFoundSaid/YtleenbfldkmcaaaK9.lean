/- Proved: what the enumeration of beacons that were heard lately does with a round that says when it has enough. Conditions: what was heard lies in memory, and the rounds leave it there. -/
import Derived.Test.YtleenbfldkmcaaaK7
import Derived.Sort.CutIn
namespace Go.Proofs.Ytleenbfldkmcaaa
open Go.RowKit Go.Sort Go.BigFrame
set_option linter.unusedVariables false
set_option linter.unusedSimpArgs false
attribute [local go_sem] cell_alloc_old Oper.semAt_some

/-! ### stores of what was heard, and of a beacon, taken whole, into new blocks -/
@[irreducible] def store61 (a v : Value) : Sem Unit := Instr.storeAt 61 a v
@[irreducible] def store59 (a v : Value) : Sem Unit := Instr.storeAt 59 a v
theorem exec_store61 (ρ : Operand → Value) (dst : Option Tmp) (a x : Operand) (ty : TypeId) (pos : String) (after : Array Edge) (guard : Option (Nat × Bool)) :
    execOp ρ { dst, op := .store 61 a x, type := ty, pos, after, guard } = (do store61 (ρ a) (ρ x); pure .skip) := by unfold store61; rfl
theorem exec_store59 (ρ : Operand → Value) (dst : Option Tmp) (a x : Operand) (ty : TypeId) (pos : String) (after : Array Edge) (guard : Option (Nat × Bool)) :
    execOp ρ { dst, op := .store 59 a x, type := ty, pos, after, guard } = (do store59 (ρ a) (ρ x); pure .skip) := by unfold store59; rfl
abbrev Z61 : Array Value := #[.int .i64 0, .int .i64 0, .int .i64 0, .int .i64 0, .int .i64 0, .int .i64 0, .int .i64 0, .int .i64 0, .int .i64 0, .int .i64 0, .int .i64 0, .int .i64 0, .slice none 0 0, .slice none 0 0, .slice none 0 0, .slice none 0 0, .bool false, .slice none 0 0, .slice none 0 0, .slice none 0 0, .int .i64 0, .int .i64 0, .int .u64 0, .int .i64 0, .int .i64 0, .int .i64 0, .int .i64 0, .int .i64 0, .slice none 0 0, .slice none 0 0, .bool false]
abbrev Z59 : Array Value := #[.int .i64 0, .int .i64 0, .int .i64 0, .int .i64 0, .int .i64 0, .int .i64 0, .int .i64 0, .int .i64 0, .int .i64 0, .int .i64 0, .int .i64 0, .slice none 0 0, .slice none 0 0, .slice none 0 0, .slice none 0 0, .bool false, .slice none 0 0, .slice none 0 0, .slice none 0 0, .int .i64 0, .int .i64 0, .int .u64 0, .int .i64 0, .int .i64 0, .int .i64 0, .int .i64 0, .int .i64 0, .slice none 0 0, .slice none 0 0, .bool false]
theorem below_setCells {B : Nat} {w0 : World} (b : Nat) (hb : B ≤ b) : ∀ (vs : List Value) (o : Nat) (w : World), Below B w0 w → Below B w0 (w.setCells b o vs)
  | [], _, _, h => h
  | v :: r, o, w, h => below_setCells b hb r (o + 1) _ (h.setCell (p := ⟨b, o, none⟩) hb v)
theorem size_setCells (b : Nat) : ∀ (vs : List Value) (o : Nat) (w : World), (w.setCells b o vs).heap.size = w.heap.size
  | [], _, _ => rfl
  | v :: r, o, w => by rw [World.setCells, size_setCells b r (o + 1)]; simp
/-- A new block, filled whole. -/
theorem new_filled (w : World) (zs cs : List Value) (t : TypeId) (hl : zs.length = cs.length) : CAt ((w.alloc (.cells zs.toArray t)).setCells w.heap.size 0 cs) w.heap.size cs ∧ Below w.heap.size w ((w.alloc (.cells zs.toArray t)).setCells w.heap.size 0 cs) ∧
    ((w.alloc (.cells zs.toArray t)).setCells w.heap.size 0 cs).heap.size = w.heap.size + 1 := by
  have T := CAt.new w zs t
  refine ⟨fun j v hj => ?_, below_setCells _ (Nat.le_refl _) _ _ _ (ball (Below.refl _ _) _), by rw [size_setCells]; simp⟩
  have hlt := (List.getElem?_eq_some_iff.1 hj).1
  have := World.cell?_setCells_in w.heap.size cs 0 (w.alloc (.cells zs.toArray t)) (fun j hj => by rw [Nat.zero_add, T j _ (List.getElem?_eq_getElem (by omega))]; rfl) j hlt
  rw [Nat.zero_add] at this
  rw [this, ← hj, List.getElem?_eq_getElem hlt]
theorem there_new (w : World) (zs : List Value) (t : TypeId) : (w.alloc (.cells zs.toArray t)).there w.heap.size 0 zs.length := fun j hj => by
  rw [Nat.zero_add, CAt.new w zs t j _ (List.getElem?_eq_getElem hj)]
  exact ⟨rfl, (Fz.new w zs.toArray t).1 j⟩
theorem run_new61 (w : World) (x : Nv) : ∃ V, (store61 (.pointer (some ⟨w.heap.size, 0, none⟩)) x.v).run Try.prog (w.alloc (.cells Z61 61)) = .ok () V ∧ CAt V w.heap.size x.cs ∧ Below w.heap.size w V ∧ V.heap.size = w.heap.size + 1 := by
  unfold store61
  exact ⟨_, run_storeAt_mid (P := Try.prog) (w.alloc (.cells Z61 61)) w.heap.size 0 61 x.cs.toArray (there_new w Z61.toList 61) (by kernel_rfl) (by simp [Value.oneCell']), new_filled w Z61.toList x.cs 61 rfl⟩
theorem run_new59 (w : World) (x : Nv) : ∃ V, (store59 (.pointer (some ⟨w.heap.size, 0, none⟩)) x.b).run Try.prog (w.alloc (.cells Z59 59)) = .ok () V ∧ CAt V w.heap.size x.bs ∧ Below w.heap.size w V ∧ V.heap.size = w.heap.size + 1 := by
  unfold store59
  exact ⟨_, run_storeAt_mid (P := Try.prog) (w.alloc (.cells Z59 59)) w.heap.size 0 59 x.bs.toArray (there_new w Z59.toList 59) (by kernel_rfl) (by simp [Value.oneCell']), new_filled w Z59.toList x.bs 59 rfl⟩
attribute [local go_sem ↓] exec_load61 exec_load59 exec_store61 exec_store59
/-- What is said of the blocks below B alone. -/
structure Stb (B : Nat) (J : World → Prop) : Prop where
  keep : ∀ W W', J W → Below B W W' → J W'
  size : ∀ W, J W → B ≤ W.heap.size
/-- A block holds this object. -/
def HeapAt (w : World) (l : Nat) (o : Obj) : Prop := w.heap[l]? = some o
/-- One round whose variable lies in a box of its own. -/
theorem round_boxed {P : Program} {m l : Nat} {rec : LoopState → Option Code → Loop} {fn : FuncId} {tmps : Array Value} {ps : Array Tmp} {assign body : Code} {D : Nat} (hrec : IsRec rec fn tmps ps assign body D)
    {args : Array Value} {W : World} {R : Ending → World → Prop} (h : W.heap[l]? = some (.loop (rec .ready none))) (hs : args.size = ps.size)
    (hb : assign.wpIn (Fence.wide.inRound l) m P (Exit.then (fun a₁ w₁ => HeapAt w₁ l (.loop (rec .ready none)) ∧ body.wpIn (Fence.wide.inRound l) m P (roundPost P l R) a₁ (w₁.putObj l (.loop (rec .busy none)))) (fun _ _ _ => False))
      { tmps := (ps.zip args).foldl (fun t (p, v) => t.setIfInBounds p v) tmps, defers := [] } W) :
    YieldAt Fence.wide m P l args W R := by
  unfold IsRec at hrec
  subst hrec
  refine ⟨_, _, _, _, run_yield h hs, roundIn_of_wpIn trivial ?_⟩
  refine wpIn_mono hb ?_
  rintro e a₁ w₁ hq
  cases e with
  | normal => obtain ⟨hl, hq⟩ := hq; exact ⟨_, run_beginRound hl rfl, hq⟩
  | _ => exact hq

theorem lately_any (a : Option Addr) (n cap : Nat) (fr : Int) (w : World) :
    Calls Try.prog 32 #[.slice a n cap, .int .i64 fr] w fun e w' => e = .returned (.func (.func 35) #[] #[.pointer (some ⟨w.heap.size, 0, none⟩), .pointer (some ⟨w.heap.size + 1, 0, none⟩)]) ∧ (w.alloc (.cells #[.slice a n cap] 27)).alloc (.cells #[.int .i64 fr] 3) = w' := by
  go_enter Try.func32, Try.ntmps32
  go_wp2
  go_ret
  exact ⟨rfl, rfl⟩

/-- What an enumeration of beacons leaves. -/
def LatePost (fr : Int) (N : List Nv) (bad : Nv → Bool) (J Jx : World → Prop) (e : Ending) (W' : World) : Prop := (∃ v, e = .returned v) ∧
  ((N.any (fun x => latB x.B.f fr && bad x) = true ∧ Jx W') ∨ (N.any (fun x => latB x.B.f fr && bad x) = false ∧ J W'))
set_option maxRecDepth 100000 in
set_option maxHeartbeats 4000000 in
theorem lately1 (m l bn bf B : Nat) (fr : Int) (N : List Nv) (n : Nat) (a : Option Addr) (cap : Nat) (hn : Hid (n = N.length)) (hm : n ≤ maxLen) (J Jx : World → Prop) (bad : Nv → Bool) (hJ : Hid (Stb B J))
    (hM : Hid (∀ W, J W → W.cell? ⟨bn, 0, none⟩ = some (.slice a n cap) ∧ W.cell? ⟨bf, 0, none⟩ = some (.int .i64 fr) ∧ NsAt W a N))
    (hY : Hid (∀ x ∈ N, latB x.B.f fr = true → ∀ W, J W → x.ok W → YieldAt Fence.wide m Try.prog l #[x.b] W fun e W' => (bad x = true ∧ e = .returned (.bool false) ∧ Jx W') ∨ (bad x = false ∧ e = .returned (.bool true) ∧ J W')))
    (W : World) (hW : J W) :
    CallsIn Fence.wide (m + 1) Try.prog 35 #[.func (.yield l) #[] #[], .pointer (some ⟨bn, 0, none⟩), .pointer (some ⟨bf, 0, none⟩)] W (LatePost fr N bad J Jx) := by
  unfold maxLen at hm
  refine callsIn_of_wp Try.func35 rfl trivial ?_ rfl
  simp only [Try.ntmps35, List.size_toArray, List.length_cons, List.length_nil, Nat.reduceAdd, Nat.reduceSub, Array.replicate_succ, Array.replicate_zero, List.push_toArray, List.append_toArray, List.nil_append, List.cons_append]
  obtain ⟨c1, -, -⟩ := hM.out W hW
  gi_wp2_with fail
  clear c1
  gi_loopw [8] (fun i wr => ∃ k : Nat, k ≤ n ∧ i = .int .i64 k ∧ Hid ((N.take k).any (fun x => latB x.B.f fr && bad x) = false) ∧ Hid (J wr)) (fun i _ => n - (intOf i).toNat)
  case atStart => exact ⟨0, Nat.zero_le _, rfl, Lib.hid rfl, Lib.hid hW⟩
  case round =>
    clear hW
    obtain ⟨k, hk, rfl, hlk, hJw⟩ := hrel
    by_cases hlt : k < n
    · have hlt' : (k : Int) < (n : Int) := by omega
      have hk0 : (0 : Int) ≤ (k : Int) := by omega
      obtain ⟨-, c2, hN⟩ := hM.out wr hJw.out
      obtain ⟨b, off, rfl, ho, hc⟩ := hN.at (Below.refl _ _) (i := k) (by rw [← hn.out]; exact hlt)
      have hsucc : (N.take (k + 1)).any (fun x => latB x.B.f fr && bad x) = (latB (N.getD k default).B.f fr && bad (N.getD k default)) := by rw [any_take_succ _ (by rw [← hn.out]; exact hlt), hlk.out, Bool.false_or]
      have hxm : N.getD k default ∈ N := getD_mem (by rw [← hn.out]; exact hlt)
      obtain ⟨x, hx⟩ : ∃ x, N.getD k default = x := ⟨_, rfl⟩
      rw [hx] at hc ho hsucc hxm
      have HS := Lib.hid hsucc
      have HO := Lib.hid ho
      have HX := Lib.hid hxm
      clear hsucc hx ho hxm hN
      have hld := run_load61 (o := off + k * 31) x hc
      clear hc
      obtain ⟨V, hst, Tx, BV, -⟩ := run_new61 wr x
      unfold Z61 at hst
      gi_upto_region 3 with (fail)
      clear hld hst
      obtain ⟨xb, hxb⟩ : ∃ xb, wr.heap.size = xb := ⟨_, rfl⟩
      rw [hxb] at Tx ⊢
      clear hxb
      have JV := hJ.out.keep wr _ hJw.out (BV.mono (hJ.out.size wr hJw.out))
      obtain ⟨-, c2, -⟩ := hM.out V JV
      have x0 := Tx 0 _ rfl
      have hld2 : (load59 (.pointer (some ⟨xb, 1, none⟩))).run Try.prog V = .ok x.b V :=
        run_load59 (o := 1) x (fun j v hj => by rw [Nat.add_comm]; exact Tx (j + 1) v hj)
      have HJV := Lib.hid JV; have HOV := Lib.hid (HO.out.keep BV)
      clear JV BV Tx
      obtain ⟨p, h1⟩ : ∃ p, (x.B.f == fr) = p := ⟨_, rfl⟩
      obtain ⟨q, h2⟩ : ∃ q, (x.B.f == wrap64 (fr - 1)) = q := ⟨_, rfl⟩
      have HL : Hid (latB x.B.f fr = (p || q)) := Lib.hid (by unfold latB; rw [h1, h2])
      have yes : (p || q) = true → YieldAt Fence.wide m Try.prog l #[x.b] V fun e W' => (bad x = true ∧ e = .returned (.bool false) ∧ Jx W') ∨ (bad x = false ∧ e = .returned (.bool true) ∧ J W') :=
        fun h => hY.out x HX.out (HL.out.trans h) _ HJV.out HOV.out
      cases p
      · cases q
        · clear yes
          gi_wp2_with fail
          refine ⟨fun _ h => (by cases h), ?_⟩
          gi_wp2_with fail
          go_roundw
          case rel => exact ⟨k + 1, by omega, by go_num, Lib.hid (by rw [HS.out, HL.out]; rfl), HJV⟩
          case measure => simp [intOf]; omega
        · obtain ⟨fn, tmps, assign, body, hyr, hR⟩ := yes rfl
          clear yes
          gi_wp2_with fail
          refine hR.mono ?_
          rintro e W' (⟨hbad, rfl, hx⟩ | ⟨hbad, rfl, hj⟩)
          · have HBD := Lib.hid hbad
            clear hbad
            gi_wp2_with fail
            refine bodyPost_ret (results_none rfl _ _ _) rfl ?_
            exact ⟨⟨_, rfl⟩, .inl ⟨any_of_take (k := k + 1) (by rw [HS.out, HL.out, HBD.out]; rfl), hx⟩⟩
          · have HBD := Lib.hid hbad
            have HJ' := Lib.hid hj
            clear hbad hj
            gi_wp2_with fail
            go_roundw
            case rel => exact ⟨k + 1, by omega, by go_num, Lib.hid (by rw [HS.out, HBD.out, Bool.and_false]), HJ'⟩
            case measure => simp [intOf]; omega
      · obtain ⟨fn, tmps, assign, body, hyr, hR⟩ := yes rfl
        clear yes
        gi_wp2_with fail
        refine hR.mono ?_
        rintro e W' (⟨hbad, rfl, hx⟩ | ⟨hbad, rfl, hj⟩)
        · have HBD := Lib.hid hbad
          clear hbad
          gi_wp2_with fail
          refine bodyPost_ret (results_none rfl _ _ _) rfl ?_
          exact ⟨⟨_, rfl⟩, .inl ⟨any_of_take (k := k + 1) (by rw [HS.out, HL.out, HBD.out]; rfl), hx⟩⟩
        · have HBD := Lib.hid hbad
          have HJ' := Lib.hid hj
          clear hbad hj
          gi_wp2_with fail
          go_roundw
          case rel => exact ⟨k + 1, by omega, by go_num, Lib.hid (by rw [HS.out, HBD.out, Bool.and_false]), HJ'⟩
          case measure => simp [intOf]; omega
    · obtain rfl : n = k := by omega
      have hlt' : ¬ (n : Int) < (n : Int) := by omega
      gi_wp2_with fail
      go_end0
      exact ⟨⟨_, rfl⟩, .inr ⟨by rw [← any_len hn.out]; exact hlk.out, hJw.out⟩⟩
end Go.Proofs.Ytleenbfldkmcaaa
