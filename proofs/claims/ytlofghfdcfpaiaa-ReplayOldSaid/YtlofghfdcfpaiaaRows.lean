/-
  No cell of these rows narrows 'for every input' (looked for: loops, veiled, ifaces, maps, wideKeys, modest, calm, conditions, laid).
  DERIVED. THE GIVEN ROWS OF THIS SEAT. 6 by the template 'for every input the law returns true; each argument reads behind the call as it read before'; 0 by the template 'total and deterministic' (their statements: YtlofghfdcfpaiaaTotals.lean).
  GIVEN WITH THE SEED: the statements are not yours to turn. If you find one false, say at which input.
  Laid BY PROGRAM, IN A SANDBOX (cutbox-rows.mjs): the forced cells as the released guide's own fill.sh prints them over the translation ecb4df4a8a59aec3… (all of the seat's roots in one cut). By AI agents, Wed Nov 11 2026. No macro, syntax, notation, axiom, sorry.
-/
import Derived.Test.YtlofghfdcfpaiaaChecked
import GoSem.Claim
import GoSem.ClaimJoined
import GoSem.ClaimMapViews
import Derived.JoinedTies
import Derived.KernelRfl
namespace Go.Proofs.Ytlofghfdcfpaiaa
/- THE CELL 'sum', in the pinned program and in every row, IS THE sha256 OF THE DUMP (.gsa) THAT YtlofghfdcfpaiaaProg.lean LOADS. Nothing in Lean hashes anything: it is a label: what it is worth is what the hold of that sum in a sandbox is worth. -/
noncomputable def Try.pinned : Pinned := { name := "ytlofghfdcfpaiaa", sum := "ecb4df4a8a59aec38f8e7a06b49ff3a7c5c0dc9bc2e1723e7e8ed2637c49c153", checked := Try.checked }
namespace Rows
def none {H : Type} : Left H := { results := [], args := [] }

/-- 'slotmeshlaw29.ReplayMatchesReference': WHATEVER THE INPUT: true; the input reads as it did. -/
def replayMatchesReferenceSpec : ChangeSpec := { name := "replayMatchesReference", fn := fun _ => fun
  | [d1, d2] => { results := [.lit (.bool true)], args := [d1, d2] }
  | _ => none }
def replayMatchesReferenceRow : OpenClaim := { program := "ytlofghfdcfpaiaa", sum := "ecb4df4a8a59aec38f8e7a06b49ff3a7c5c0dc9bc2e1723e7e8ed2637c49c153", func := "slotmesh/slotmeshlaw29.ReplayMatchesReference", spec := "replayMatchesReference", unfollowed := true, recurses := true, apart := false }
def ReplayMatchesReferenceSaid : Prop := replayMatchesReferenceRow.holds Try.pinned (OpenSpec.ofChange replayMatchesReferenceSpec)

/-- ITS FALSE NEIGHBOUR: 'it returns false'. Refute it at one input. -/
def replayMatchesReferenceWrong : ChangeSpec := { name := "replayMatchesReference", fn := fun _ => fun
  | [d1, d2] => { results := [.lit (.bool false)], args := [d1, d2] }
  | _ => none }
def ReplayMatchesReferenceWrongFalsely : Prop := replayMatchesReferenceRow.holds Try.pinned (OpenSpec.ofChange replayMatchesReferenceWrong)

/-- 'slotmeshlaw29.ReplayOnce': WHATEVER THE INPUT: true; the input reads as it did. -/
def replayOnceSpec : ChangeSpec := { name := "replayOnce", fn := fun _ => fun
  | [d] => { results := [.lit (.bool true)], args := [d] }
  | _ => none }
def replayOnceRow : OpenClaim := { program := "ytlofghfdcfpaiaa", sum := "ecb4df4a8a59aec38f8e7a06b49ff3a7c5c0dc9bc2e1723e7e8ed2637c49c153", func := "slotmesh/slotmeshlaw29.ReplayOnce", spec := "replayOnce", unfollowed := true, recurses := true, apart := false }
def ReplayOnceSaid : Prop := replayOnceRow.holds Try.pinned (OpenSpec.ofChange replayOnceSpec)

/-- ITS FALSE NEIGHBOUR: 'it returns false'. Refute it at one input. -/
def replayOnceWrong : ChangeSpec := { name := "replayOnce", fn := fun _ => fun
  | [d] => { results := [.lit (.bool false)], args := [d] }
  | _ => none }
def ReplayOnceWrongFalsely : Prop := replayOnceRow.holds Try.pinned (OpenSpec.ofChange replayOnceWrong)

/-- 'slotmeshlaw29.ReplayOrder': WHATEVER THE INPUT: true; the input reads as it did. -/
def replayOrderSpec : ChangeSpec := { name := "replayOrder", fn := fun _ => fun
  | [d1, d2, d3] => { results := [.lit (.bool true)], args := [d1, d2, d3] }
  | _ => none }
def replayOrderRow : OpenClaim := { program := "ytlofghfdcfpaiaa", sum := "ecb4df4a8a59aec38f8e7a06b49ff3a7c5c0dc9bc2e1723e7e8ed2637c49c153", func := "slotmesh/slotmeshlaw29.ReplayOrder", spec := "replayOrder", unfollowed := true, recurses := true, apart := false }
def ReplayOrderSaid : Prop := replayOrderRow.holds Try.pinned (OpenSpec.ofChange replayOrderSpec)

/-- ITS FALSE NEIGHBOUR: 'it returns false'. Refute it at one input. -/
def replayOrderWrong : ChangeSpec := { name := "replayOrder", fn := fun _ => fun
  | [d1, d2, d3] => { results := [.lit (.bool false)], args := [d1, d2, d3] }
  | _ => none }
def ReplayOrderWrongFalsely : Prop := replayOrderRow.holds Try.pinned (OpenSpec.ofChange replayOrderWrong)

/-- 'slotmeshlaw29.ReplayMoving': WHATEVER THE INPUT: true; the input reads as it did. -/
def replayMovingSpec : ChangeSpec := { name := "replayMoving", fn := fun _ => fun
  | [d1, d2, d3] => { results := [.lit (.bool true)], args := [d1, d2, d3] }
  | _ => none }
def replayMovingRow : OpenClaim := { program := "ytlofghfdcfpaiaa", sum := "ecb4df4a8a59aec38f8e7a06b49ff3a7c5c0dc9bc2e1723e7e8ed2637c49c153", func := "slotmesh/slotmeshlaw29.ReplayMoving", spec := "replayMoving", unfollowed := true, recurses := true, apart := false }
def ReplayMovingSaid : Prop := replayMovingRow.holds Try.pinned (OpenSpec.ofChange replayMovingSpec)

/-- ITS FALSE NEIGHBOUR: 'it returns false'. Refute it at one input. -/
def replayMovingWrong : ChangeSpec := { name := "replayMoving", fn := fun _ => fun
  | [d1, d2, d3] => { results := [.lit (.bool false)], args := [d1, d2, d3] }
  | _ => none }
def ReplayMovingWrongFalsely : Prop := replayMovingRow.holds Try.pinned (OpenSpec.ofChange replayMovingWrong)

/-- 'slotmeshlaw29.ReplayJumps': WHATEVER THE INPUT: true; the input reads as it did. -/
def replayJumpsSpec : ChangeSpec := { name := "replayJumps", fn := fun _ => fun
  | [d1, d2] => { results := [.lit (.bool true)], args := [d1, d2] }
  | _ => none }
def replayJumpsRow : OpenClaim := { program := "ytlofghfdcfpaiaa", sum := "ecb4df4a8a59aec38f8e7a06b49ff3a7c5c0dc9bc2e1723e7e8ed2637c49c153", func := "slotmesh/slotmeshlaw29.ReplayJumps", spec := "replayJumps", unfollowed := true, recurses := true, apart := false }
def ReplayJumpsSaid : Prop := replayJumpsRow.holds Try.pinned (OpenSpec.ofChange replayJumpsSpec)

/-- ITS FALSE NEIGHBOUR: 'it returns false'. Refute it at one input. -/
def replayJumpsWrong : ChangeSpec := { name := "replayJumps", fn := fun _ => fun
  | [d1, d2] => { results := [.lit (.bool false)], args := [d1, d2] }
  | _ => none }
def ReplayJumpsWrongFalsely : Prop := replayJumpsRow.holds Try.pinned (OpenSpec.ofChange replayJumpsWrong)

/-- 'slotmeshlaw29.ReplayOld': WHATEVER THE INPUT: true; the input reads as it did. -/
def replayOldSpec : ChangeSpec := { name := "replayOld", fn := fun _ => fun
  | [d1, d2, d3] => { results := [.lit (.bool true)], args := [d1, d2, d3] }
  | _ => none }
def replayOldRow : OpenClaim := { program := "ytlofghfdcfpaiaa", sum := "ecb4df4a8a59aec38f8e7a06b49ff3a7c5c0dc9bc2e1723e7e8ed2637c49c153", func := "slotmesh/slotmeshlaw29.ReplayOld", spec := "replayOld", unfollowed := true, recurses := true, apart := false }
def ReplayOldSaid : Prop := replayOldRow.holds Try.pinned (OpenSpec.ofChange replayOldSpec)

/-- ITS FALSE NEIGHBOUR: 'it returns false'. Refute it at one input. -/
def replayOldWrong : ChangeSpec := { name := "replayOld", fn := fun _ => fun
  | [d1, d2, d3] => { results := [.lit (.bool false)], args := [d1, d2, d3] }
  | _ => none }
def ReplayOldWrongFalsely : Prop := replayOldRow.holds Try.pinned (OpenSpec.ofChange replayOldWrong)

/- THE SECOND FORM. 'bulk': how many values and letters a reading holds, each counted each time it is reached (what is shared counts as often as it is met; a slice's spare places count too). A statement '..UptoSaid' is the law's where the arguments, and the package variables that the reading takes, are together of bulk at most 1048576: NARROWER than '..Said'. Prove '..Said' where nothing that the law and all that it calls make is longer than what came in: it says more and counts as full. Else prove '..UptoSaid'. A law counts once. -/
mutual
def uptoBulk {H : Type} : DataW H → Nat
  | .lit (.string bytes) => bytes.length + 1
  | .lit _ => 1
  | .nil => 1
  | .ptr d => uptoBulk d + 1
  | .slice elems spare => uptoBulkAll elems + uptoBulkAll spare + 1
  | .agg parts => uptoBulkAll parts + 1
  | .iface _ d => uptoBulk d + 1
  | .map entries => uptoBulkEntries entries + 1
  | .held _ => 1
def uptoBulkAll {H : Type} : List (DataW H) → Nat
  | [] => 0
  | d :: r => uptoBulk d + uptoBulkAll r
def uptoBulkEntries {H : Type} : List (Lit × DataW H) → Nat
  | [] => 0
  | x :: r => uptoBulkEntry x + uptoBulkEntries r
def uptoBulkEntry {H : Type} : Lit × DataW H → Nat
  | (.string bytes, d) => bytes.length + uptoBulk d + 1
  | (_, d) => uptoBulk d + 1
 end
def uptoSmall : (H : Type) → List (DataW H) → Bool := fun _ ds => decide (uptoBulkAll ds ≤ 1048576)
def OpenSpec.upto (s : _root_.Go.ChangeSpec) : _root_.Go.OpenSpec := { _root_.Go.OpenSpec.ofChange s with cond := some uptoSmall }

/-- 'slotmeshlaw29.ReplayMatchesReference', WHERE WHAT IT READS IS OF BULK AT MOST 1048576: true; the input reads as it did. -/
def replayMatchesReferenceUptoRow : OpenClaim := { program := "ytlofghfdcfpaiaa", sum := "ecb4df4a8a59aec38f8e7a06b49ff3a7c5c0dc9bc2e1723e7e8ed2637c49c153", func := "slotmesh/slotmeshlaw29.ReplayMatchesReference", spec := "replayMatchesReference", unfollowed := true, recurses := true, apart := false, narrowed := true }
def ReplayMatchesReferenceUptoSaid : Prop := replayMatchesReferenceUptoRow.holds Try.pinned (OpenSpec.upto replayMatchesReferenceSpec)

/-- 'slotmeshlaw29.ReplayOnce', WHERE WHAT IT READS IS OF BULK AT MOST 1048576: true; the input reads as it did. -/
def replayOnceUptoRow : OpenClaim := { program := "ytlofghfdcfpaiaa", sum := "ecb4df4a8a59aec38f8e7a06b49ff3a7c5c0dc9bc2e1723e7e8ed2637c49c153", func := "slotmesh/slotmeshlaw29.ReplayOnce", spec := "replayOnce", unfollowed := true, recurses := true, apart := false, narrowed := true }
def ReplayOnceUptoSaid : Prop := replayOnceUptoRow.holds Try.pinned (OpenSpec.upto replayOnceSpec)

/-- 'slotmeshlaw29.ReplayOrder', WHERE WHAT IT READS IS OF BULK AT MOST 1048576: true; the input reads as it did. -/
def replayOrderUptoRow : OpenClaim := { program := "ytlofghfdcfpaiaa", sum := "ecb4df4a8a59aec38f8e7a06b49ff3a7c5c0dc9bc2e1723e7e8ed2637c49c153", func := "slotmesh/slotmeshlaw29.ReplayOrder", spec := "replayOrder", unfollowed := true, recurses := true, apart := false, narrowed := true }
def ReplayOrderUptoSaid : Prop := replayOrderUptoRow.holds Try.pinned (OpenSpec.upto replayOrderSpec)

/-- 'slotmeshlaw29.ReplayMoving', WHERE WHAT IT READS IS OF BULK AT MOST 1048576: true; the input reads as it did. -/
def replayMovingUptoRow : OpenClaim := { program := "ytlofghfdcfpaiaa", sum := "ecb4df4a8a59aec38f8e7a06b49ff3a7c5c0dc9bc2e1723e7e8ed2637c49c153", func := "slotmesh/slotmeshlaw29.ReplayMoving", spec := "replayMoving", unfollowed := true, recurses := true, apart := false, narrowed := true }
def ReplayMovingUptoSaid : Prop := replayMovingUptoRow.holds Try.pinned (OpenSpec.upto replayMovingSpec)

/-- 'slotmeshlaw29.ReplayJumps', WHERE WHAT IT READS IS OF BULK AT MOST 1048576: true; the input reads as it did. -/
def replayJumpsUptoRow : OpenClaim := { program := "ytlofghfdcfpaiaa", sum := "ecb4df4a8a59aec38f8e7a06b49ff3a7c5c0dc9bc2e1723e7e8ed2637c49c153", func := "slotmesh/slotmeshlaw29.ReplayJumps", spec := "replayJumps", unfollowed := true, recurses := true, apart := false, narrowed := true }
def ReplayJumpsUptoSaid : Prop := replayJumpsUptoRow.holds Try.pinned (OpenSpec.upto replayJumpsSpec)

/-- 'slotmeshlaw29.ReplayOld', WHERE WHAT IT READS IS OF BULK AT MOST 1048576: true; the input reads as it did. -/
def replayOldUptoRow : OpenClaim := { program := "ytlofghfdcfpaiaa", sum := "ecb4df4a8a59aec38f8e7a06b49ff3a7c5c0dc9bc2e1723e7e8ed2637c49c153", func := "slotmesh/slotmeshlaw29.ReplayOld", spec := "replayOld", unfollowed := true, recurses := true, apart := false, narrowed := true }
def ReplayOldUptoSaid : Prop := replayOldUptoRow.holds Try.pinned (OpenSpec.upto replayOldSpec)

end Rows
end Go.Proofs.Ytlofghfdcfpaiaa
