/-
  No cell of these rows narrows 'for every input' (looked for: loops, veiled, ifaces, maps, wideKeys, modest, calm, conditions, laid).
  DERIVED. THE GIVEN ROWS OF THIS SEAT. 7 by the template 'for every input the law returns true; each argument reads behind the call as it read before'; 0 by the template 'total and deterministic' (their statements: YtckcijoadbbdaaaTotals.lean).
  GIVEN WITH THE SEED: the statements are not yours to turn. If you find one false, say at which input.
  Laid BY PROGRAM, IN A SANDBOX (cutbox-rows.mjs): the forced cells as the released guide's own fill.sh prints them over the translation 1732527b511b28bc… (all of the seat's roots in one cut). By AI agents, Wed Nov 11 2026. No macro, syntax, notation, axiom, sorry.
-/
import Derived.Test.YtckcijoadbbdaaaChecked
import GoSem.Claim
import GoSem.ClaimJoined
import GoSem.ClaimMapViews
import Derived.JoinedTies
import Derived.KernelRfl
namespace Go.Proofs.Ytckcijoadbbdaaa
/- THE CELL 'sum', in the pinned program and in every row, IS THE sha256 OF THE DUMP (.gsa) THAT YtckcijoadbbdaaaProg.lean LOADS. Nothing in Lean hashes anything: it is a label: what it is worth is what the hold of that sum in a sandbox is worth. -/
noncomputable def Try.pinned : Pinned := { name := "ytckcijoadbbdaaa", sum := "1732527b511b28bcf4a03a02cff67ed75c4bedb561a9f2d4046e29089479d07d", checked := Try.checked }
namespace Rows
def none {H : Type} : Left H := { results := [], args := [] }

/-- 'slotmeshlaw32.KeyringMatchesReference': WHATEVER THE INPUT: true; the input reads as it did. -/
def keyringMatchesReferenceSpec : ChangeSpec := { name := "keyringMatchesReference", fn := fun _ => fun
  | [d1, d2, d3, d4] => { results := [.lit (.bool true)], args := [d1, d2, d3, d4] }
  | _ => none }
def keyringMatchesReferenceRow : OpenClaim := { program := "ytckcijoadbbdaaa", sum := "1732527b511b28bcf4a03a02cff67ed75c4bedb561a9f2d4046e29089479d07d", func := "slotmesh/slotmeshlaw32.KeyringMatchesReference", spec := "keyringMatchesReference", apart := false }
def KeyringMatchesReferenceSaid : Prop := keyringMatchesReferenceRow.holds Try.pinned (OpenSpec.ofChange keyringMatchesReferenceSpec)

/-- ITS FALSE NEIGHBOUR: 'it returns false'. Refute it at one input. -/
def keyringMatchesReferenceWrong : ChangeSpec := { name := "keyringMatchesReference", fn := fun _ => fun
  | [d1, d2, d3, d4] => { results := [.lit (.bool false)], args := [d1, d2, d3, d4] }
  | _ => none }
def KeyringMatchesReferenceWrongFalsely : Prop := keyringMatchesReferenceRow.holds Try.pinned (OpenSpec.ofChange keyringMatchesReferenceWrong)

/-- 'slotmeshlaw32.KeyringEpochs': WHATEVER THE INPUT: true; the input reads as it did. -/
def keyringEpochsSpec : ChangeSpec := { name := "keyringEpochs", fn := fun _ => fun
  | [d1, d2] => { results := [.lit (.bool true)], args := [d1, d2] }
  | _ => none }
def keyringEpochsRow : OpenClaim := { program := "ytckcijoadbbdaaa", sum := "1732527b511b28bcf4a03a02cff67ed75c4bedb561a9f2d4046e29089479d07d", func := "slotmesh/slotmeshlaw32.KeyringEpochs", spec := "keyringEpochs", apart := false }
def KeyringEpochsSaid : Prop := keyringEpochsRow.holds Try.pinned (OpenSpec.ofChange keyringEpochsSpec)

/-- ITS FALSE NEIGHBOUR: 'it returns false'. Refute it at one input. -/
def keyringEpochsWrong : ChangeSpec := { name := "keyringEpochs", fn := fun _ => fun
  | [d1, d2] => { results := [.lit (.bool false)], args := [d1, d2] }
  | _ => none }
def KeyringEpochsWrongFalsely : Prop := keyringEpochsRow.holds Try.pinned (OpenSpec.ofChange keyringEpochsWrong)

/-- 'slotmeshlaw32.KeyringRoot': WHATEVER THE INPUT: true; the input reads as it did. -/
def keyringRootSpec : ChangeSpec := { name := "keyringRoot", fn := fun _ => fun
  | [d1, d2] => { results := [.lit (.bool true)], args := [d1, d2] }
  | _ => none }
def keyringRootRow : OpenClaim := { program := "ytckcijoadbbdaaa", sum := "1732527b511b28bcf4a03a02cff67ed75c4bedb561a9f2d4046e29089479d07d", func := "slotmesh/slotmeshlaw32.KeyringRoot", spec := "keyringRoot", apart := false }
def KeyringRootSaid : Prop := keyringRootRow.holds Try.pinned (OpenSpec.ofChange keyringRootSpec)

/-- ITS FALSE NEIGHBOUR: 'it returns false'. Refute it at one input. -/
def keyringRootWrong : ChangeSpec := { name := "keyringRoot", fn := fun _ => fun
  | [d1, d2] => { results := [.lit (.bool false)], args := [d1, d2] }
  | _ => none }
def KeyringRootWrongFalsely : Prop := keyringRootRow.holds Try.pinned (OpenSpec.ofChange keyringRootWrong)

/-- 'slotmeshlaw32.KeyringLearning': WHATEVER THE INPUT: true; the input reads as it did. -/
def keyringLearningSpec : ChangeSpec := { name := "keyringLearning", fn := fun _ => fun
  | [d1, d2, d3, d4] => { results := [.lit (.bool true)], args := [d1, d2, d3, d4] }
  | _ => none }
def keyringLearningRow : OpenClaim := { program := "ytckcijoadbbdaaa", sum := "1732527b511b28bcf4a03a02cff67ed75c4bedb561a9f2d4046e29089479d07d", func := "slotmesh/slotmeshlaw32.KeyringLearning", spec := "keyringLearning", apart := false }
def KeyringLearningSaid : Prop := keyringLearningRow.holds Try.pinned (OpenSpec.ofChange keyringLearningSpec)

/-- ITS FALSE NEIGHBOUR: 'it returns false'. Refute it at one input. -/
def keyringLearningWrong : ChangeSpec := { name := "keyringLearning", fn := fun _ => fun
  | [d1, d2, d3, d4] => { results := [.lit (.bool false)], args := [d1, d2, d3, d4] }
  | _ => none }
def KeyringLearningWrongFalsely : Prop := keyringLearningRow.holds Try.pinned (OpenSpec.ofChange keyringLearningWrong)

/-- 'slotmeshlaw32.KeyringOrder': WHATEVER THE INPUT: true; the input reads as it did. -/
def keyringOrderSpec : ChangeSpec := { name := "keyringOrder", fn := fun _ => fun
  | [d1, d2, d3] => { results := [.lit (.bool true)], args := [d1, d2, d3] }
  | _ => none }
def keyringOrderRow : OpenClaim := { program := "ytckcijoadbbdaaa", sum := "1732527b511b28bcf4a03a02cff67ed75c4bedb561a9f2d4046e29089479d07d", func := "slotmesh/slotmeshlaw32.KeyringOrder", spec := "keyringOrder", unfollowed := true, recurses := true, apart := false }
def KeyringOrderSaid : Prop := keyringOrderRow.holds Try.pinned (OpenSpec.ofChange keyringOrderSpec)

/-- ITS FALSE NEIGHBOUR: 'it returns false'. Refute it at one input. -/
def keyringOrderWrong : ChangeSpec := { name := "keyringOrder", fn := fun _ => fun
  | [d1, d2, d3] => { results := [.lit (.bool false)], args := [d1, d2, d3] }
  | _ => none }
def KeyringOrderWrongFalsely : Prop := keyringOrderRow.holds Try.pinned (OpenSpec.ofChange keyringOrderWrong)

/-- 'slotmeshlaw32.KeyringAging': WHATEVER THE INPUT: true; the input reads as it did. -/
def keyringAgingSpec : ChangeSpec := { name := "keyringAging", fn := fun _ => fun
  | [d1, d2, d3, d4] => { results := [.lit (.bool true)], args := [d1, d2, d3, d4] }
  | _ => none }
def keyringAgingRow : OpenClaim := { program := "ytckcijoadbbdaaa", sum := "1732527b511b28bcf4a03a02cff67ed75c4bedb561a9f2d4046e29089479d07d", func := "slotmesh/slotmeshlaw32.KeyringAging", spec := "keyringAging", apart := false }
def KeyringAgingSaid : Prop := keyringAgingRow.holds Try.pinned (OpenSpec.ofChange keyringAgingSpec)

/-- ITS FALSE NEIGHBOUR: 'it returns false'. Refute it at one input. -/
def keyringAgingWrong : ChangeSpec := { name := "keyringAging", fn := fun _ => fun
  | [d1, d2, d3, d4] => { results := [.lit (.bool false)], args := [d1, d2, d3, d4] }
  | _ => none }
def KeyringAgingWrongFalsely : Prop := keyringAgingRow.holds Try.pinned (OpenSpec.ofChange keyringAgingWrong)

/-- 'slotmeshlaw32.KeyringStep': WHATEVER THE INPUT: true; the input reads as it did. -/
def keyringStepSpec : ChangeSpec := { name := "keyringStep", fn := fun _ => fun
  | [d1, d2, d3] => { results := [.lit (.bool true)], args := [d1, d2, d3] }
  | _ => none }
def keyringStepRow : OpenClaim := { program := "ytckcijoadbbdaaa", sum := "1732527b511b28bcf4a03a02cff67ed75c4bedb561a9f2d4046e29089479d07d", func := "slotmesh/slotmeshlaw32.KeyringStep", spec := "keyringStep", apart := false }
def KeyringStepSaid : Prop := keyringStepRow.holds Try.pinned (OpenSpec.ofChange keyringStepSpec)

/-- ITS FALSE NEIGHBOUR: 'it returns false'. Refute it at one input. -/
def keyringStepWrong : ChangeSpec := { name := "keyringStep", fn := fun _ => fun
  | [d1, d2, d3] => { results := [.lit (.bool false)], args := [d1, d2, d3] }
  | _ => none }
def KeyringStepWrongFalsely : Prop := keyringStepRow.holds Try.pinned (OpenSpec.ofChange keyringStepWrong)

/- THE SECOND FORM. 'bulk': how many values and letters a reading holds, each counted each time it is reached (what is shared counts as often as it is met; a slice's spare places count too). A statement '..UptoSaid' is the law's where the arguments, and the package variables that the reading takes, are together of bulk at most 1048576: NARROWER than '..Said'. Prove '..Said' where nothing that the law and all that it calls make is longer than what came in: it says more and counts as full. Else prove '..UptoSaid'. A law counts once. -/
mutual
def uptoBulk {H : Type} : DataW H → Nat
  | .lit (.string bytes) => bytes.length + 1
  | .lit _ => 1
  | .nil => 1
  | .ptr d => uptoBulk d + 1
  | .slice elems spare => uptoBulkAll elems + uptoBulkAll spare + 1
  | .agg parts => uptoBulkAll parts + 1
  | .iface _ d => uptoBulk d + 1
  | .map entries => uptoBulkEntries entries + 1
  | .held _ => 1
def uptoBulkAll {H : Type} : List (DataW H) → Nat
  | [] => 0
  | d :: r => uptoBulk d + uptoBulkAll r
def uptoBulkEntries {H : Type} : List (Lit × DataW H) → Nat
  | [] => 0
  | x :: r => uptoBulkEntry x + uptoBulkEntries r
def uptoBulkEntry {H : Type} : Lit × DataW H → Nat
  | (.string bytes, d) => bytes.length + uptoBulk d + 1
  | (_, d) => uptoBulk d + 1
 end
def uptoSmall : (H : Type) → List (DataW H) → Bool := fun _ ds => decide (uptoBulkAll ds ≤ 1048576)
def OpenSpec.upto (s : _root_.Go.ChangeSpec) : _root_.Go.OpenSpec := { _root_.Go.OpenSpec.ofChange s with cond := some uptoSmall }

/-- 'slotmeshlaw32.KeyringMatchesReference', WHERE WHAT IT READS IS OF BULK AT MOST 1048576: true; the input reads as it did. -/
def keyringMatchesReferenceUptoRow : OpenClaim := { program := "ytckcijoadbbdaaa", sum := "1732527b511b28bcf4a03a02cff67ed75c4bedb561a9f2d4046e29089479d07d", func := "slotmesh/slotmeshlaw32.KeyringMatchesReference", spec := "keyringMatchesReference", apart := false, narrowed := true }
def KeyringMatchesReferenceUptoSaid : Prop := keyringMatchesReferenceUptoRow.holds Try.pinned (OpenSpec.upto keyringMatchesReferenceSpec)

/-- 'slotmeshlaw32.KeyringEpochs', WHERE WHAT IT READS IS OF BULK AT MOST 1048576: true; the input reads as it did. -/
def keyringEpochsUptoRow : OpenClaim := { program := "ytckcijoadbbdaaa", sum := "1732527b511b28bcf4a03a02cff67ed75c4bedb561a9f2d4046e29089479d07d", func := "slotmesh/slotmeshlaw32.KeyringEpochs", spec := "keyringEpochs", apart := false, narrowed := true }
def KeyringEpochsUptoSaid : Prop := keyringEpochsUptoRow.holds Try.pinned (OpenSpec.upto keyringEpochsSpec)

/-- 'slotmeshlaw32.KeyringRoot', WHERE WHAT IT READS IS OF BULK AT MOST 1048576: true; the input reads as it did. -/
def keyringRootUptoRow : OpenClaim := { program := "ytckcijoadbbdaaa", sum := "1732527b511b28bcf4a03a02cff67ed75c4bedb561a9f2d4046e29089479d07d", func := "slotmesh/slotmeshlaw32.KeyringRoot", spec := "keyringRoot", apart := false, narrowed := true }
def KeyringRootUptoSaid : Prop := keyringRootUptoRow.holds Try.pinned (OpenSpec.upto keyringRootSpec)

/-- 'slotmeshlaw32.KeyringLearning', WHERE WHAT IT READS IS OF BULK AT MOST 1048576: true; the input reads as it did. -/
def keyringLearningUptoRow : OpenClaim := { program := "ytckcijoadbbdaaa", sum := "1732527b511b28bcf4a03a02cff67ed75c4bedb561a9f2d4046e29089479d07d", func := "slotmesh/slotmeshlaw32.KeyringLearning", spec := "keyringLearning", apart := false, narrowed := true }
def KeyringLearningUptoSaid : Prop := keyringLearningUptoRow.holds Try.pinned (OpenSpec.upto keyringLearningSpec)

/-- 'slotmeshlaw32.KeyringOrder', WHERE WHAT IT READS IS OF BULK AT MOST 1048576: true; the input reads as it did. -/
def keyringOrderUptoRow : OpenClaim := { program := "ytckcijoadbbdaaa", sum := "1732527b511b28bcf4a03a02cff67ed75c4bedb561a9f2d4046e29089479d07d", func := "slotmesh/slotmeshlaw32.KeyringOrder", spec := "keyringOrder", unfollowed := true, recurses := true, apart := false, narrowed := true }
def KeyringOrderUptoSaid : Prop := keyringOrderUptoRow.holds Try.pinned (OpenSpec.upto keyringOrderSpec)

/-- 'slotmeshlaw32.KeyringAging', WHERE WHAT IT READS IS OF BULK AT MOST 1048576: true; the input reads as it did. -/
def keyringAgingUptoRow : OpenClaim := { program := "ytckcijoadbbdaaa", sum := "1732527b511b28bcf4a03a02cff67ed75c4bedb561a9f2d4046e29089479d07d", func := "slotmesh/slotmeshlaw32.KeyringAging", spec := "keyringAging", apart := false, narrowed := true }
def KeyringAgingUptoSaid : Prop := keyringAgingUptoRow.holds Try.pinned (OpenSpec.upto keyringAgingSpec)

/-- 'slotmeshlaw32.KeyringStep', WHERE WHAT IT READS IS OF BULK AT MOST 1048576: true; the input reads as it did. -/
def keyringStepUptoRow : OpenClaim := { program := "ytckcijoadbbdaaa", sum := "1732527b511b28bcf4a03a02cff67ed75c4bedb561a9f2d4046e29089479d07d", func := "slotmesh/slotmeshlaw32.KeyringStep", spec := "keyringStep", apart := false, narrowed := true }
def KeyringStepUptoSaid : Prop := keyringStepUptoRow.holds Try.pinned (OpenSpec.upto keyringStepSpec)

end Rows
end Go.Proofs.Ytckcijoadbbdaaa
