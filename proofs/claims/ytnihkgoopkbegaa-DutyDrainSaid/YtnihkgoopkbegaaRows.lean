/-
  No cell of these rows narrows 'for every input' (looked for: loops, veiled, ifaces, maps, wideKeys, modest, calm, conditions, laid).
  DERIVED. THE GIVEN ROWS OF THIS SEAT. 6 by the template 'for every input the law returns true; each argument reads behind the call as it read before'; 0 by the template 'total and deterministic' (their statements: YtnihkgoopkbegaaTotals.lean).
  GIVEN WITH THE SEED: the statements are not yours to turn. If you find one false, say at which input.
  Laid BY PROGRAM, IN A SANDBOX (cutbox-rows.mjs): the forced cells as the released guide's own fill.sh prints them over the translation 0246e5bb60d4ca3c… (all of the seat's roots in one cut). By AI agents, Wed Nov 11 2026. No macro, syntax, notation, axiom, sorry.
-/
import Derived.Test.YtnihkgoopkbegaaChecked
import GoSem.Claim
import GoSem.ClaimJoined
import GoSem.ClaimMapViews
import Derived.JoinedTies
import Derived.KernelRfl
namespace Go.Proofs.Ytnihkgoopkbegaa
/- THE CELL 'sum', in the pinned program and in every row, IS THE sha256 OF THE DUMP (.gsa) THAT YtnihkgoopkbegaaProg.lean LOADS. Nothing in Lean hashes anything: it is a label: what it is worth is what the hold of that sum in a sandbox is worth. -/
noncomputable def Try.pinned : Pinned := { name := "ytnihkgoopkbegaa", sum := "0246e5bb60d4ca3c84184e6453255e3f6e91d4382e731f2565be03612bae5323", checked := Try.checked }
namespace Rows
def none {H : Type} : Left H := { results := [], args := [] }

/-- 'slotmeshlaw15.DutyMatchesReference': WHATEVER THE INPUT: true; the input reads as it did. -/
def dutyMatchesReferenceSpec : ChangeSpec := { name := "dutyMatchesReference", fn := fun _ => fun
  | [d1, d2, d3, d4] => { results := [.lit (.bool true)], args := [d1, d2, d3, d4] }
  | _ => none }
def dutyMatchesReferenceRow : OpenClaim := { program := "ytnihkgoopkbegaa", sum := "0246e5bb60d4ca3c84184e6453255e3f6e91d4382e731f2565be03612bae5323", func := "slotmesh/slotmeshlaw15.DutyMatchesReference", spec := "dutyMatchesReference", unfollowed := true, recurses := true, apart := false }
def DutyMatchesReferenceSaid : Prop := dutyMatchesReferenceRow.holds Try.pinned (OpenSpec.ofChange dutyMatchesReferenceSpec)

/-- ITS FALSE NEIGHBOUR: 'it returns false'. Refute it at one input. -/
def dutyMatchesReferenceWrong : ChangeSpec := { name := "dutyMatchesReference", fn := fun _ => fun
  | [d1, d2, d3, d4] => { results := [.lit (.bool false)], args := [d1, d2, d3, d4] }
  | _ => none }
def DutyMatchesReferenceWrongFalsely : Prop := dutyMatchesReferenceRow.holds Try.pinned (OpenSpec.ofChange dutyMatchesReferenceWrong)

/-- 'slotmeshlaw15.DutyEnough': WHATEVER THE INPUT: true; the input reads as it did. -/
def dutyEnoughSpec : ChangeSpec := { name := "dutyEnough", fn := fun _ => fun
  | [d1, d2, d3] => { results := [.lit (.bool true)], args := [d1, d2, d3] }
  | _ => none }
def dutyEnoughRow : OpenClaim := { program := "ytnihkgoopkbegaa", sum := "0246e5bb60d4ca3c84184e6453255e3f6e91d4382e731f2565be03612bae5323", func := "slotmesh/slotmeshlaw15.DutyEnough", spec := "dutyEnough", unfollowed := true, recurses := true, apart := false }
def DutyEnoughSaid : Prop := dutyEnoughRow.holds Try.pinned (OpenSpec.ofChange dutyEnoughSpec)

/-- ITS FALSE NEIGHBOUR: 'it returns false'. Refute it at one input. -/
def dutyEnoughWrong : ChangeSpec := { name := "dutyEnough", fn := fun _ => fun
  | [d1, d2, d3] => { results := [.lit (.bool false)], args := [d1, d2, d3] }
  | _ => none }
def DutyEnoughWrongFalsely : Prop := dutyEnoughRow.holds Try.pinned (OpenSpec.ofChange dutyEnoughWrong)

/-- 'slotmeshlaw15.DutyNotBoth': WHATEVER THE INPUT: true; the input reads as it did. -/
def dutyNotBothSpec : ChangeSpec := { name := "dutyNotBoth", fn := fun _ => fun
  | [d1, d2, d3, d4] => { results := [.lit (.bool true)], args := [d1, d2, d3, d4] }
  | _ => none }
def dutyNotBothRow : OpenClaim := { program := "ytnihkgoopkbegaa", sum := "0246e5bb60d4ca3c84184e6453255e3f6e91d4382e731f2565be03612bae5323", func := "slotmesh/slotmeshlaw15.DutyNotBoth", spec := "dutyNotBoth", unfollowed := true, recurses := true, apart := false }
def DutyNotBothSaid : Prop := dutyNotBothRow.holds Try.pinned (OpenSpec.ofChange dutyNotBothSpec)

/-- ITS FALSE NEIGHBOUR: 'it returns false'. Refute it at one input. -/
def dutyNotBothWrong : ChangeSpec := { name := "dutyNotBoth", fn := fun _ => fun
  | [d1, d2, d3, d4] => { results := [.lit (.bool false)], args := [d1, d2, d3, d4] }
  | _ => none }
def DutyNotBothWrongFalsely : Prop := dutyNotBothRow.holds Try.pinned (OpenSpec.ofChange dutyNotBothWrong)

/-- 'slotmeshlaw15.DutyMore': WHATEVER THE INPUT: true; the input reads as it did. -/
def dutyMoreSpec : ChangeSpec := { name := "dutyMore", fn := fun _ => fun
  | [d1, d2, d3, d4, d5] => { results := [.lit (.bool true)], args := [d1, d2, d3, d4, d5] }
  | _ => none }
def dutyMoreRow : OpenClaim := { program := "ytnihkgoopkbegaa", sum := "0246e5bb60d4ca3c84184e6453255e3f6e91d4382e731f2565be03612bae5323", func := "slotmesh/slotmeshlaw15.DutyMore", spec := "dutyMore", unfollowed := true, recurses := true, apart := false }
def DutyMoreSaid : Prop := dutyMoreRow.holds Try.pinned (OpenSpec.ofChange dutyMoreSpec)

/-- ITS FALSE NEIGHBOUR: 'it returns false'. Refute it at one input. -/
def dutyMoreWrong : ChangeSpec := { name := "dutyMore", fn := fun _ => fun
  | [d1, d2, d3, d4, d5] => { results := [.lit (.bool false)], args := [d1, d2, d3, d4, d5] }
  | _ => none }
def DutyMoreWrongFalsely : Prop := dutyMoreRow.holds Try.pinned (OpenSpec.ofChange dutyMoreWrong)

/-- 'slotmeshlaw15.DutyBounds': WHATEVER THE INPUT: true; the input reads as it did. -/
def dutyBoundsSpec : ChangeSpec := { name := "dutyBounds", fn := fun _ => fun
  | [d1, d2, d3] => { results := [.lit (.bool true)], args := [d1, d2, d3] }
  | _ => none }
def dutyBoundsRow : OpenClaim := { program := "ytnihkgoopkbegaa", sum := "0246e5bb60d4ca3c84184e6453255e3f6e91d4382e731f2565be03612bae5323", func := "slotmesh/slotmeshlaw15.DutyBounds", spec := "dutyBounds", unfollowed := true, recurses := true, apart := false }
def DutyBoundsSaid : Prop := dutyBoundsRow.holds Try.pinned (OpenSpec.ofChange dutyBoundsSpec)

/-- ITS FALSE NEIGHBOUR: 'it returns false'. Refute it at one input. -/
def dutyBoundsWrong : ChangeSpec := { name := "dutyBounds", fn := fun _ => fun
  | [d1, d2, d3] => { results := [.lit (.bool false)], args := [d1, d2, d3] }
  | _ => none }
def DutyBoundsWrongFalsely : Prop := dutyBoundsRow.holds Try.pinned (OpenSpec.ofChange dutyBoundsWrong)

/-- 'slotmeshlaw15.DutyDrain': WHATEVER THE INPUT: true; the input reads as it did. -/
def dutyDrainSpec : ChangeSpec := { name := "dutyDrain", fn := fun _ => fun
  | [d] => { results := [.lit (.bool true)], args := [d] }
  | _ => none }
def dutyDrainRow : OpenClaim := { program := "ytnihkgoopkbegaa", sum := "0246e5bb60d4ca3c84184e6453255e3f6e91d4382e731f2565be03612bae5323", func := "slotmesh/slotmeshlaw15.DutyDrain", spec := "dutyDrain", unfollowed := true, recurses := true, apart := false }
def DutyDrainSaid : Prop := dutyDrainRow.holds Try.pinned (OpenSpec.ofChange dutyDrainSpec)

/-- ITS FALSE NEIGHBOUR: 'it returns false'. Refute it at one input. -/
def dutyDrainWrong : ChangeSpec := { name := "dutyDrain", fn := fun _ => fun
  | [d] => { results := [.lit (.bool false)], args := [d] }
  | _ => none }
def DutyDrainWrongFalsely : Prop := dutyDrainRow.holds Try.pinned (OpenSpec.ofChange dutyDrainWrong)

/- THE SECOND FORM. 'bulk': how many values and letters a reading holds, each counted each time it is reached (what is shared counts as often as it is met; a slice's spare places count too). A statement '..UptoSaid' is the law's where the arguments, and the package variables that the reading takes, are together of bulk at most 1048576: NARROWER than '..Said'. Prove '..Said' where nothing that the law and all that it calls make is longer than what came in: it says more and counts as full. Else prove '..UptoSaid'. A law counts once. -/
mutual
def uptoBulk {H : Type} : DataW H → Nat
  | .lit (.string bytes) => bytes.length + 1
  | .lit _ => 1
  | .nil => 1
  | .ptr d => uptoBulk d + 1
  | .slice elems spare => uptoBulkAll elems + uptoBulkAll spare + 1
  | .agg parts => uptoBulkAll parts + 1
  | .iface _ d => uptoBulk d + 1
  | .map entries => uptoBulkEntries entries + 1
  | .held _ => 1
def uptoBulkAll {H : Type} : List (DataW H) → Nat
  | [] => 0
  | d :: r => uptoBulk d + uptoBulkAll r
def uptoBulkEntries {H : Type} : List (Lit × DataW H) → Nat
  | [] => 0
  | x :: r => uptoBulkEntry x + uptoBulkEntries r
def uptoBulkEntry {H : Type} : Lit × DataW H → Nat
  | (.string bytes, d) => bytes.length + uptoBulk d + 1
  | (_, d) => uptoBulk d + 1
 end
def uptoSmall : (H : Type) → List (DataW H) → Bool := fun _ ds => decide (uptoBulkAll ds ≤ 1048576)
def OpenSpec.upto (s : _root_.Go.ChangeSpec) : _root_.Go.OpenSpec := { _root_.Go.OpenSpec.ofChange s with cond := some uptoSmall }

/-- 'slotmeshlaw15.DutyMatchesReference', WHERE WHAT IT READS IS OF BULK AT MOST 1048576: true; the input reads as it did. -/
def dutyMatchesReferenceUptoRow : OpenClaim := { program := "ytnihkgoopkbegaa", sum := "0246e5bb60d4ca3c84184e6453255e3f6e91d4382e731f2565be03612bae5323", func := "slotmesh/slotmeshlaw15.DutyMatchesReference", spec := "dutyMatchesReference", unfollowed := true, recurses := true, apart := false, narrowed := true }
def DutyMatchesReferenceUptoSaid : Prop := dutyMatchesReferenceUptoRow.holds Try.pinned (OpenSpec.upto dutyMatchesReferenceSpec)

/-- 'slotmeshlaw15.DutyEnough', WHERE WHAT IT READS IS OF BULK AT MOST 1048576: true; the input reads as it did. -/
def dutyEnoughUptoRow : OpenClaim := { program := "ytnihkgoopkbegaa", sum := "0246e5bb60d4ca3c84184e6453255e3f6e91d4382e731f2565be03612bae5323", func := "slotmesh/slotmeshlaw15.DutyEnough", spec := "dutyEnough", unfollowed := true, recurses := true, apart := false, narrowed := true }
def DutyEnoughUptoSaid : Prop := dutyEnoughUptoRow.holds Try.pinned (OpenSpec.upto dutyEnoughSpec)

/-- 'slotmeshlaw15.DutyNotBoth', WHERE WHAT IT READS IS OF BULK AT MOST 1048576: true; the input reads as it did. -/
def dutyNotBothUptoRow : OpenClaim := { program := "ytnihkgoopkbegaa", sum := "0246e5bb60d4ca3c84184e6453255e3f6e91d4382e731f2565be03612bae5323", func := "slotmesh/slotmeshlaw15.DutyNotBoth", spec := "dutyNotBoth", unfollowed := true, recurses := true, apart := false, narrowed := true }
def DutyNotBothUptoSaid : Prop := dutyNotBothUptoRow.holds Try.pinned (OpenSpec.upto dutyNotBothSpec)

/-- 'slotmeshlaw15.DutyMore', WHERE WHAT IT READS IS OF BULK AT MOST 1048576: true; the input reads as it did. -/
def dutyMoreUptoRow : OpenClaim := { program := "ytnihkgoopkbegaa", sum := "0246e5bb60d4ca3c84184e6453255e3f6e91d4382e731f2565be03612bae5323", func := "slotmesh/slotmeshlaw15.DutyMore", spec := "dutyMore", unfollowed := true, recurses := true, apart := false, narrowed := true }
def DutyMoreUptoSaid : Prop := dutyMoreUptoRow.holds Try.pinned (OpenSpec.upto dutyMoreSpec)

/-- 'slotmeshlaw15.DutyBounds', WHERE WHAT IT READS IS OF BULK AT MOST 1048576: true; the input reads as it did. -/
def dutyBoundsUptoRow : OpenClaim := { program := "ytnihkgoopkbegaa", sum := "0246e5bb60d4ca3c84184e6453255e3f6e91d4382e731f2565be03612bae5323", func := "slotmesh/slotmeshlaw15.DutyBounds", spec := "dutyBounds", unfollowed := true, recurses := true, apart := false, narrowed := true }
def DutyBoundsUptoSaid : Prop := dutyBoundsUptoRow.holds Try.pinned (OpenSpec.upto dutyBoundsSpec)

/-- 'slotmeshlaw15.DutyDrain', WHERE WHAT IT READS IS OF BULK AT MOST 1048576: true; the input reads as it did. -/
def dutyDrainUptoRow : OpenClaim := { program := "ytnihkgoopkbegaa", sum := "0246e5bb60d4ca3c84184e6453255e3f6e91d4382e731f2565be03612bae5323", func := "slotmesh/slotmeshlaw15.DutyDrain", spec := "dutyDrain", unfollowed := true, recurses := true, apart := false, narrowed := true }
def DutyDrainUptoSaid : Prop := dutyDrainUptoRow.holds Try.pinned (OpenSpec.upto dutyDrainSpec)

end Rows
end Go.Proofs.Ytnihkgoopkbegaa
