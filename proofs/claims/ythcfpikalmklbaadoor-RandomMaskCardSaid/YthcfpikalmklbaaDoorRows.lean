/-
  NARROWER THAN 'FOR EVERY INPUT', by the rows' own cells (each row's printed sentence says how): RandomMatchesReference: laid · RandomDistinct: laid · RandomRange: laid · RandomPerm: laid · RandomSteps: laid · RandomMask: laid.
  DERIVED. THE GIVEN ROWS OF THIS SEAT. 6 by the template 'for every input the law returns true; each argument reads behind the call as it read before'; 0 by the template 'total and deterministic' (their statements: YthcfpikalmklbaaDoorTotals.lean).
  GIVEN WITH THE SEED: the statements are not yours to turn. If you find one false, say at which input.
  Laid BY PROGRAM, IN A SANDBOX (cutbox-rows.mjs): the forced cells as the released guide's own fill.sh prints them over the translation 76ad604f9dd6db70… (all of the seat's roots in one cut). By AI agents, Wed Nov 11 2026. No macro, syntax, notation, axiom, sorry.
-/
import Derived.Test.YthcfpikalmklbaaDoorChecked
import GoSem.Claim
import GoSem.ClaimJoined
import GoSem.ClaimMapViews
import Derived.JoinedTies
import Derived.KernelRfl
namespace Go.Proofs.YthcfpikalmklbaaDoor
/- THE CELL 'sum', in the pinned program and in every row, IS THE sha256 OF THE DUMP (.gsa) THAT YthcfpikalmklbaaDoorProg.lean LOADS. Nothing in Lean hashes anything: it is a label: what it is worth is what the hold of that sum in a sandbox is worth. -/
noncomputable def Tryd.pinned : Pinned := { name := "ythcfpikalmklbaadoor", sum := "76ad604f9dd6db70210cfea3e5ec84da667b234da394b0f71fac65481411d04e", checked := Tryd.checked }
namespace Rows
def none {H : Type} : Left H := { results := [], args := [] }

/- WHAT THE LISTED PACKAGE-LEVEL VARIABLES READ AS WHEN THE CALL BEGINS. Each datum BY PROGRAM (the guide's laid-datum.mjs) off the statement by which the dump's own 'gosem.cut.vars' lays the variable. In a bare row this is a premise. The card (YthcfpikalmklbaaDoorCards.lean) ties it to the program's text. -/
def laid_slotmesh_random_steps {H : Type} : DataW H := .agg [.agg [.lit (.int .i64 30), .lit (.int .u64 13787848793156543929)], .agg [.lit (.int .i64 27), .lit (.int .u64 10723151780598845931)], .agg [.lit (.int .i64 31), .lit (.int .u64 1)]]

/-- 'slotmeshlaw06.RandomMatchesReference': WHATEVER THE INPUT: true; the input reads as it did. -/
def randomMatchesReferenceSpec : ChangeSpec := { name := "randomMatchesReference", fn := fun _ => fun
  | [d1, d2] => { results := [.lit (.bool true)], args := [d1, d2] }
  | _ => none }
def randomMatchesReferenceRow : OpenClaim := { program := "ythcfpikalmklbaadoor", sum := "76ad604f9dd6db70210cfea3e5ec84da667b234da394b0f71fac65481411d04e", func := "slotmesh/slotmeshlaw06.RandomMatchesReference", spec := "randomMatchesReference", unfollowed := true, recurses := true, named := ["slotmesh/random.steps"], apart := false, laid := [("slotmesh/random.steps", laid_slotmesh_random_steps)] }
def RandomMatchesReferenceSaid : Prop := randomMatchesReferenceRow.holds Tryd.pinned (OpenSpec.ofChange randomMatchesReferenceSpec)

/-- ITS FALSE NEIGHBOUR: 'it returns false'. Refute it at one input. -/
def randomMatchesReferenceWrong : ChangeSpec := { name := "randomMatchesReference", fn := fun _ => fun
  | [d1, d2] => { results := [.lit (.bool false)], args := [d1, d2] }
  | _ => none }
def RandomMatchesReferenceWrongFalsely : Prop := randomMatchesReferenceRow.holds Tryd.pinned (OpenSpec.ofChange randomMatchesReferenceWrong)

/-- 'slotmeshlaw06.RandomDistinct': WHATEVER THE INPUT: true; the input reads as it did. -/
def randomDistinctSpec : ChangeSpec := { name := "randomDistinct", fn := fun _ => fun
  | [d1, d2] => { results := [.lit (.bool true)], args := [d1, d2] }
  | _ => none }
def randomDistinctRow : OpenClaim := { program := "ythcfpikalmklbaadoor", sum := "76ad604f9dd6db70210cfea3e5ec84da667b234da394b0f71fac65481411d04e", func := "slotmesh/slotmeshlaw06.RandomDistinct", spec := "randomDistinct", unfollowed := true, recurses := true, named := ["slotmesh/random.steps"], apart := false, laid := [("slotmesh/random.steps", laid_slotmesh_random_steps)] }
def RandomDistinctSaid : Prop := randomDistinctRow.holds Tryd.pinned (OpenSpec.ofChange randomDistinctSpec)

/-- ITS FALSE NEIGHBOUR: 'it returns false'. Refute it at one input. -/
def randomDistinctWrong : ChangeSpec := { name := "randomDistinct", fn := fun _ => fun
  | [d1, d2] => { results := [.lit (.bool false)], args := [d1, d2] }
  | _ => none }
def RandomDistinctWrongFalsely : Prop := randomDistinctRow.holds Tryd.pinned (OpenSpec.ofChange randomDistinctWrong)

/-- 'slotmeshlaw06.RandomRange': WHATEVER THE INPUT: true; the input reads as it did. -/
def randomRangeSpec : ChangeSpec := { name := "randomRange", fn := fun _ => fun
  | [d1, d2, d3] => { results := [.lit (.bool true)], args := [d1, d2, d3] }
  | _ => none }
def randomRangeRow : OpenClaim := { program := "ythcfpikalmklbaadoor", sum := "76ad604f9dd6db70210cfea3e5ec84da667b234da394b0f71fac65481411d04e", func := "slotmesh/slotmeshlaw06.RandomRange", spec := "randomRange", unfollowed := true, recurses := true, named := ["slotmesh/random.steps"], apart := false, laid := [("slotmesh/random.steps", laid_slotmesh_random_steps)] }
def RandomRangeSaid : Prop := randomRangeRow.holds Tryd.pinned (OpenSpec.ofChange randomRangeSpec)

/-- ITS FALSE NEIGHBOUR: 'it returns false'. Refute it at one input. -/
def randomRangeWrong : ChangeSpec := { name := "randomRange", fn := fun _ => fun
  | [d1, d2, d3] => { results := [.lit (.bool false)], args := [d1, d2, d3] }
  | _ => none }
def RandomRangeWrongFalsely : Prop := randomRangeRow.holds Tryd.pinned (OpenSpec.ofChange randomRangeWrong)

/-- 'slotmeshlaw06.RandomPerm': WHATEVER THE INPUT: true; the input reads as it did. -/
def randomPermSpec : ChangeSpec := { name := "randomPerm", fn := fun _ => fun
  | [d1, d2] => { results := [.lit (.bool true)], args := [d1, d2] }
  | _ => none }
def randomPermRow : OpenClaim := { program := "ythcfpikalmklbaadoor", sum := "76ad604f9dd6db70210cfea3e5ec84da667b234da394b0f71fac65481411d04e", func := "slotmesh/slotmeshlaw06.RandomPerm", spec := "randomPerm", unfollowed := true, recurses := true, named := ["slotmesh/random.steps"], apart := false, laid := [("slotmesh/random.steps", laid_slotmesh_random_steps)] }
def RandomPermSaid : Prop := randomPermRow.holds Tryd.pinned (OpenSpec.ofChange randomPermSpec)

/-- ITS FALSE NEIGHBOUR: 'it returns false'. Refute it at one input. -/
def randomPermWrong : ChangeSpec := { name := "randomPerm", fn := fun _ => fun
  | [d1, d2] => { results := [.lit (.bool false)], args := [d1, d2] }
  | _ => none }
def RandomPermWrongFalsely : Prop := randomPermRow.holds Tryd.pinned (OpenSpec.ofChange randomPermWrong)

/-- 'slotmeshlaw06.RandomSteps': WHATEVER THE INPUT: true; the input reads as it did. -/
def randomStepsSpec : ChangeSpec := { name := "randomSteps", fn := fun _ => fun
  | [d1, d2] => { results := [.lit (.bool true)], args := [d1, d2] }
  | _ => none }
def randomStepsRow : OpenClaim := { program := "ythcfpikalmklbaadoor", sum := "76ad604f9dd6db70210cfea3e5ec84da667b234da394b0f71fac65481411d04e", func := "slotmesh/slotmeshlaw06.RandomSteps", spec := "randomSteps", unfollowed := true, recurses := true, named := ["slotmesh/random.steps"], apart := false, laid := [("slotmesh/random.steps", laid_slotmesh_random_steps)] }
def RandomStepsSaid : Prop := randomStepsRow.holds Tryd.pinned (OpenSpec.ofChange randomStepsSpec)

/-- ITS FALSE NEIGHBOUR: 'it returns false'. Refute it at one input. -/
def randomStepsWrong : ChangeSpec := { name := "randomSteps", fn := fun _ => fun
  | [d1, d2] => { results := [.lit (.bool false)], args := [d1, d2] }
  | _ => none }
def RandomStepsWrongFalsely : Prop := randomStepsRow.holds Tryd.pinned (OpenSpec.ofChange randomStepsWrong)

/-- 'slotmeshlaw06.RandomMask': WHATEVER THE INPUT: true; the input reads as it did. -/
def randomMaskSpec : ChangeSpec := { name := "randomMask", fn := fun _ => fun
  | [d1, d2] => { results := [.lit (.bool true)], args := [d1, d2] }
  | _ => none }
def randomMaskRow : OpenClaim := { program := "ythcfpikalmklbaadoor", sum := "76ad604f9dd6db70210cfea3e5ec84da667b234da394b0f71fac65481411d04e", func := "slotmesh/slotmeshlaw06.RandomMask", spec := "randomMask", unfollowed := true, recurses := true, named := ["slotmesh/random.steps"], apart := false, laid := [("slotmesh/random.steps", laid_slotmesh_random_steps)] }
def RandomMaskSaid : Prop := randomMaskRow.holds Tryd.pinned (OpenSpec.ofChange randomMaskSpec)

/-- ITS FALSE NEIGHBOUR: 'it returns false'. Refute it at one input. -/
def randomMaskWrong : ChangeSpec := { name := "randomMask", fn := fun _ => fun
  | [d1, d2] => { results := [.lit (.bool false)], args := [d1, d2] }
  | _ => none }
def RandomMaskWrongFalsely : Prop := randomMaskRow.holds Tryd.pinned (OpenSpec.ofChange randomMaskWrong)

/- THE SECOND FORM. 'bulk': how many values and letters a reading holds, each counted each time it is reached (what is shared counts as often as it is met; a slice's spare places count too). A statement '..UptoSaid' is the law's where the arguments, and the package variables that the reading takes, are together of bulk at most 1048576: NARROWER than '..Said'. Prove '..Said' where nothing that the law and all that it calls make is longer than what came in: it says more and counts as full. Else prove '..UptoSaid'. A law counts once. -/
mutual
def uptoBulk {H : Type} : DataW H → Nat
  | .lit (.string bytes) => bytes.length + 1
  | .lit _ => 1
  | .nil => 1
  | .ptr d => uptoBulk d + 1
  | .slice elems spare => uptoBulkAll elems + uptoBulkAll spare + 1
  | .agg parts => uptoBulkAll parts + 1
  | .iface _ d => uptoBulk d + 1
  | .map entries => uptoBulkEntries entries + 1
  | .held _ => 1
def uptoBulkAll {H : Type} : List (DataW H) → Nat
  | [] => 0
  | d :: r => uptoBulk d + uptoBulkAll r
def uptoBulkEntries {H : Type} : List (Lit × DataW H) → Nat
  | [] => 0
  | x :: r => uptoBulkEntry x + uptoBulkEntries r
def uptoBulkEntry {H : Type} : Lit × DataW H → Nat
  | (.string bytes, d) => bytes.length + uptoBulk d + 1
  | (_, d) => uptoBulk d + 1
 end
def uptoSmall : (H : Type) → List (DataW H) → Bool := fun _ ds => decide (uptoBulkAll ds ≤ 1048576)
def OpenSpec.upto (s : _root_.Go.ChangeSpec) : _root_.Go.OpenSpec := { _root_.Go.OpenSpec.ofChange s with cond := some uptoSmall }

/-- 'slotmeshlaw06.RandomMatchesReference', WHERE WHAT IT READS IS OF BULK AT MOST 1048576: true; the input reads as it did. -/
def randomMatchesReferenceUptoRow : OpenClaim := { program := "ythcfpikalmklbaadoor", sum := "76ad604f9dd6db70210cfea3e5ec84da667b234da394b0f71fac65481411d04e", func := "slotmesh/slotmeshlaw06.RandomMatchesReference", spec := "randomMatchesReference", unfollowed := true, recurses := true, named := ["slotmesh/random.steps"], apart := false, laid := [("slotmesh/random.steps", laid_slotmesh_random_steps)], narrowed := true }
def RandomMatchesReferenceUptoSaid : Prop := randomMatchesReferenceUptoRow.holds Tryd.pinned (OpenSpec.upto randomMatchesReferenceSpec)

/-- 'slotmeshlaw06.RandomDistinct', WHERE WHAT IT READS IS OF BULK AT MOST 1048576: true; the input reads as it did. -/
def randomDistinctUptoRow : OpenClaim := { program := "ythcfpikalmklbaadoor", sum := "76ad604f9dd6db70210cfea3e5ec84da667b234da394b0f71fac65481411d04e", func := "slotmesh/slotmeshlaw06.RandomDistinct", spec := "randomDistinct", unfollowed := true, recurses := true, named := ["slotmesh/random.steps"], apart := false, laid := [("slotmesh/random.steps", laid_slotmesh_random_steps)], narrowed := true }
def RandomDistinctUptoSaid : Prop := randomDistinctUptoRow.holds Tryd.pinned (OpenSpec.upto randomDistinctSpec)

/-- 'slotmeshlaw06.RandomRange', WHERE WHAT IT READS IS OF BULK AT MOST 1048576: true; the input reads as it did. -/
def randomRangeUptoRow : OpenClaim := { program := "ythcfpikalmklbaadoor", sum := "76ad604f9dd6db70210cfea3e5ec84da667b234da394b0f71fac65481411d04e", func := "slotmesh/slotmeshlaw06.RandomRange", spec := "randomRange", unfollowed := true, recurses := true, named := ["slotmesh/random.steps"], apart := false, laid := [("slotmesh/random.steps", laid_slotmesh_random_steps)], narrowed := true }
def RandomRangeUptoSaid : Prop := randomRangeUptoRow.holds Tryd.pinned (OpenSpec.upto randomRangeSpec)

/-- 'slotmeshlaw06.RandomPerm', WHERE WHAT IT READS IS OF BULK AT MOST 1048576: true; the input reads as it did. -/
def randomPermUptoRow : OpenClaim := { program := "ythcfpikalmklbaadoor", sum := "76ad604f9dd6db70210cfea3e5ec84da667b234da394b0f71fac65481411d04e", func := "slotmesh/slotmeshlaw06.RandomPerm", spec := "randomPerm", unfollowed := true, recurses := true, named := ["slotmesh/random.steps"], apart := false, laid := [("slotmesh/random.steps", laid_slotmesh_random_steps)], narrowed := true }
def RandomPermUptoSaid : Prop := randomPermUptoRow.holds Tryd.pinned (OpenSpec.upto randomPermSpec)

/-- 'slotmeshlaw06.RandomSteps', WHERE WHAT IT READS IS OF BULK AT MOST 1048576: true; the input reads as it did. -/
def randomStepsUptoRow : OpenClaim := { program := "ythcfpikalmklbaadoor", sum := "76ad604f9dd6db70210cfea3e5ec84da667b234da394b0f71fac65481411d04e", func := "slotmesh/slotmeshlaw06.RandomSteps", spec := "randomSteps", unfollowed := true, recurses := true, named := ["slotmesh/random.steps"], apart := false, laid := [("slotmesh/random.steps", laid_slotmesh_random_steps)], narrowed := true }
def RandomStepsUptoSaid : Prop := randomStepsUptoRow.holds Tryd.pinned (OpenSpec.upto randomStepsSpec)

/-- 'slotmeshlaw06.RandomMask', WHERE WHAT IT READS IS OF BULK AT MOST 1048576: true; the input reads as it did. -/
def randomMaskUptoRow : OpenClaim := { program := "ythcfpikalmklbaadoor", sum := "76ad604f9dd6db70210cfea3e5ec84da667b234da394b0f71fac65481411d04e", func := "slotmesh/slotmeshlaw06.RandomMask", spec := "randomMask", unfollowed := true, recurses := true, named := ["slotmesh/random.steps"], apart := false, laid := [("slotmesh/random.steps", laid_slotmesh_random_steps)], narrowed := true }
def RandomMaskUptoSaid : Prop := randomMaskUptoRow.holds Tryd.pinned (OpenSpec.upto randomMaskSpec)

end Rows
end Go.Proofs.YthcfpikalmklbaaDoor
