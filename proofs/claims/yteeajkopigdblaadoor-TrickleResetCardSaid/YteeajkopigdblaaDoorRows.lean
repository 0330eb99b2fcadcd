/-
  NARROWER THAN 'FOR EVERY INPUT', by the rows' own cells (each row's printed sentence says how): TrickleSeldom: laid · TrickleAgain: laid · TrickleSuppressed: laid · TrickleGrowth: laid · TrickleMatchesReference: laid · TrickleValid: laid · TrickleReset: laid.
  DERIVED. THE GIVEN ROWS OF THIS SEAT. 7 by the template 'for every input the law returns true; each argument reads behind the call as it read before'; 0 by the template 'total and deterministic' (their statements: YteeajkopigdblaaDoorTotals.lean).
  GIVEN WITH THE SEED: the statements are not yours to turn. If you find one false, say at which input.
  Laid BY PROGRAM, IN A SANDBOX (cutbox-rows.mjs): the forced cells as the released guide's own fill.sh prints them over the translation 74afbc402f2bb262… (all of the seat's roots in one cut). By AI agents, Wed Nov 11 2026. No macro, syntax, notation, axiom, sorry.
-/
import Derived.Test.YteeajkopigdblaaDoorChecked
import GoSem.Claim
import GoSem.ClaimJoined
import GoSem.ClaimMapViews
import Derived.JoinedTies
import Derived.KernelRfl
namespace Go.Proofs.YteeajkopigdblaaDoor
/- THE CELL 'sum', in the pinned program and in every row, IS THE sha256 OF THE DUMP (.gsa) THAT YteeajkopigdblaaDoorProg.lean LOADS. Nothing in Lean hashes anything: it is a label: what it is worth is what the hold of that sum in a sandbox is worth. -/
noncomputable def Tryd.pinned : Pinned := { name := "yteeajkopigdblaadoor", sum := "74afbc402f2bb262871d1871d755f38824719e4f6abc64ed227ededd6d8ed96c", checked := Tryd.checked }
namespace Rows
def none {H : Type} : Left H := { results := [], args := [] }

/- WHAT THE LISTED PACKAGE-LEVEL VARIABLES READ AS WHEN THE CALL BEGINS. Each datum BY PROGRAM (the guide's laid-datum.mjs) off the statement by which the dump's own 'gosem.cut.vars' lays the variable. In a bare row this is a premise. The card (YteeajkopigdblaaDoorCards.lean) ties it to the program's text. -/
def laid_slotmesh_random_steps {H : Type} : DataW H := .agg [.agg [.lit (.int .i64 30), .lit (.int .u64 13787848793156543929)], .agg [.lit (.int .i64 27), .lit (.int .u64 10723151780598845931)], .agg [.lit (.int .i64 31), .lit (.int .u64 1)]]

/-- 'slotmeshlaw37.TrickleSeldom': WHATEVER THE INPUT: true; the input reads as it did. -/
def trickleSeldomSpec : ChangeSpec := { name := "trickleSeldom", fn := fun _ => fun
  | [d1, d2, d3] => { results := [.lit (.bool true)], args := [d1, d2, d3] }
  | _ => none }
def trickleSeldomRow : OpenClaim := { program := "yteeajkopigdblaadoor", sum := "74afbc402f2bb262871d1871d755f38824719e4f6abc64ed227ededd6d8ed96c", func := "slotmesh/slotmeshlaw37.TrickleSeldom", spec := "trickleSeldom", unfollowed := true, recurses := true, named := ["slotmesh/random.steps"], apart := false, laid := [("slotmesh/random.steps", laid_slotmesh_random_steps)] }
def TrickleSeldomSaid : Prop := trickleSeldomRow.holds Tryd.pinned (OpenSpec.ofChange trickleSeldomSpec)

/-- ITS FALSE NEIGHBOUR: 'it returns false'. Refute it at one input. -/
def trickleSeldomWrong : ChangeSpec := { name := "trickleSeldom", fn := fun _ => fun
  | [d1, d2, d3] => { results := [.lit (.bool false)], args := [d1, d2, d3] }
  | _ => none }
def TrickleSeldomWrongFalsely : Prop := trickleSeldomRow.holds Tryd.pinned (OpenSpec.ofChange trickleSeldomWrong)

/-- 'slotmeshlaw37.TrickleAgain': WHATEVER THE INPUT: true; the input reads as it did. -/
def trickleAgainSpec : ChangeSpec := { name := "trickleAgain", fn := fun _ => fun
  | [d] => { results := [.lit (.bool true)], args := [d] }
  | _ => none }
def trickleAgainRow : OpenClaim := { program := "yteeajkopigdblaadoor", sum := "74afbc402f2bb262871d1871d755f38824719e4f6abc64ed227ededd6d8ed96c", func := "slotmesh/slotmeshlaw37.TrickleAgain", spec := "trickleAgain", unfollowed := true, recurses := true, named := ["slotmesh/random.steps"], apart := false, laid := [("slotmesh/random.steps", laid_slotmesh_random_steps)] }
def TrickleAgainSaid : Prop := trickleAgainRow.holds Tryd.pinned (OpenSpec.ofChange trickleAgainSpec)

/-- ITS FALSE NEIGHBOUR: 'it returns false'. Refute it at one input. -/
def trickleAgainWrong : ChangeSpec := { name := "trickleAgain", fn := fun _ => fun
  | [d] => { results := [.lit (.bool false)], args := [d] }
  | _ => none }
def TrickleAgainWrongFalsely : Prop := trickleAgainRow.holds Tryd.pinned (OpenSpec.ofChange trickleAgainWrong)

/-- 'slotmeshlaw37.TrickleSuppressed': WHATEVER THE INPUT: true; the input reads as it did. -/
def trickleSuppressedSpec : ChangeSpec := { name := "trickleSuppressed", fn := fun _ => fun
  | [d1, d2] => { results := [.lit (.bool true)], args := [d1, d2] }
  | _ => none }
def trickleSuppressedRow : OpenClaim := { program := "yteeajkopigdblaadoor", sum := "74afbc402f2bb262871d1871d755f38824719e4f6abc64ed227ededd6d8ed96c", func := "slotmesh/slotmeshlaw37.TrickleSuppressed", spec := "trickleSuppressed", unfollowed := true, recurses := true, named := ["slotmesh/random.steps"], apart := false, laid := [("slotmesh/random.steps", laid_slotmesh_random_steps)] }
def TrickleSuppressedSaid : Prop := trickleSuppressedRow.holds Tryd.pinned (OpenSpec.ofChange trickleSuppressedSpec)

/-- ITS FALSE NEIGHBOUR: 'it returns false'. Refute it at one input. -/
def trickleSuppressedWrong : ChangeSpec := { name := "trickleSuppressed", fn := fun _ => fun
  | [d1, d2] => { results := [.lit (.bool false)], args := [d1, d2] }
  | _ => none }
def TrickleSuppressedWrongFalsely : Prop := trickleSuppressedRow.holds Tryd.pinned (OpenSpec.ofChange trickleSuppressedWrong)

/-- 'slotmeshlaw37.TrickleGrowth': WHATEVER THE INPUT: true; the input reads as it did. -/
def trickleGrowthSpec : ChangeSpec := { name := "trickleGrowth", fn := fun _ => fun
  | [d1, d2, d3] => { results := [.lit (.bool true)], args := [d1, d2, d3] }
  | _ => none }
def trickleGrowthRow : OpenClaim := { program := "yteeajkopigdblaadoor", sum := "74afbc402f2bb262871d1871d755f38824719e4f6abc64ed227ededd6d8ed96c", func := "slotmesh/slotmeshlaw37.TrickleGrowth", spec := "trickleGrowth", unfollowed := true, recurses := true, named := ["slotmesh/random.steps"], apart := false, laid := [("slotmesh/random.steps", laid_slotmesh_random_steps)] }
def TrickleGrowthSaid : Prop := trickleGrowthRow.holds Tryd.pinned (OpenSpec.ofChange trickleGrowthSpec)

/-- ITS FALSE NEIGHBOUR: 'it returns false'. Refute it at one input. -/
def trickleGrowthWrong : ChangeSpec := { name := "trickleGrowth", fn := fun _ => fun
  | [d1, d2, d3] => { results := [.lit (.bool false)], args := [d1, d2, d3] }
  | _ => none }
def TrickleGrowthWrongFalsely : Prop := trickleGrowthRow.holds Tryd.pinned (OpenSpec.ofChange trickleGrowthWrong)

/-- 'slotmeshlaw37.TrickleMatchesReference': WHATEVER THE INPUT: true; the input reads as it did. -/
def trickleMatchesReferenceSpec : ChangeSpec := { name := "trickleMatchesReference", fn := fun _ => fun
  | [d1, d2, d3] => { results := [.lit (.bool true)], args := [d1, d2, d3] }
  | _ => none }
def trickleMatchesReferenceRow : OpenClaim := { program := "yteeajkopigdblaadoor", sum := "74afbc402f2bb262871d1871d755f38824719e4f6abc64ed227ededd6d8ed96c", func := "slotmesh/slotmeshlaw37.TrickleMatchesReference", spec := "trickleMatchesReference", unfollowed := true, recurses := true, named := ["slotmesh/random.steps"], apart := false, laid := [("slotmesh/random.steps", laid_slotmesh_random_steps)] }
def TrickleMatchesReferenceSaid : Prop := trickleMatchesReferenceRow.holds Tryd.pinned (OpenSpec.ofChange trickleMatchesReferenceSpec)

/-- ITS FALSE NEIGHBOUR: 'it returns false'. Refute it at one input. -/
def trickleMatchesReferenceWrong : ChangeSpec := { name := "trickleMatchesReference", fn := fun _ => fun
  | [d1, d2, d3] => { results := [.lit (.bool false)], args := [d1, d2, d3] }
  | _ => none }
def TrickleMatchesReferenceWrongFalsely : Prop := trickleMatchesReferenceRow.holds Tryd.pinned (OpenSpec.ofChange trickleMatchesReferenceWrong)

/-- 'slotmeshlaw37.TrickleValid': WHATEVER THE INPUT: true; the input reads as it did. -/
def trickleValidSpec : ChangeSpec := { name := "trickleValid", fn := fun _ => fun
  | [d1, d2] => { results := [.lit (.bool true)], args := [d1, d2] }
  | _ => none }
def trickleValidRow : OpenClaim := { program := "yteeajkopigdblaadoor", sum := "74afbc402f2bb262871d1871d755f38824719e4f6abc64ed227ededd6d8ed96c", func := "slotmesh/slotmeshlaw37.TrickleValid", spec := "trickleValid", unfollowed := true, recurses := true, named := ["slotmesh/random.steps"], apart := false, laid := [("slotmesh/random.steps", laid_slotmesh_random_steps)] }
def TrickleValidSaid : Prop := trickleValidRow.holds Tryd.pinned (OpenSpec.ofChange trickleValidSpec)

/-- ITS FALSE NEIGHBOUR: 'it returns false'. Refute it at one input. -/
def trickleValidWrong : ChangeSpec := { name := "trickleValid", fn := fun _ => fun
  | [d1, d2] => { results := [.lit (.bool false)], args := [d1, d2] }
  | _ => none }
def TrickleValidWrongFalsely : Prop := trickleValidRow.holds Tryd.pinned (OpenSpec.ofChange trickleValidWrong)

/-- 'slotmeshlaw37.TrickleReset': WHATEVER THE INPUT: true; the input reads as it did. -/
def trickleResetSpec : ChangeSpec := { name := "trickleReset", fn := fun _ => fun
  | [d1, d2] => { results := [.lit (.bool true)], args := [d1, d2] }
  | _ => none }
def trickleResetRow : OpenClaim := { program := "yteeajkopigdblaadoor", sum := "74afbc402f2bb262871d1871d755f38824719e4f6abc64ed227ededd6d8ed96c", func := "slotmesh/slotmeshlaw37.TrickleReset", spec := "trickleReset", unfollowed := true, recurses := true, named := ["slotmesh/random.steps"], apart := false, laid := [("slotmesh/random.steps", laid_slotmesh_random_steps)] }
def TrickleResetSaid : Prop := trickleResetRow.holds Tryd.pinned (OpenSpec.ofChange trickleResetSpec)

/-- ITS FALSE NEIGHBOUR: 'it returns false'. Refute it at one input. -/
def trickleResetWrong : ChangeSpec := { name := "trickleReset", fn := fun _ => fun
  | [d1, d2] => { results := [.lit (.bool false)], args := [d1, d2] }
  | _ => none }
def TrickleResetWrongFalsely : Prop := trickleResetRow.holds Tryd.pinned (OpenSpec.ofChange trickleResetWrong)

/- THE SECOND FORM. 'bulk': how many values and letters a reading holds, each counted each time it is reached (what is shared counts as often as it is met; a slice's spare places count too). A statement '..UptoSaid' is the law's where the arguments, and the package variables that the reading takes, are together of bulk at most 1048576: NARROWER than '..Said'. Prove '..Said' where nothing that the law and all that it calls make is longer than what came in: it says more and counts as full. Else prove '..UptoSaid'. A law counts once. -/
mutual
def uptoBulk {H : Type} : DataW H → Nat
  | .lit (.string bytes) => bytes.length + 1
  | .lit _ => 1
  | .nil => 1
  | .ptr d => uptoBulk d + 1
  | .slice elems spare => uptoBulkAll elems + uptoBulkAll spare + 1
  | .agg parts => uptoBulkAll parts + 1
  | .iface _ d => uptoBulk d + 1
  | .map entries => uptoBulkEntries entries + 1
  | .held _ => 1
def uptoBulkAll {H : Type} : List (DataW H) → Nat
  | [] => 0
  | d :: r => uptoBulk d + uptoBulkAll r
def uptoBulkEntries {H : Type} : List (Lit × DataW H) → Nat
  | [] => 0
  | x :: r => uptoBulkEntry x + uptoBulkEntries r
def uptoBulkEntry {H : Type} : Lit × DataW H → Nat
  | (.string bytes, d) => bytes.length + uptoBulk d + 1
  | (_, d) => uptoBulk d + 1
 end
def uptoSmall : (H : Type) → List (DataW H) → Bool := fun _ ds => decide (uptoBulkAll ds ≤ 1048576)
def OpenSpec.upto (s : _root_.Go.ChangeSpec) : _root_.Go.OpenSpec := { _root_.Go.OpenSpec.ofChange s with cond := some uptoSmall }

/-- 'slotmeshlaw37.TrickleSeldom', WHERE WHAT IT READS IS OF BULK AT MOST 1048576: true; the input reads as it did. -/
def trickleSeldomUptoRow : OpenClaim := { program := "yteeajkopigdblaadoor", sum := "74afbc402f2bb262871d1871d755f38824719e4f6abc64ed227ededd6d8ed96c", func := "slotmesh/slotmeshlaw37.TrickleSeldom", spec := "trickleSeldom", unfollowed := true, recurses := true, named := ["slotmesh/random.steps"], apart := false, laid := [("slotmesh/random.steps", laid_slotmesh_random_steps)], narrowed := true }
def TrickleSeldomUptoSaid : Prop := trickleSeldomUptoRow.holds Tryd.pinned (OpenSpec.upto trickleSeldomSpec)

/-- 'slotmeshlaw37.TrickleAgain', WHERE WHAT IT READS IS OF BULK AT MOST 1048576: true; the input reads as it did. -/
def trickleAgainUptoRow : OpenClaim := { program := "yteeajkopigdblaadoor", sum := "74afbc402f2bb262871d1871d755f38824719e4f6abc64ed227ededd6d8ed96c", func := "slotmesh/slotmeshlaw37.TrickleAgain", spec := "trickleAgain", unfollowed := true, recurses := true, named := ["slotmesh/random.steps"], apart := false, laid := [("slotmesh/random.steps", laid_slotmesh_random_steps)], narrowed := true }
def TrickleAgainUptoSaid : Prop := trickleAgainUptoRow.holds Tryd.pinned (OpenSpec.upto trickleAgainSpec)

/-- 'slotmeshlaw37.TrickleSuppressed', WHERE WHAT IT READS IS OF BULK AT MOST 1048576: true; the input reads as it did. -/
def trickleSuppressedUptoRow : OpenClaim := { program := "yteeajkopigdblaadoor", sum := "74afbc402f2bb262871d1871d755f38824719e4f6abc64ed227ededd6d8ed96c", func := "slotmesh/slotmeshlaw37.TrickleSuppressed", spec := "trickleSuppressed", unfollowed := true, recurses := true, named := ["slotmesh/random.steps"], apart := false, laid := [("slotmesh/random.steps", laid_slotmesh_random_steps)], narrowed := true }
def TrickleSuppressedUptoSaid : Prop := trickleSuppressedUptoRow.holds Tryd.pinned (OpenSpec.upto trickleSuppressedSpec)

/-- 'slotmeshlaw37.TrickleGrowth', WHERE WHAT IT READS IS OF BULK AT MOST 1048576: true; the input reads as it did. -/
def trickleGrowthUptoRow : OpenClaim := { program := "yteeajkopigdblaadoor", sum := "74afbc402f2bb262871d1871d755f38824719e4f6abc64ed227ededd6d8ed96c", func := "slotmesh/slotmeshlaw37.TrickleGrowth", spec := "trickleGrowth", unfollowed := true, recurses := true, named := ["slotmesh/random.steps"], apart := false, laid := [("slotmesh/random.steps", laid_slotmesh_random_steps)], narrowed := true }
def TrickleGrowthUptoSaid : Prop := trickleGrowthUptoRow.holds Tryd.pinned (OpenSpec.upto trickleGrowthSpec)

/-- 'slotmeshlaw37.TrickleMatchesReference', WHERE WHAT IT READS IS OF BULK AT MOST 1048576: true; the input reads as it did. -/
def trickleMatchesReferenceUptoRow : OpenClaim := { program := "yteeajkopigdblaadoor", sum := "74afbc402f2bb262871d1871d755f38824719e4f6abc64ed227ededd6d8ed96c", func := "slotmesh/slotmeshlaw37.TrickleMatchesReference", spec := "trickleMatchesReference", unfollowed := true, recurses := true, named := ["slotmesh/random.steps"], apart := false, laid := [("slotmesh/random.steps", laid_slotmesh_random_steps)], narrowed := true }
def TrickleMatchesReferenceUptoSaid : Prop := trickleMatchesReferenceUptoRow.holds Tryd.pinned (OpenSpec.upto trickleMatchesReferenceSpec)

/-- 'slotmeshlaw37.TrickleValid', WHERE WHAT IT READS IS OF BULK AT MOST 1048576: true; the input reads as it did. -/
def trickleValidUptoRow : OpenClaim := { program := "yteeajkopigdblaadoor", sum := "74afbc402f2bb262871d1871d755f38824719e4f6abc64ed227ededd6d8ed96c", func := "slotmesh/slotmeshlaw37.TrickleValid", spec := "trickleValid", unfollowed := true, recurses := true, named := ["slotmesh/random.steps"], apart := false, laid := [("slotmesh/random.steps", laid_slotmesh_random_steps)], narrowed := true }
def TrickleValidUptoSaid : Prop := trickleValidUptoRow.holds Tryd.pinned (OpenSpec.upto trickleValidSpec)

/-- 'slotmeshlaw37.TrickleReset', WHERE WHAT IT READS IS OF BULK AT MOST 1048576: true; the input reads as it did. -/
def trickleResetUptoRow : OpenClaim := { program := "yteeajkopigdblaadoor", sum := "74afbc402f2bb262871d1871d755f38824719e4f6abc64ed227ededd6d8ed96c", func := "slotmesh/slotmeshlaw37.TrickleReset", spec := "trickleReset", unfollowed := true, recurses := true, named := ["slotmesh/random.steps"], apart := false, laid := [("slotmesh/random.steps", laid_slotmesh_random_steps)], narrowed := true }
def TrickleResetUptoSaid : Prop := trickleResetUptoRow.holds Tryd.pinned (OpenSpec.upto trickleResetSpec)

end Rows
end Go.Proofs.YteeajkopigdblaaDoor
