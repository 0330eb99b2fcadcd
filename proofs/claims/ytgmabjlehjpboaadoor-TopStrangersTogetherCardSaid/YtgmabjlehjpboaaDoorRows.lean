/-
  NARROWER THAN 'FOR EVERY INPUT', by the rows' own cells (each row's printed sentence says how): TopStrangersTogether: laid · TopImpostors: laid · TopFlood: laid · TopKeyedStranger: laid.
  DERIVED. THE GIVEN ROWS OF THIS SEAT. 4 by the template 'for every input the law returns true; each argument reads behind the call as it read before'; 0 by the template 'total and deterministic' (their statements: YtgmabjlehjpboaaDoorTotals.lean).
  GIVEN WITH THE SEED: the statements are not yours to turn. If you find one false, say at which input.
  Laid BY PROGRAM, IN A SANDBOX (cutbox-rows.mjs): the forced cells as the released guide's own fill.sh prints them over the translation ead80665dbf9d578… (all of the seat's roots in one cut). By AI agents, Wed Nov 11 2026. No macro, syntax, notation, axiom, sorry.
-/
import Derived.Test.YtgmabjlehjpboaaDoorChecked
import GoSem.Claim
import GoSem.ClaimJoined
import GoSem.ClaimMapViews
import Derived.JoinedTies
import Derived.KernelRfl
namespace Go.Proofs.YtgmabjlehjpboaaDoor
/- THE CELL 'sum', in the pinned program and in every row, IS THE sha256 OF THE DUMP (.gsa) THAT YtgmabjlehjpboaaDoorProg.lean LOADS. Nothing in Lean hashes anything: it is a label: what it is worth is what the hold of that sum in a sandbox is worth. -/
noncomputable def Tryd.pinned : Pinned := { name := "ytgmabjlehjpboaadoor", sum := "ead80665dbf9d57812bd64568e8fff1fb189f6eec2913653a6ceb65fdbdf358a", checked := Tryd.checked }
namespace Rows
def none {H : Type} : Left H := { results := [], args := [] }

/- WHAT THE LISTED PACKAGE-LEVEL VARIABLES READ AS WHEN THE CALL BEGINS. Each datum BY PROGRAM (the guide's laid-datum.mjs) off the statement by which the dump's own 'gosem.cut.vars' lays the variable. In a bare row this is a premise. The card (YtgmabjlehjpboaaDoorCards.lean) ties it to the program's text. -/
def laid_slotmesh_random_steps {H : Type} : DataW H := .agg [.agg [.lit (.int .i64 30), .lit (.int .u64 13787848793156543929)], .agg [.lit (.int .i64 27), .lit (.int .u64 10723151780598845931)], .agg [.lit (.int .i64 31), .lit (.int .u64 1)]]

/-- 'slotmeshtop.TopStrangersTogether': WHATEVER THE INPUT: true; the input reads as it did. -/
def topStrangersTogetherSpec : ChangeSpec := { name := "topStrangersTogether", fn := fun _ => fun
  | [d1, d2, d3, d4, d5] => { results := [.lit (.bool true)], args := [d1, d2, d3, d4, d5] }
  | _ => none }
def topStrangersTogetherRow : OpenClaim := { program := "ytgmabjlehjpboaadoor", sum := "ead80665dbf9d57812bd64568e8fff1fb189f6eec2913653a6ceb65fdbdf358a", func := "slotmesh/slotmeshtop.TopStrangersTogether", spec := "topStrangersTogether", unfollowed := true, recurses := true, named := ["slotmesh/random.steps"], apart := false, laid := [("slotmesh/random.steps", laid_slotmesh_random_steps)] }
def TopStrangersTogetherSaid : Prop := topStrangersTogetherRow.holds Tryd.pinned (OpenSpec.ofChange topStrangersTogetherSpec)

/-- ITS FALSE NEIGHBOUR: 'it returns false'. Refute it at one input. -/
def topStrangersTogetherWrong : ChangeSpec := { name := "topStrangersTogether", fn := fun _ => fun
  | [d1, d2, d3, d4, d5] => { results := [.lit (.bool false)], args := [d1, d2, d3, d4, d5] }
  | _ => none }
def TopStrangersTogetherWrongFalsely : Prop := topStrangersTogetherRow.holds Tryd.pinned (OpenSpec.ofChange topStrangersTogetherWrong)

/-- 'slotmeshtop.TopImpostors': WHATEVER THE INPUT: true; the input reads as it did. -/
def topImpostorsSpec : ChangeSpec := { name := "topImpostors", fn := fun _ => fun
  | [d1, d2, d3, d4] => { results := [.lit (.bool true)], args := [d1, d2, d3, d4] }
  | _ => none }
def topImpostorsRow : OpenClaim := { program := "ytgmabjlehjpboaadoor", sum := "ead80665dbf9d57812bd64568e8fff1fb189f6eec2913653a6ceb65fdbdf358a", func := "slotmesh/slotmeshtop.TopImpostors", spec := "topImpostors", unfollowed := true, recurses := true, named := ["slotmesh/random.steps"], apart := false, laid := [("slotmesh/random.steps", laid_slotmesh_random_steps)] }
def TopImpostorsSaid : Prop := topImpostorsRow.holds Tryd.pinned (OpenSpec.ofChange topImpostorsSpec)

/-- ITS FALSE NEIGHBOUR: 'it returns false'. Refute it at one input. -/
def topImpostorsWrong : ChangeSpec := { name := "topImpostors", fn := fun _ => fun
  | [d1, d2, d3, d4] => { results := [.lit (.bool false)], args := [d1, d2, d3, d4] }
  | _ => none }
def TopImpostorsWrongFalsely : Prop := topImpostorsRow.holds Tryd.pinned (OpenSpec.ofChange topImpostorsWrong)

/-- 'slotmeshtop.TopFlood': WHATEVER THE INPUT: true; the input reads as it did. -/
def topFloodSpec : ChangeSpec := { name := "topFlood", fn := fun _ => fun
  | [d1, d2, d3, d4, d5, d6] => { results := [.lit (.bool true)], args := [d1, d2, d3, d4, d5, d6] }
  | _ => none }
def topFloodRow : OpenClaim := { program := "ytgmabjlehjpboaadoor", sum := "ead80665dbf9d57812bd64568e8fff1fb189f6eec2913653a6ceb65fdbdf358a", func := "slotmesh/slotmeshtop.TopFlood", spec := "topFlood", unfollowed := true, recurses := true, named := ["slotmesh/random.steps"], apart := false, laid := [("slotmesh/random.steps", laid_slotmesh_random_steps)] }
def TopFloodSaid : Prop := topFloodRow.holds Tryd.pinned (OpenSpec.ofChange topFloodSpec)

/-- ITS FALSE NEIGHBOUR: 'it returns false'. Refute it at one input. -/
def topFloodWrong : ChangeSpec := { name := "topFlood", fn := fun _ => fun
  | [d1, d2, d3, d4, d5, d6] => { results := [.lit (.bool false)], args := [d1, d2, d3, d4, d5, d6] }
  | _ => none }
def TopFloodWrongFalsely : Prop := topFloodRow.holds Tryd.pinned (OpenSpec.ofChange topFloodWrong)

/-- 'slotmeshtop.TopKeyedStranger': WHATEVER THE INPUT: true; the input reads as it did. -/
def topKeyedStrangerSpec : ChangeSpec := { name := "topKeyedStranger", fn := fun _ => fun
  | [d1, d2, d3, d4, d5, d6, d7, d8] => { results := [.lit (.bool true)], args := [d1, d2, d3, d4, d5, d6, d7, d8] }
  | _ => none }
def topKeyedStrangerRow : OpenClaim := { program := "ytgmabjlehjpboaadoor", sum := "ead80665dbf9d57812bd64568e8fff1fb189f6eec2913653a6ceb65fdbdf358a", func := "slotmesh/slotmeshtop.TopKeyedStranger", spec := "topKeyedStranger", unfollowed := true, recurses := true, named := ["slotmesh/random.steps"], apart := false, laid := [("slotmesh/random.steps", laid_slotmesh_random_steps)] }
def TopKeyedStrangerSaid : Prop := topKeyedStrangerRow.holds Tryd.pinned (OpenSpec.ofChange topKeyedStrangerSpec)

/-- ITS FALSE NEIGHBOUR: 'it returns false'. Refute it at one input. -/
def topKeyedStrangerWrong : ChangeSpec := { name := "topKeyedStranger", fn := fun _ => fun
  | [d1, d2, d3, d4, d5, d6, d7, d8] => { results := [.lit (.bool false)], args := [d1, d2, d3, d4, d5, d6, d7, d8] }
  | _ => none }
def TopKeyedStrangerWrongFalsely : Prop := topKeyedStrangerRow.holds Tryd.pinned (OpenSpec.ofChange topKeyedStrangerWrong)

/- THE SECOND FORM. 'bulk': how many values and letters a reading holds, each counted each time it is reached (what is shared counts as often as it is met; a slice's spare places count too). A statement '..UptoSaid' is the law's where the arguments, and the package variables that the reading takes, are together of bulk at most 1048576: NARROWER than '..Said'. Prove '..Said' where nothing that the law and all that it calls make is longer than what came in: it says more and counts as full. Else prove '..UptoSaid'. A law counts once. -/
mutual
def uptoBulk {H : Type} : DataW H → Nat
  | .lit (.string bytes) => bytes.length + 1
  | .lit _ => 1
  | .nil => 1
  | .ptr d => uptoBulk d + 1
  | .slice elems spare => uptoBulkAll elems + uptoBulkAll spare + 1
  | .agg parts => uptoBulkAll parts + 1
  | .iface _ d => uptoBulk d + 1
  | .map entries => uptoBulkEntries entries + 1
  | .held _ => 1
def uptoBulkAll {H : Type} : List (DataW H) → Nat
  | [] => 0
  | d :: r => uptoBulk d + uptoBulkAll r
def uptoBulkEntries {H : Type} : List (Lit × DataW H) → Nat
  | [] => 0
  | x :: r => uptoBulkEntry x + uptoBulkEntries r
def uptoBulkEntry {H : Type} : Lit × DataW H → Nat
  | (.string bytes, d) => bytes.length + uptoBulk d + 1
  | (_, d) => uptoBulk d + 1
 end
def uptoSmall : (H : Type) → List (DataW H) → Bool := fun _ ds => decide (uptoBulkAll ds ≤ 1048576)
def OpenSpec.upto (s : _root_.Go.ChangeSpec) : _root_.Go.OpenSpec := { _root_.Go.OpenSpec.ofChange s with cond := some uptoSmall }

/-- 'slotmeshtop.TopStrangersTogether', WHERE WHAT IT READS IS OF BULK AT MOST 1048576: true; the input reads as it did. -/
def topStrangersTogetherUptoRow : OpenClaim := { program := "ytgmabjlehjpboaadoor", sum := "ead80665dbf9d57812bd64568e8fff1fb189f6eec2913653a6ceb65fdbdf358a", func := "slotmesh/slotmeshtop.TopStrangersTogether", spec := "topStrangersTogether", unfollowed := true, recurses := true, named := ["slotmesh/random.steps"], apart := false, laid := [("slotmesh/random.steps", laid_slotmesh_random_steps)], narrowed := true }
def TopStrangersTogetherUptoSaid : Prop := topStrangersTogetherUptoRow.holds Tryd.pinned (OpenSpec.upto topStrangersTogetherSpec)

/-- 'slotmeshtop.TopImpostors', WHERE WHAT IT READS IS OF BULK AT MOST 1048576: true; the input reads as it did. -/
def topImpostorsUptoRow : OpenClaim := { program := "ytgmabjlehjpboaadoor", sum := "ead80665dbf9d57812bd64568e8fff1fb189f6eec2913653a6ceb65fdbdf358a", func := "slotmesh/slotmeshtop.TopImpostors", spec := "topImpostors", unfollowed := true, recurses := true, named := ["slotmesh/random.steps"], apart := false, laid := [("slotmesh/random.steps", laid_slotmesh_random_steps)], narrowed := true }
def TopImpostorsUptoSaid : Prop := topImpostorsUptoRow.holds Tryd.pinned (OpenSpec.upto topImpostorsSpec)

/-- 'slotmeshtop.TopFlood', WHERE WHAT IT READS IS OF BULK AT MOST 1048576: true; the input reads as it did. -/
def topFloodUptoRow : OpenClaim := { program := "ytgmabjlehjpboaadoor", sum := "ead80665dbf9d57812bd64568e8fff1fb189f6eec2913653a6ceb65fdbdf358a", func := "slotmesh/slotmeshtop.TopFlood", spec := "topFlood", unfollowed := true, recurses := true, named := ["slotmesh/random.steps"], apart := false, laid := [("slotmesh/random.steps", laid_slotmesh_random_steps)], narrowed := true }
def TopFloodUptoSaid : Prop := topFloodUptoRow.holds Tryd.pinned (OpenSpec.upto topFloodSpec)

/-- 'slotmeshtop.TopKeyedStranger', WHERE WHAT IT READS IS OF BULK AT MOST 1048576: true; the input reads as it did. -/
def topKeyedStrangerUptoRow : OpenClaim := { program := "ytgmabjlehjpboaadoor", sum := "ead80665dbf9d57812bd64568e8fff1fb189f6eec2913653a6ceb65fdbdf358a", func := "slotmesh/slotmeshtop.TopKeyedStranger", spec := "topKeyedStranger", unfollowed := true, recurses := true, named := ["slotmesh/random.steps"], apart := false, laid := [("slotmesh/random.steps", laid_slotmesh_random_steps)], narrowed := true }
def TopKeyedStrangerUptoSaid : Prop := topKeyedStrangerUptoRow.holds Tryd.pinned (OpenSpec.upto topKeyedStrangerSpec)

end Rows
end Go.Proofs.YtgmabjlehjpboaaDoor
