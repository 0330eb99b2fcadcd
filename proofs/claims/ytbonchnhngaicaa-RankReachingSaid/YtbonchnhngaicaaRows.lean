/-
  No cell of these rows narrows 'for every input' (looked for: loops, veiled, ifaces, maps, wideKeys, modest, calm, conditions, laid).
  DERIVED. THE GIVEN ROWS OF THIS SEAT. 8 by the template 'for every input the law returns true; each argument reads behind the call as it read before'; 0 by the template 'total and deterministic' (their statements: YtbonchnhngaicaaTotals.lean).
  GIVEN WITH THE SEED: the statements are not yours to turn. If you find one false, say at which input.
  Laid BY PROGRAM, IN A SANDBOX (cutbox-rows.mjs): the forced cells as the released guide's own fill.sh prints them over the translation 653258b789082f92… (all of the seat's roots in one cut). By AI agents, Wed Nov 11 2026. No macro, syntax, notation, axiom, sorry.
-/
import Derived.Test.YtbonchnhngaicaaChecked
import GoSem.Claim
import GoSem.ClaimJoined
import GoSem.ClaimMapViews
import Derived.JoinedTies
import Derived.KernelRfl
namespace Go.Proofs.Ytbonchnhngaicaa
/- THE CELL 'sum', in the pinned program and in every row, IS THE sha256 OF THE DUMP (.gsa) THAT YtbonchnhngaicaaProg.lean LOADS. Nothing in Lean hashes anything: it is a label: what it is worth is what the hold of that sum in a sandbox is worth. -/
noncomputable def Try.pinned : Pinned := { name := "ytbonchnhngaicaa", sum := "653258b789082f920b33434e56c9741d281988e311ec99050e53dbe2bf3a660c", checked := Try.checked }
namespace Rows
def none {H : Type} : Left H := { results := [], args := [] }

/-- 'slotmeshlaw20.RankMatchesReference': WHATEVER THE INPUT: true; the input reads as it did. -/
def rankMatchesReferenceSpec : ChangeSpec := { name := "rankMatchesReference", fn := fun _ => fun
  | [d1, d2, d3, d4, d5, d6] => { results := [.lit (.bool true)], args := [d1, d2, d3, d4, d5, d6] }
  | _ => none }
def rankMatchesReferenceRow : OpenClaim := { program := "ytbonchnhngaicaa", sum := "653258b789082f920b33434e56c9741d281988e311ec99050e53dbe2bf3a660c", func := "slotmesh/slotmeshlaw20.RankMatchesReference", spec := "rankMatchesReference", unfollowed := true, recurses := true, apart := false }
def RankMatchesReferenceSaid : Prop := rankMatchesReferenceRow.holds Try.pinned (OpenSpec.ofChange rankMatchesReferenceSpec)

/-- ITS FALSE NEIGHBOUR: 'it returns false'. Refute it at one input. -/
def rankMatchesReferenceWrong : ChangeSpec := { name := "rankMatchesReference", fn := fun _ => fun
  | [d1, d2, d3, d4, d5, d6] => { results := [.lit (.bool false)], args := [d1, d2, d3, d4, d5, d6] }
  | _ => none }
def RankMatchesReferenceWrongFalsely : Prop := rankMatchesReferenceRow.holds Try.pinned (OpenSpec.ofChange rankMatchesReferenceWrong)

/-- 'slotmeshlaw20.RankOrder': WHATEVER THE INPUT: true; the input reads as it did. -/
def rankOrderSpec : ChangeSpec := { name := "rankOrder", fn := fun _ => fun
  | [d1, d2, d3, d4, d5] => { results := [.lit (.bool true)], args := [d1, d2, d3, d4, d5] }
  | _ => none }
def rankOrderRow : OpenClaim := { program := "ytbonchnhngaicaa", sum := "653258b789082f920b33434e56c9741d281988e311ec99050e53dbe2bf3a660c", func := "slotmesh/slotmeshlaw20.RankOrder", spec := "rankOrder", unfollowed := true, recurses := true, apart := false }
def RankOrderSaid : Prop := rankOrderRow.holds Try.pinned (OpenSpec.ofChange rankOrderSpec)

/-- ITS FALSE NEIGHBOUR: 'it returns false'. Refute it at one input. -/
def rankOrderWrong : ChangeSpec := { name := "rankOrder", fn := fun _ => fun
  | [d1, d2, d3, d4, d5] => { results := [.lit (.bool false)], args := [d1, d2, d3, d4, d5] }
  | _ => none }
def RankOrderWrongFalsely : Prop := rankOrderRow.holds Try.pinned (OpenSpec.ofChange rankOrderWrong)

/-- 'slotmeshlaw20.RankValid': WHATEVER THE INPUT: true; the input reads as it did. -/
def rankValidSpec : ChangeSpec := { name := "rankValid", fn := fun _ => fun
  | [d1, d2, d3] => { results := [.lit (.bool true)], args := [d1, d2, d3] }
  | _ => none }
def rankValidRow : OpenClaim := { program := "ytbonchnhngaicaa", sum := "653258b789082f920b33434e56c9741d281988e311ec99050e53dbe2bf3a660c", func := "slotmesh/slotmeshlaw20.RankValid", spec := "rankValid", unfollowed := true, recurses := true, apart := false }
def RankValidSaid : Prop := rankValidRow.holds Try.pinned (OpenSpec.ofChange rankValidSpec)

/-- ITS FALSE NEIGHBOUR: 'it returns false'. Refute it at one input. -/
def rankValidWrong : ChangeSpec := { name := "rankValid", fn := fun _ => fun
  | [d1, d2, d3] => { results := [.lit (.bool false)], args := [d1, d2, d3] }
  | _ => none }
def RankValidWrongFalsely : Prop := rankValidRow.holds Try.pinned (OpenSpec.ofChange rankValidWrong)

/-- 'slotmeshlaw20.RankChoice': WHATEVER THE INPUT: true; the input reads as it did. -/
def rankChoiceSpec : ChangeSpec := { name := "rankChoice", fn := fun _ => fun
  | [d1, d2, d3, d4] => { results := [.lit (.bool true)], args := [d1, d2, d3, d4] }
  | _ => none }
def rankChoiceRow : OpenClaim := { program := "ytbonchnhngaicaa", sum := "653258b789082f920b33434e56c9741d281988e311ec99050e53dbe2bf3a660c", func := "slotmesh/slotmeshlaw20.RankChoice", spec := "rankChoice", unfollowed := true, recurses := true, apart := false }
def RankChoiceSaid : Prop := rankChoiceRow.holds Try.pinned (OpenSpec.ofChange rankChoiceSpec)

/-- ITS FALSE NEIGHBOUR: 'it returns false'. Refute it at one input. -/
def rankChoiceWrong : ChangeSpec := { name := "rankChoice", fn := fun _ => fun
  | [d1, d2, d3, d4] => { results := [.lit (.bool false)], args := [d1, d2, d3, d4] }
  | _ => none }
def RankChoiceWrongFalsely : Prop := rankChoiceRow.holds Try.pinned (OpenSpec.ofChange rankChoiceWrong)

/-- 'slotmeshlaw20.RankDownhill': WHATEVER THE INPUT: true; the input reads as it did. -/
def rankDownhillSpec : ChangeSpec := { name := "rankDownhill", fn := fun _ => fun
  | [d1, d2, d3] => { results := [.lit (.bool true)], args := [d1, d2, d3] }
  | _ => none }
def rankDownhillRow : OpenClaim := { program := "ytbonchnhngaicaa", sum := "653258b789082f920b33434e56c9741d281988e311ec99050e53dbe2bf3a660c", func := "slotmesh/slotmeshlaw20.RankDownhill", spec := "rankDownhill", unfollowed := true, recurses := true, apart := false }
def RankDownhillSaid : Prop := rankDownhillRow.holds Try.pinned (OpenSpec.ofChange rankDownhillSpec)

/-- ITS FALSE NEIGHBOUR: 'it returns false'. Refute it at one input. -/
def rankDownhillWrong : ChangeSpec := { name := "rankDownhill", fn := fun _ => fun
  | [d1, d2, d3] => { results := [.lit (.bool false)], args := [d1, d2, d3] }
  | _ => none }
def RankDownhillWrongFalsely : Prop := rankDownhillRow.holds Try.pinned (OpenSpec.ofChange rankDownhillWrong)

/-- 'slotmeshlaw20.RankLoops': WHATEVER THE INPUT: true; the input reads as it did. -/
def rankLoopsSpec : ChangeSpec := { name := "rankLoops", fn := fun _ => fun
  | [d1, d2] => { results := [.lit (.bool true)], args := [d1, d2] }
  | _ => none }
def rankLoopsRow : OpenClaim := { program := "ytbonchnhngaicaa", sum := "653258b789082f920b33434e56c9741d281988e311ec99050e53dbe2bf3a660c", func := "slotmesh/slotmeshlaw20.RankLoops", spec := "rankLoops", unfollowed := true, recurses := true, apart := false }
def RankLoopsSaid : Prop := rankLoopsRow.holds Try.pinned (OpenSpec.ofChange rankLoopsSpec)

/-- ITS FALSE NEIGHBOUR: 'it returns false'. Refute it at one input. -/
def rankLoopsWrong : ChangeSpec := { name := "rankLoops", fn := fun _ => fun
  | [d1, d2] => { results := [.lit (.bool false)], args := [d1, d2] }
  | _ => none }
def RankLoopsWrongFalsely : Prop := rankLoopsRow.holds Try.pinned (OpenSpec.ofChange rankLoopsWrong)

/-- 'slotmeshlaw20.RankReaching': WHATEVER THE INPUT: true; the input reads as it did. -/
def rankReachingSpec : ChangeSpec := { name := "rankReaching", fn := fun _ => fun
  | [d1, d2, d3] => { results := [.lit (.bool true)], args := [d1, d2, d3] }
  | _ => none }
def rankReachingRow : OpenClaim := { program := "ytbonchnhngaicaa", sum := "653258b789082f920b33434e56c9741d281988e311ec99050e53dbe2bf3a660c", func := "slotmesh/slotmeshlaw20.RankReaching", spec := "rankReaching", unfollowed := true, recurses := true, apart := false }
def RankReachingSaid : Prop := rankReachingRow.holds Try.pinned (OpenSpec.ofChange rankReachingSpec)

/-- ITS FALSE NEIGHBOUR: 'it returns false'. Refute it at one input. -/
def rankReachingWrong : ChangeSpec := { name := "rankReaching", fn := fun _ => fun
  | [d1, d2, d3] => { results := [.lit (.bool false)], args := [d1, d2, d3] }
  | _ => none }
def RankReachingWrongFalsely : Prop := rankReachingRow.holds Try.pinned (OpenSpec.ofChange rankReachingWrong)

/-- 'slotmeshlaw20.RankRestart': WHATEVER THE INPUT: true; the input reads as it did. -/
def rankRestartSpec : ChangeSpec := { name := "rankRestart", fn := fun _ => fun
  | [d1, d2] => { results := [.lit (.bool true)], args := [d1, d2] }
  | _ => none }
def rankRestartRow : OpenClaim := { program := "ytbonchnhngaicaa", sum := "653258b789082f920b33434e56c9741d281988e311ec99050e53dbe2bf3a660c", func := "slotmesh/slotmeshlaw20.RankRestart", spec := "rankRestart", unfollowed := true, recurses := true, apart := false }
def RankRestartSaid : Prop := rankRestartRow.holds Try.pinned (OpenSpec.ofChange rankRestartSpec)

/-- ITS FALSE NEIGHBOUR: 'it returns false'. Refute it at one input. -/
def rankRestartWrong : ChangeSpec := { name := "rankRestart", fn := fun _ => fun
  | [d1, d2] => { results := [.lit (.bool false)], args := [d1, d2] }
  | _ => none }
def RankRestartWrongFalsely : Prop := rankRestartRow.holds Try.pinned (OpenSpec.ofChange rankRestartWrong)

/- THE SECOND FORM. 'bulk': how many values and letters a reading holds, each counted each time it is reached (what is shared counts as often as it is met; a slice's spare places count too). A statement '..UptoSaid' is the law's where the arguments, and the package variables that the reading takes, are together of bulk at most 1048576: NARROWER than '..Said'. Prove '..Said' where nothing that the law and all that it calls make is longer than what came in: it says more and counts as full. Else prove '..UptoSaid'. A law counts once. -/
mutual
def uptoBulk {H : Type} : DataW H → Nat
  | .lit (.string bytes) => bytes.length + 1
  | .lit _ => 1
  | .nil => 1
  | .ptr d => uptoBulk d + 1
  | .slice elems spare => uptoBulkAll elems + uptoBulkAll spare + 1
  | .agg parts => uptoBulkAll parts + 1
  | .iface _ d => uptoBulk d + 1
  | .map entries => uptoBulkEntries entries + 1
  | .held _ => 1
def uptoBulkAll {H : Type} : List (DataW H) → Nat
  | [] => 0
  | d :: r => uptoBulk d + uptoBulkAll r
def uptoBulkEntries {H : Type} : List (Lit × DataW H) → Nat
  | [] => 0
  | x :: r => uptoBulkEntry x + uptoBulkEntries r
def uptoBulkEntry {H : Type} : Lit × DataW H → Nat
  | (.string bytes, d) => bytes.length + uptoBulk d + 1
  | (_, d) => uptoBulk d + 1
 end
def uptoSmall : (H : Type) → List (DataW H) → Bool := fun _ ds => decide (uptoBulkAll ds ≤ 1048576)
def OpenSpec.upto (s : _root_.Go.ChangeSpec) : _root_.Go.OpenSpec := { _root_.Go.OpenSpec.ofChange s with cond := some uptoSmall }

/-- 'slotmeshlaw20.RankMatchesReference', WHERE WHAT IT READS IS OF BULK AT MOST 1048576: true; the input reads as it did. -/
def rankMatchesReferenceUptoRow : OpenClaim := { program := "ytbonchnhngaicaa", sum := "653258b789082f920b33434e56c9741d281988e311ec99050e53dbe2bf3a660c", func := "slotmesh/slotmeshlaw20.RankMatchesReference", spec := "rankMatchesReference", unfollowed := true, recurses := true, apart := false, narrowed := true }
def RankMatchesReferenceUptoSaid : Prop := rankMatchesReferenceUptoRow.holds Try.pinned (OpenSpec.upto rankMatchesReferenceSpec)

/-- 'slotmeshlaw20.RankOrder', WHERE WHAT IT READS IS OF BULK AT MOST 1048576: true; the input reads as it did. -/
def rankOrderUptoRow : OpenClaim := { program := "ytbonchnhngaicaa", sum := "653258b789082f920b33434e56c9741d281988e311ec99050e53dbe2bf3a660c", func := "slotmesh/slotmeshlaw20.RankOrder", spec := "rankOrder", unfollowed := true, recurses := true, apart := false, narrowed := true }
def RankOrderUptoSaid : Prop := rankOrderUptoRow.holds Try.pinned (OpenSpec.upto rankOrderSpec)

/-- 'slotmeshlaw20.RankValid', WHERE WHAT IT READS IS OF BULK AT MOST 1048576: true; the input reads as it did. -/
def rankValidUptoRow : OpenClaim := { program := "ytbonchnhngaicaa", sum := "653258b789082f920b33434e56c9741d281988e311ec99050e53dbe2bf3a660c", func := "slotmesh/slotmeshlaw20.RankValid", spec := "rankValid", unfollowed := true, recurses := true, apart := false, narrowed := true }
def RankValidUptoSaid : Prop := rankValidUptoRow.holds Try.pinned (OpenSpec.upto rankValidSpec)

/-- 'slotmeshlaw20.RankChoice', WHERE WHAT IT READS IS OF BULK AT MOST 1048576: true; the input reads as it did. -/
def rankChoiceUptoRow : OpenClaim := { program := "ytbonchnhngaicaa", sum := "653258b789082f920b33434e56c9741d281988e311ec99050e53dbe2bf3a660c", func := "slotmesh/slotmeshlaw20.RankChoice", spec := "rankChoice", unfollowed := true, recurses := true, apart := false, narrowed := true }
def RankChoiceUptoSaid : Prop := rankChoiceUptoRow.holds Try.pinned (OpenSpec.upto rankChoiceSpec)

/-- 'slotmeshlaw20.RankDownhill', WHERE WHAT IT READS IS OF BULK AT MOST 1048576: true; the input reads as it did. -/
def rankDownhillUptoRow : OpenClaim := { program := "ytbonchnhngaicaa", sum := "653258b789082f920b33434e56c9741d281988e311ec99050e53dbe2bf3a660c", func := "slotmesh/slotmeshlaw20.RankDownhill", spec := "rankDownhill", unfollowed := true, recurses := true, apart := false, narrowed := true }
def RankDownhillUptoSaid : Prop := rankDownhillUptoRow.holds Try.pinned (OpenSpec.upto rankDownhillSpec)

/-- 'slotmeshlaw20.RankLoops', WHERE WHAT IT READS IS OF BULK AT MOST 1048576: true; the input reads as it did. -/
def rankLoopsUptoRow : OpenClaim := { program := "ytbonchnhngaicaa", sum := "653258b789082f920b33434e56c9741d281988e311ec99050e53dbe2bf3a660c", func := "slotmesh/slotmeshlaw20.RankLoops", spec := "rankLoops", unfollowed := true, recurses := true, apart := false, narrowed := true }
def RankLoopsUptoSaid : Prop := rankLoopsUptoRow.holds Try.pinned (OpenSpec.upto rankLoopsSpec)

/-- 'slotmeshlaw20.RankReaching', WHERE WHAT IT READS IS OF BULK AT MOST 1048576: true; the input reads as it did. -/
def rankReachingUptoRow : OpenClaim := { program := "ytbonchnhngaicaa", sum := "653258b789082f920b33434e56c9741d281988e311ec99050e53dbe2bf3a660c", func := "slotmesh/slotmeshlaw20.RankReaching", spec := "rankReaching", unfollowed := true, recurses := true, apart := false, narrowed := true }
def RankReachingUptoSaid : Prop := rankReachingUptoRow.holds Try.pinned (OpenSpec.upto rankReachingSpec)

/-- 'slotmeshlaw20.RankRestart', WHERE WHAT IT READS IS OF BULK AT MOST 1048576: true; the input reads as it did. -/
def rankRestartUptoRow : OpenClaim := { program := "ytbonchnhngaicaa", sum := "653258b789082f920b33434e56c9741d281988e311ec99050e53dbe2bf3a660c", func := "slotmesh/slotmeshlaw20.RankRestart", spec := "rankRestart", unfollowed := true, recurses := true, apart := false, narrowed := true }
def RankRestartUptoSaid : Prop := rankRestartUptoRow.holds Try.pinned (OpenSpec.upto rankRestartSpec)

end Rows
end Go.Proofs.Ytbonchnhngaicaa
