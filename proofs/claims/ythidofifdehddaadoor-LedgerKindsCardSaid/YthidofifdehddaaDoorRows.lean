/-
  NARROWER THAN 'FOR EVERY INPUT', by the rows' own cells (each row's printed sentence says how): LedgerMatchesReference: laid · LedgerKeeps: laid · LedgerLasts: laid · LedgerSteps: laid · LedgerRefuses: laid · LedgerKinds: laid.
  DERIVED. THE GIVEN ROWS OF THIS SEAT. 6 by the template 'for every input the law returns true; each argument reads behind the call as it read before'; 0 by the template 'total and deterministic' (their statements: YthidofifdehddaaDoorTotals.lean).
  GIVEN WITH THE SEED: the statements are not yours to turn. If you find one false, say at which input.
  Laid BY PROGRAM, IN A SANDBOX (cutbox-rows.mjs): the forced cells as the released guide's own fill.sh prints them over the translation a40b9eb8646080d3… (all of the seat's roots in one cut). By AI agents, Wed Nov 11 2026. No macro, syntax, notation, axiom, sorry.
-/
import Derived.Test.YthidofifdehddaaDoorChecked
import GoSem.Claim
import GoSem.ClaimJoined
import GoSem.ClaimMapViews
import Derived.JoinedTies
import Derived.KernelRfl
namespace Go.Proofs.YthidofifdehddaaDoor
/- THE CELL 'sum', in the pinned program and in every row, IS THE sha256 OF THE DUMP (.gsa) THAT YthidofifdehddaaDoorProg.lean LOADS. Nothing in Lean hashes anything: it is a label: what it is worth is what the hold of that sum in a sandbox is worth. -/
noncomputable def Tryd.pinned : Pinned := { name := "ythidofifdehddaadoor", sum := "a40b9eb8646080d3fd24cfa88a5df8c848521bb210d6c24d82a092c566637f51", checked := Tryd.checked }
namespace Rows
def none {H : Type} : Left H := { results := [], args := [] }

/- WHAT THE LISTED PACKAGE-LEVEL VARIABLES READ AS WHEN THE CALL BEGINS. Each datum BY PROGRAM (the guide's laid-datum.mjs) off the statement by which the dump's own 'gosem.cut.vars' lays the variable. In a bare row this is a premise. The card (YthidofifdehddaaDoorCards.lean) ties it to the program's text. -/
def laid_slotmesh_ledger_costs {H : Type} : DataW H := .agg [.lit (.int .i64 1), .lit (.int .i64 40), .lit (.int .i64 60)]

/-- 'slotmeshlaw18.LedgerMatchesReference': WHATEVER THE INPUT: true; the input reads as it did. -/
def ledgerMatchesReferenceSpec : ChangeSpec := { name := "ledgerMatchesReference", fn := fun _ => fun
  | [d1, d2, d3] => { results := [.lit (.bool true)], args := [d1, d2, d3] }
  | _ => none }
def ledgerMatchesReferenceRow : OpenClaim := { program := "ythidofifdehddaadoor", sum := "a40b9eb8646080d3fd24cfa88a5df8c848521bb210d6c24d82a092c566637f51", func := "slotmesh/slotmeshlaw18.LedgerMatchesReference", spec := "ledgerMatchesReference", unfollowed := true, recurses := true, named := ["slotmesh/ledger.costs"], apart := false, laid := [("slotmesh/ledger.costs", laid_slotmesh_ledger_costs)] }
def LedgerMatchesReferenceSaid : Prop := ledgerMatchesReferenceRow.holds Tryd.pinned (OpenSpec.ofChange ledgerMatchesReferenceSpec)

/-- ITS FALSE NEIGHBOUR: 'it returns false'. Refute it at one input. -/
def ledgerMatchesReferenceWrong : ChangeSpec := { name := "ledgerMatchesReference", fn := fun _ => fun
  | [d1, d2, d3] => { results := [.lit (.bool false)], args := [d1, d2, d3] }
  | _ => none }
def LedgerMatchesReferenceWrongFalsely : Prop := ledgerMatchesReferenceRow.holds Tryd.pinned (OpenSpec.ofChange ledgerMatchesReferenceWrong)

/-- 'slotmeshlaw18.LedgerKeeps': WHATEVER THE INPUT: true; the input reads as it did. -/
def ledgerKeepsSpec : ChangeSpec := { name := "ledgerKeeps", fn := fun _ => fun
  | [d1, d2] => { results := [.lit (.bool true)], args := [d1, d2] }
  | _ => none }
def ledgerKeepsRow : OpenClaim := { program := "ythidofifdehddaadoor", sum := "a40b9eb8646080d3fd24cfa88a5df8c848521bb210d6c24d82a092c566637f51", func := "slotmesh/slotmeshlaw18.LedgerKeeps", spec := "ledgerKeeps", unfollowed := true, recurses := true, named := ["slotmesh/ledger.costs"], apart := false, laid := [("slotmesh/ledger.costs", laid_slotmesh_ledger_costs)] }
def LedgerKeepsSaid : Prop := ledgerKeepsRow.holds Tryd.pinned (OpenSpec.ofChange ledgerKeepsSpec)

/-- ITS FALSE NEIGHBOUR: 'it returns false'. Refute it at one input. -/
def ledgerKeepsWrong : ChangeSpec := { name := "ledgerKeeps", fn := fun _ => fun
  | [d1, d2] => { results := [.lit (.bool false)], args := [d1, d2] }
  | _ => none }
def LedgerKeepsWrongFalsely : Prop := ledgerKeepsRow.holds Tryd.pinned (OpenSpec.ofChange ledgerKeepsWrong)

/-- 'slotmeshlaw18.LedgerLasts': WHATEVER THE INPUT: true; the input reads as it did. -/
def ledgerLastsSpec : ChangeSpec := { name := "ledgerLasts", fn := fun _ => fun
  | [d1, d2] => { results := [.lit (.bool true)], args := [d1, d2] }
  | _ => none }
def ledgerLastsRow : OpenClaim := { program := "ythidofifdehddaadoor", sum := "a40b9eb8646080d3fd24cfa88a5df8c848521bb210d6c24d82a092c566637f51", func := "slotmesh/slotmeshlaw18.LedgerLasts", spec := "ledgerLasts", unfollowed := true, recurses := true, named := ["slotmesh/ledger.costs"], apart := false, laid := [("slotmesh/ledger.costs", laid_slotmesh_ledger_costs)] }
def LedgerLastsSaid : Prop := ledgerLastsRow.holds Tryd.pinned (OpenSpec.ofChange ledgerLastsSpec)

/-- ITS FALSE NEIGHBOUR: 'it returns false'. Refute it at one input. -/
def ledgerLastsWrong : ChangeSpec := { name := "ledgerLasts", fn := fun _ => fun
  | [d1, d2] => { results := [.lit (.bool false)], args := [d1, d2] }
  | _ => none }
def LedgerLastsWrongFalsely : Prop := ledgerLastsRow.holds Tryd.pinned (OpenSpec.ofChange ledgerLastsWrong)

/-- 'slotmeshlaw18.LedgerSteps': WHATEVER THE INPUT: true; the input reads as it did. -/
def ledgerStepsSpec : ChangeSpec := { name := "ledgerSteps", fn := fun _ => fun
  | [d1, d2, d3] => { results := [.lit (.bool true)], args := [d1, d2, d3] }
  | _ => none }
def ledgerStepsRow : OpenClaim := { program := "ythidofifdehddaadoor", sum := "a40b9eb8646080d3fd24cfa88a5df8c848521bb210d6c24d82a092c566637f51", func := "slotmesh/slotmeshlaw18.LedgerSteps", spec := "ledgerSteps", unfollowed := true, recurses := true, named := ["slotmesh/ledger.costs"], apart := false, laid := [("slotmesh/ledger.costs", laid_slotmesh_ledger_costs)] }
def LedgerStepsSaid : Prop := ledgerStepsRow.holds Tryd.pinned (OpenSpec.ofChange ledgerStepsSpec)

/-- ITS FALSE NEIGHBOUR: 'it returns false'. Refute it at one input. -/
def ledgerStepsWrong : ChangeSpec := { name := "ledgerSteps", fn := fun _ => fun
  | [d1, d2, d3] => { results := [.lit (.bool false)], args := [d1, d2, d3] }
  | _ => none }
def LedgerStepsWrongFalsely : Prop := ledgerStepsRow.holds Tryd.pinned (OpenSpec.ofChange ledgerStepsWrong)

/-- 'slotmeshlaw18.LedgerRefuses': WHATEVER THE INPUT: true; the input reads as it did. -/
def ledgerRefusesSpec : ChangeSpec := { name := "ledgerRefuses", fn := fun _ => fun
  | [d1, d2] => { results := [.lit (.bool true)], args := [d1, d2] }
  | _ => none }
def ledgerRefusesRow : OpenClaim := { program := "ythidofifdehddaadoor", sum := "a40b9eb8646080d3fd24cfa88a5df8c848521bb210d6c24d82a092c566637f51", func := "slotmesh/slotmeshlaw18.LedgerRefuses", spec := "ledgerRefuses", unfollowed := true, recurses := true, named := ["slotmesh/ledger.costs"], apart := false, laid := [("slotmesh/ledger.costs", laid_slotmesh_ledger_costs)] }
def LedgerRefusesSaid : Prop := ledgerRefusesRow.holds Tryd.pinned (OpenSpec.ofChange ledgerRefusesSpec)

/-- ITS FALSE NEIGHBOUR: 'it returns false'. Refute it at one input. -/
def ledgerRefusesWrong : ChangeSpec := { name := "ledgerRefuses", fn := fun _ => fun
  | [d1, d2] => { results := [.lit (.bool false)], args := [d1, d2] }
  | _ => none }
def LedgerRefusesWrongFalsely : Prop := ledgerRefusesRow.holds Tryd.pinned (OpenSpec.ofChange ledgerRefusesWrong)

/-- 'slotmeshlaw18.LedgerKinds': WHATEVER THE INPUT: true; the input reads as it did. -/
def ledgerKindsSpec : ChangeSpec := { name := "ledgerKinds", fn := fun _ => fun
  | [d1, d2] => { results := [.lit (.bool true)], args := [d1, d2] }
  | _ => none }
def ledgerKindsRow : OpenClaim := { program := "ythidofifdehddaadoor", sum := "a40b9eb8646080d3fd24cfa88a5df8c848521bb210d6c24d82a092c566637f51", func := "slotmesh/slotmeshlaw18.LedgerKinds", spec := "ledgerKinds", unfollowed := true, recurses := true, named := ["slotmesh/ledger.costs"], apart := false, laid := [("slotmesh/ledger.costs", laid_slotmesh_ledger_costs)] }
def LedgerKindsSaid : Prop := ledgerKindsRow.holds Tryd.pinned (OpenSpec.ofChange ledgerKindsSpec)

/-- ITS FALSE NEIGHBOUR: 'it returns false'. Refute it at one input. -/
def ledgerKindsWrong : ChangeSpec := { name := "ledgerKinds", fn := fun _ => fun
  | [d1, d2] => { results := [.lit (.bool false)], args := [d1, d2] }
  | _ => none }
def LedgerKindsWrongFalsely : Prop := ledgerKindsRow.holds Tryd.pinned (OpenSpec.ofChange ledgerKindsWrong)

/- THE SECOND FORM. 'bulk': how many values and letters a reading holds, each counted each time it is reached (what is shared counts as often as it is met; a slice's spare places count too). A statement '..UptoSaid' is the law's where the arguments, and the package variables that the reading takes, are together of bulk at most 1048576: NARROWER than '..Said'. Prove '..Said' where nothing that the law and all that it calls make is longer than what came in: it says more and counts as full. Else prove '..UptoSaid'. A law counts once. -/
mutual
def uptoBulk {H : Type} : DataW H → Nat
  | .lit (.string bytes) => bytes.length + 1
  | .lit _ => 1
  | .nil => 1
  | .ptr d => uptoBulk d + 1
  | .slice elems spare => uptoBulkAll elems + uptoBulkAll spare + 1
  | .agg parts => uptoBulkAll parts + 1
  | .iface _ d => uptoBulk d + 1
  | .map entries => uptoBulkEntries entries + 1
  | .held _ => 1
def uptoBulkAll {H : Type} : List (DataW H) → Nat
  | [] => 0
  | d :: r => uptoBulk d + uptoBulkAll r
def uptoBulkEntries {H : Type} : List (Lit × DataW H) → Nat
  | [] => 0
  | x :: r => uptoBulkEntry x + uptoBulkEntries r
def uptoBulkEntry {H : Type} : Lit × DataW H → Nat
  | (.string bytes, d) => bytes.length + uptoBulk d + 1
  | (_, d) => uptoBulk d + 1
 end
def uptoSmall : (H : Type) → List (DataW H) → Bool := fun _ ds => decide (uptoBulkAll ds ≤ 1048576)
def OpenSpec.upto (s : _root_.Go.ChangeSpec) : _root_.Go.OpenSpec := { _root_.Go.OpenSpec.ofChange s with cond := some uptoSmall }

/-- 'slotmeshlaw18.LedgerMatchesReference', WHERE WHAT IT READS IS OF BULK AT MOST 1048576: true; the input reads as it did. -/
def ledgerMatchesReferenceUptoRow : OpenClaim := { program := "ythidofifdehddaadoor", sum := "a40b9eb8646080d3fd24cfa88a5df8c848521bb210d6c24d82a092c566637f51", func := "slotmesh/slotmeshlaw18.LedgerMatchesReference", spec := "ledgerMatchesReference", unfollowed := true, recurses := true, named := ["slotmesh/ledger.costs"], apart := false, laid := [("slotmesh/ledger.costs", laid_slotmesh_ledger_costs)], narrowed := true }
def LedgerMatchesReferenceUptoSaid : Prop := ledgerMatchesReferenceUptoRow.holds Tryd.pinned (OpenSpec.upto ledgerMatchesReferenceSpec)

/-- 'slotmeshlaw18.LedgerKeeps', WHERE WHAT IT READS IS OF BULK AT MOST 1048576: true; the input reads as it did. -/
def ledgerKeepsUptoRow : OpenClaim := { program := "ythidofifdehddaadoor", sum := "a40b9eb8646080d3fd24cfa88a5df8c848521bb210d6c24d82a092c566637f51", func := "slotmesh/slotmeshlaw18.LedgerKeeps", spec := "ledgerKeeps", unfollowed := true, recurses := true, named := ["slotmesh/ledger.costs"], apart := false, laid := [("slotmesh/ledger.costs", laid_slotmesh_ledger_costs)], narrowed := true }
def LedgerKeepsUptoSaid : Prop := ledgerKeepsUptoRow.holds Tryd.pinned (OpenSpec.upto ledgerKeepsSpec)

/-- 'slotmeshlaw18.LedgerLasts', WHERE WHAT IT READS IS OF BULK AT MOST 1048576: true; the input reads as it did. -/
def ledgerLastsUptoRow : OpenClaim := { program := "ythidofifdehddaadoor", sum := "a40b9eb8646080d3fd24cfa88a5df8c848521bb210d6c24d82a092c566637f51", func := "slotmesh/slotmeshlaw18.LedgerLasts", spec := "ledgerLasts", unfollowed := true, recurses := true, named := ["slotmesh/ledger.costs"], apart := false, laid := [("slotmesh/ledger.costs", laid_slotmesh_ledger_costs)], narrowed := true }
def LedgerLastsUptoSaid : Prop := ledgerLastsUptoRow.holds Tryd.pinned (OpenSpec.upto ledgerLastsSpec)

/-- 'slotmeshlaw18.LedgerSteps', WHERE WHAT IT READS IS OF BULK AT MOST 1048576: true; the input reads as it did. -/
def ledgerStepsUptoRow : OpenClaim := { program := "ythidofifdehddaadoor", sum := "a40b9eb8646080d3fd24cfa88a5df8c848521bb210d6c24d82a092c566637f51", func := "slotmesh/slotmeshlaw18.LedgerSteps", spec := "ledgerSteps", unfollowed := true, recurses := true, named := ["slotmesh/ledger.costs"], apart := false, laid := [("slotmesh/ledger.costs", laid_slotmesh_ledger_costs)], narrowed := true }
def LedgerStepsUptoSaid : Prop := ledgerStepsUptoRow.holds Tryd.pinned (OpenSpec.upto ledgerStepsSpec)

/-- 'slotmeshlaw18.LedgerRefuses', WHERE WHAT IT READS IS OF BULK AT MOST 1048576: true; the input reads as it did. -/
def ledgerRefusesUptoRow : OpenClaim := { program := "ythidofifdehddaadoor", sum := "a40b9eb8646080d3fd24cfa88a5df8c848521bb210d6c24d82a092c566637f51", func := "slotmesh/slotmeshlaw18.LedgerRefuses", spec := "ledgerRefuses", unfollowed := true, recurses := true, named := ["slotmesh/ledger.costs"], apart := false, laid := [("slotmesh/ledger.costs", laid_slotmesh_ledger_costs)], narrowed := true }
def LedgerRefusesUptoSaid : Prop := ledgerRefusesUptoRow.holds Tryd.pinned (OpenSpec.upto ledgerRefusesSpec)

/-- 'slotmeshlaw18.LedgerKinds', WHERE WHAT IT READS IS OF BULK AT MOST 1048576: true; the input reads as it did. -/
def ledgerKindsUptoRow : OpenClaim := { program := "ythidofifdehddaadoor", sum := "a40b9eb8646080d3fd24cfa88a5df8c848521bb210d6c24d82a092c566637f51", func := "slotmesh/slotmeshlaw18.LedgerKinds", spec := "ledgerKinds", unfollowed := true, recurses := true, named := ["slotmesh/ledger.costs"], apart := false, laid := [("slotmesh/ledger.costs", laid_slotmesh_ledger_costs)], narrowed := true }
def LedgerKindsUptoSaid : Prop := ledgerKindsUptoRow.holds Tryd.pinned (OpenSpec.upto ledgerKindsSpec)

end Rows
end Go.Proofs.YthidofifdehddaaDoor
