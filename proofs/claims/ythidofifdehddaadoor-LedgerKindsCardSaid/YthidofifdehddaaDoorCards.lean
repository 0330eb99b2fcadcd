/-
  DERIVED. GIVEN WITH THE SEED: THE CARDS: each row of YthidofifdehddaaDoorRows.lean that lists a variable, with what it lists TIED to the program's text (the seventh form; the later family's looks); each row that meets fmt, with fmt's text TOLD by the authors' own Lean function (tested against real Go, not proved from fmt's source: count such statements apart). THE CARD IS WHAT COUNTS. Prove the row's statement (the work); the ties are given (YthidofifdehddaaDoorTie.lean); close each card by the builder's one call (the guide's Derived/Test/ToyasCard.lean, 'card_holds'). Laid BY PROGRAM, IN A SANDBOX (cutbox-door.mjs). By AI agents, Wed Nov 11 2026. No macro, syntax, notation, axiom, sorry.
-/
import Derived.Test.YthidofifdehddaaDoorRows
import GoSem.ClaimSeven
namespace Go.Proofs.YthidofifdehddaaDoor
namespace Rows

/-- THE TIED CARD OF 'slotmeshlaw18.LedgerMatchesReference'. -/
def ledgerMatchesReferenceCard : Claim7 := { stood := { row := ledgerMatchesReferenceRow, standIns := [], harness := (true, "04b04d59300e609cfa0da7a4310f26ef7014fdb096320e0925c723bf9f6d8783"), looks := false }, kinds := [], alts := [], laidByText := true, laidKinds := [.data], laidTests := true, laidLooks := .later }
def LedgerMatchesReferenceCardSaid : Prop := Claim7.holds Tryd.pinned (.plain (OpenSpec.ofChange ledgerMatchesReferenceSpec)) ledgerMatchesReferenceCard

/-- THE TIED CARD OF 'slotmeshlaw18.LedgerKeeps'. -/
def ledgerKeepsCard : Claim7 := { stood := { row := ledgerKeepsRow, standIns := [], harness := (true, "04b04d59300e609cfa0da7a4310f26ef7014fdb096320e0925c723bf9f6d8783"), looks := false }, kinds := [], alts := [], laidByText := true, laidKinds := [.data], laidTests := true, laidLooks := .later }
def LedgerKeepsCardSaid : Prop := Claim7.holds Tryd.pinned (.plain (OpenSpec.ofChange ledgerKeepsSpec)) ledgerKeepsCard

/-- THE TIED CARD OF 'slotmeshlaw18.LedgerLasts'. -/
def ledgerLastsCard : Claim7 := { stood := { row := ledgerLastsRow, standIns := [], harness := (true, "04b04d59300e609cfa0da7a4310f26ef7014fdb096320e0925c723bf9f6d8783"), looks := false }, kinds := [], alts := [], laidByText := true, laidKinds := [.data], laidTests := true, laidLooks := .later }
def LedgerLastsCardSaid : Prop := Claim7.holds Tryd.pinned (.plain (OpenSpec.ofChange ledgerLastsSpec)) ledgerLastsCard

/-- THE TIED CARD OF 'slotmeshlaw18.LedgerSteps'. -/
def ledgerStepsCard : Claim7 := { stood := { row := ledgerStepsRow, standIns := [], harness := (true, "04b04d59300e609cfa0da7a4310f26ef7014fdb096320e0925c723bf9f6d8783"), looks := false }, kinds := [], alts := [], laidByText := true, laidKinds := [.data], laidTests := true, laidLooks := .later }
def LedgerStepsCardSaid : Prop := Claim7.holds Tryd.pinned (.plain (OpenSpec.ofChange ledgerStepsSpec)) ledgerStepsCard

/-- THE TIED CARD OF 'slotmeshlaw18.LedgerRefuses'. -/
def ledgerRefusesCard : Claim7 := { stood := { row := ledgerRefusesRow, standIns := [], harness := (true, "04b04d59300e609cfa0da7a4310f26ef7014fdb096320e0925c723bf9f6d8783"), looks := false }, kinds := [], alts := [], laidByText := true, laidKinds := [.data], laidTests := true, laidLooks := .later }
def LedgerRefusesCardSaid : Prop := Claim7.holds Tryd.pinned (.plain (OpenSpec.ofChange ledgerRefusesSpec)) ledgerRefusesCard

/-- THE TIED CARD OF 'slotmeshlaw18.LedgerKinds'. -/
def ledgerKindsCard : Claim7 := { stood := { row := ledgerKindsRow, standIns := [], harness := (true, "04b04d59300e609cfa0da7a4310f26ef7014fdb096320e0925c723bf9f6d8783"), looks := false }, kinds := [], alts := [], laidByText := true, laidKinds := [.data], laidTests := true, laidLooks := .later }
def LedgerKindsCardSaid : Prop := Claim7.holds Tryd.pinned (.plain (OpenSpec.ofChange ledgerKindsSpec)) ledgerKindsCard

/-- THE SECOND FORM's CARD OF 'slotmeshlaw18.LedgerMatchesReference'. -/
def ledgerMatchesReferenceUptoCard : Claim7 := { stood := { row := ledgerMatchesReferenceUptoRow, standIns := [], harness := (true, "04b04d59300e609cfa0da7a4310f26ef7014fdb096320e0925c723bf9f6d8783"), looks := false }, kinds := [], alts := [], laidByText := true, laidKinds := [.data], laidTests := true, laidLooks := .later }
def LedgerMatchesReferenceUptoCardSaid : Prop := Claim7.holds Tryd.pinned (.plain (OpenSpec.upto ledgerMatchesReferenceSpec)) ledgerMatchesReferenceUptoCard

/-- THE SECOND FORM's CARD OF 'slotmeshlaw18.LedgerKeeps'. -/
def ledgerKeepsUptoCard : Claim7 := { stood := { row := ledgerKeepsUptoRow, standIns := [], harness := (true, "04b04d59300e609cfa0da7a4310f26ef7014fdb096320e0925c723bf9f6d8783"), looks := false }, kinds := [], alts := [], laidByText := true, laidKinds := [.data], laidTests := true, laidLooks := .later }
def LedgerKeepsUptoCardSaid : Prop := Claim7.holds Tryd.pinned (.plain (OpenSpec.upto ledgerKeepsSpec)) ledgerKeepsUptoCard

/-- THE SECOND FORM's CARD OF 'slotmeshlaw18.LedgerLasts'. -/
def ledgerLastsUptoCard : Claim7 := { stood := { row := ledgerLastsUptoRow, standIns := [], harness := (true, "04b04d59300e609cfa0da7a4310f26ef7014fdb096320e0925c723bf9f6d8783"), looks := false }, kinds := [], alts := [], laidByText := true, laidKinds := [.data], laidTests := true, laidLooks := .later }
def LedgerLastsUptoCardSaid : Prop := Claim7.holds Tryd.pinned (.plain (OpenSpec.upto ledgerLastsSpec)) ledgerLastsUptoCard

/-- THE SECOND FORM's CARD OF 'slotmeshlaw18.LedgerSteps'. -/
def ledgerStepsUptoCard : Claim7 := { stood := { row := ledgerStepsUptoRow, standIns := [], harness := (true, "04b04d59300e609cfa0da7a4310f26ef7014fdb096320e0925c723bf9f6d8783"), looks := false }, kinds := [], alts := [], laidByText := true, laidKinds := [.data], laidTests := true, laidLooks := .later }
def LedgerStepsUptoCardSaid : Prop := Claim7.holds Tryd.pinned (.plain (OpenSpec.upto ledgerStepsSpec)) ledgerStepsUptoCard

/-- THE SECOND FORM's CARD OF 'slotmeshlaw18.LedgerRefuses'. -/
def ledgerRefusesUptoCard : Claim7 := { stood := { row := ledgerRefusesUptoRow, standIns := [], harness := (true, "04b04d59300e609cfa0da7a4310f26ef7014fdb096320e0925c723bf9f6d8783"), looks := false }, kinds := [], alts := [], laidByText := true, laidKinds := [.data], laidTests := true, laidLooks := .later }
def LedgerRefusesUptoCardSaid : Prop := Claim7.holds Tryd.pinned (.plain (OpenSpec.upto ledgerRefusesSpec)) ledgerRefusesUptoCard

/-- THE SECOND FORM's CARD OF 'slotmeshlaw18.LedgerKinds'. -/
def ledgerKindsUptoCard : Claim7 := { stood := { row := ledgerKindsUptoRow, standIns := [], harness := (true, "04b04d59300e609cfa0da7a4310f26ef7014fdb096320e0925c723bf9f6d8783"), looks := false }, kinds := [], alts := [], laidByText := true, laidKinds := [.data], laidTests := true, laidLooks := .later }
def LedgerKindsUptoCardSaid : Prop := Claim7.holds Tryd.pinned (.plain (OpenSpec.upto ledgerKindsSpec)) ledgerKindsUptoCard
end Rows
end Go.Proofs.YthidofifdehddaaDoor
