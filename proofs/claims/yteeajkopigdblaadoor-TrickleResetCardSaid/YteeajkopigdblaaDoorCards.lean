/-
  DERIVED. GIVEN WITH THE SEED: THE CARDS: each row of YteeajkopigdblaaDoorRows.lean that lists a variable, with what it lists TIED to the program's text (the seventh form; the later family's looks); each row that meets fmt, with fmt's text TOLD by the authors' own Lean function (tested against real Go, not proved from fmt's source: count such statements apart). THE CARD IS WHAT COUNTS. Prove the row's statement (the work); the ties are given (YteeajkopigdblaaDoorTie.lean); close each card by the builder's one call (the guide's Derived/Test/ToyasCard.lean, 'card_holds'). Laid BY PROGRAM, IN A SANDBOX (cutbox-door.mjs). By AI agents, Wed Nov 11 2026. No macro, syntax, notation, axiom, sorry.
-/
import Derived.Test.YteeajkopigdblaaDoorRows
import GoSem.ClaimSeven
namespace Go.Proofs.YteeajkopigdblaaDoor
namespace Rows

/-- THE TIED CARD OF 'slotmeshlaw37.TrickleSeldom'. -/
def trickleSeldomCard : Claim7 := { stood := { row := trickleSeldomRow, standIns := [], harness := (true, "0dc8c5851bf6d003eaa506a9a3fb31a25da19ae8dad0f8d61d1d31dfe8f58e58"), looks := false }, kinds := [], alts := [], laidByText := true, laidKinds := [.data], laidTests := true, laidLooks := .later }
def TrickleSeldomCardSaid : Prop := Claim7.holds Tryd.pinned (.plain (OpenSpec.ofChange trickleSeldomSpec)) trickleSeldomCard

/-- THE TIED CARD OF 'slotmeshlaw37.TrickleAgain'. -/
def trickleAgainCard : Claim7 := { stood := { row := trickleAgainRow, standIns := [], harness := (true, "0dc8c5851bf6d003eaa506a9a3fb31a25da19ae8dad0f8d61d1d31dfe8f58e58"), looks := false }, kinds := [], alts := [], laidByText := true, laidKinds := [.data], laidTests := true, laidLooks := .later }
def TrickleAgainCardSaid : Prop := Claim7.holds Tryd.pinned (.plain (OpenSpec.ofChange trickleAgainSpec)) trickleAgainCard

/-- THE TIED CARD OF 'slotmeshlaw37.TrickleSuppressed'. -/
def trickleSuppressedCard : Claim7 := { stood := { row := trickleSuppressedRow, standIns := [], harness := (true, "0dc8c5851bf6d003eaa506a9a3fb31a25da19ae8dad0f8d61d1d31dfe8f58e58"), looks := false }, kinds := [], alts := [], laidByText := true, laidKinds := [.data], laidTests := true, laidLooks := .later }
def TrickleSuppressedCardSaid : Prop := Claim7.holds Tryd.pinned (.plain (OpenSpec.ofChange trickleSuppressedSpec)) trickleSuppressedCard

/-- THE TIED CARD OF 'slotmeshlaw37.TrickleGrowth'. -/
def trickleGrowthCard : Claim7 := { stood := { row := trickleGrowthRow, standIns := [], harness := (true, "0dc8c5851bf6d003eaa506a9a3fb31a25da19ae8dad0f8d61d1d31dfe8f58e58"), looks := false }, kinds := [], alts := [], laidByText := true, laidKinds := [.data], laidTests := true, laidLooks := .later }
def TrickleGrowthCardSaid : Prop := Claim7.holds Tryd.pinned (.plain (OpenSpec.ofChange trickleGrowthSpec)) trickleGrowthCard

/-- THE TIED CARD OF 'slotmeshlaw37.TrickleMatchesReference'. -/
def trickleMatchesReferenceCard : Claim7 := { stood := { row := trickleMatchesReferenceRow, standIns := [], harness := (true, "0dc8c5851bf6d003eaa506a9a3fb31a25da19ae8dad0f8d61d1d31dfe8f58e58"), looks := false }, kinds := [], alts := [], laidByText := true, laidKinds := [.data], laidTests := true, laidLooks := .later }
def TrickleMatchesReferenceCardSaid : Prop := Claim7.holds Tryd.pinned (.plain (OpenSpec.ofChange trickleMatchesReferenceSpec)) trickleMatchesReferenceCard

/-- THE TIED CARD OF 'slotmeshlaw37.TrickleValid'. -/
def trickleValidCard : Claim7 := { stood := { row := trickleValidRow, standIns := [], harness := (true, "0dc8c5851bf6d003eaa506a9a3fb31a25da19ae8dad0f8d61d1d31dfe8f58e58"), looks := false }, kinds := [], alts := [], laidByText := true, laidKinds := [.data], laidTests := true, laidLooks := .later }
def TrickleValidCardSaid : Prop := Claim7.holds Tryd.pinned (.plain (OpenSpec.ofChange trickleValidSpec)) trickleValidCard

/-- THE TIED CARD OF 'slotmeshlaw37.TrickleReset'. -/
def trickleResetCard : Claim7 := { stood := { row := trickleResetRow, standIns := [], harness := (true, "0dc8c5851bf6d003eaa506a9a3fb31a25da19ae8dad0f8d61d1d31dfe8f58e58"), looks := false }, kinds := [], alts := [], laidByText := true, laidKinds := [.data], laidTests := true, laidLooks := .later }
def TrickleResetCardSaid : Prop := Claim7.holds Tryd.pinned (.plain (OpenSpec.ofChange trickleResetSpec)) trickleResetCard

/-- THE SECOND FORM's CARD OF 'slotmeshlaw37.TrickleSeldom'. -/
def trickleSeldomUptoCard : Claim7 := { stood := { row := trickleSeldomUptoRow, standIns := [], harness := (true, "0dc8c5851bf6d003eaa506a9a3fb31a25da19ae8dad0f8d61d1d31dfe8f58e58"), looks := false }, kinds := [], alts := [], laidByText := true, laidKinds := [.data], laidTests := true, laidLooks := .later }
def TrickleSeldomUptoCardSaid : Prop := Claim7.holds Tryd.pinned (.plain (OpenSpec.upto trickleSeldomSpec)) trickleSeldomUptoCard

/-- THE SECOND FORM's CARD OF 'slotmeshlaw37.TrickleAgain'. -/
def trickleAgainUptoCard : Claim7 := { stood := { row := trickleAgainUptoRow, standIns := [], harness := (true, "0dc8c5851bf6d003eaa506a9a3fb31a25da19ae8dad0f8d61d1d31dfe8f58e58"), looks := false }, kinds := [], alts := [], laidByText := true, laidKinds := [.data], laidTests := true, laidLooks := .later }
def TrickleAgainUptoCardSaid : Prop := Claim7.holds Tryd.pinned (.plain (OpenSpec.upto trickleAgainSpec)) trickleAgainUptoCard

/-- THE SECOND FORM's CARD OF 'slotmeshlaw37.TrickleSuppressed'. -/
def trickleSuppressedUptoCard : Claim7 := { stood := { row := trickleSuppressedUptoRow, standIns := [], harness := (true, "0dc8c5851bf6d003eaa506a9a3fb31a25da19ae8dad0f8d61d1d31dfe8f58e58"), looks := false }, kinds := [], alts := [], laidByText := true, laidKinds := [.data], laidTests := true, laidLooks := .later }
def TrickleSuppressedUptoCardSaid : Prop := Claim7.holds Tryd.pinned (.plain (OpenSpec.upto trickleSuppressedSpec)) trickleSuppressedUptoCard

/-- THE SECOND FORM's CARD OF 'slotmeshlaw37.TrickleGrowth'. -/
def trickleGrowthUptoCard : Claim7 := { stood := { row := trickleGrowthUptoRow, standIns := [], harness := (true, "0dc8c5851bf6d003eaa506a9a3fb31a25da19ae8dad0f8d61d1d31dfe8f58e58"), looks := false }, kinds := [], alts := [], laidByText := true, laidKinds := [.data], laidTests := true, laidLooks := .later }
def TrickleGrowthUptoCardSaid : Prop := Claim7.holds Tryd.pinned (.plain (OpenSpec.upto trickleGrowthSpec)) trickleGrowthUptoCard

/-- THE SECOND FORM's CARD OF 'slotmeshlaw37.TrickleMatchesReference'. -/
def trickleMatchesReferenceUptoCard : Claim7 := { stood := { row := trickleMatchesReferenceUptoRow, standIns := [], harness := (true, "0dc8c5851bf6d003eaa506a9a3fb31a25da19ae8dad0f8d61d1d31dfe8f58e58"), looks := false }, kinds := [], alts := [], laidByText := true, laidKinds := [.data], laidTests := true, laidLooks := .later }
def TrickleMatchesReferenceUptoCardSaid : Prop := Claim7.holds Tryd.pinned (.plain (OpenSpec.upto trickleMatchesReferenceSpec)) trickleMatchesReferenceUptoCard

/-- THE SECOND FORM's CARD OF 'slotmeshlaw37.TrickleValid'. -/
def trickleValidUptoCard : Claim7 := { stood := { row := trickleValidUptoRow, standIns := [], harness := (true, "0dc8c5851bf6d003eaa506a9a3fb31a25da19ae8dad0f8d61d1d31dfe8f58e58"), looks := false }, kinds := [], alts := [], laidByText := true, laidKinds := [.data], laidTests := true, laidLooks := .later }
def TrickleValidUptoCardSaid : Prop := Claim7.holds Tryd.pinned (.plain (OpenSpec.upto trickleValidSpec)) trickleValidUptoCard

/-- THE SECOND FORM's CARD OF 'slotmeshlaw37.TrickleReset'. -/
def trickleResetUptoCard : Claim7 := { stood := { row := trickleResetUptoRow, standIns := [], harness := (true, "0dc8c5851bf6d003eaa506a9a3fb31a25da19ae8dad0f8d61d1d31dfe8f58e58"), looks := false }, kinds := [], alts := [], laidByText := true, laidKinds := [.data], laidTests := true, laidLooks := .later }
def TrickleResetUptoCardSaid : Prop := Claim7.holds Tryd.pinned (.plain (OpenSpec.upto trickleResetSpec)) trickleResetUptoCard
end Rows
end Go.Proofs.YteeajkopigdblaaDoor
