/-
  DERIVED. GIVEN WITH THE SEED: THE CARDS: each row of YthcfpikalmklbaaDoorRows.lean that lists a variable, with what it lists TIED to the program's text (the seventh form; the later family's looks); each row that meets fmt, with fmt's text TOLD by the authors' own Lean function (tested against real Go, not proved from fmt's source: count such statements apart). THE CARD IS WHAT COUNTS. Prove the row's statement (the work); the ties are given (YthcfpikalmklbaaDoorTie.lean); close each card by the builder's one call (the guide's Derived/Test/ToyasCard.lean, 'card_holds'). Laid BY PROGRAM, IN A SANDBOX (cutbox-door.mjs). By AI agents, Wed Nov 11 2026. No macro, syntax, notation, axiom, sorry.
-/
import Derived.Test.YthcfpikalmklbaaDoorRows
import GoSem.ClaimSeven
namespace Go.Proofs.YthcfpikalmklbaaDoor
namespace Rows

/-- THE TIED CARD OF 'slotmeshlaw06.RandomMatchesReference'. -/
def randomMatchesReferenceCard : Claim7 := { stood := { row := randomMatchesReferenceRow, standIns := [], harness := (true, "a45ae498b4a19a78975dd518326b6fd48ad2ac4d548bb071e70a290b5fdc6572"), looks := false }, kinds := [], alts := [], laidByText := true, laidKinds := [.data], laidTests := true, laidLooks := .later }
def RandomMatchesReferenceCardSaid : Prop := Claim7.holds Tryd.pinned (.plain (OpenSpec.ofChange randomMatchesReferenceSpec)) randomMatchesReferenceCard

/-- THE TIED CARD OF 'slotmeshlaw06.RandomDistinct'. -/
def randomDistinctCard : Claim7 := { stood := { row := randomDistinctRow, standIns := [], harness := (true, "a45ae498b4a19a78975dd518326b6fd48ad2ac4d548bb071e70a290b5fdc6572"), looks := false }, kinds := [], alts := [], laidByText := true, laidKinds := [.data], laidTests := true, laidLooks := .later }
def RandomDistinctCardSaid : Prop := Claim7.holds Tryd.pinned (.plain (OpenSpec.ofChange randomDistinctSpec)) randomDistinctCard

/-- THE TIED CARD OF 'slotmeshlaw06.RandomRange'. -/
def randomRangeCard : Claim7 := { stood := { row := randomRangeRow, standIns := [], harness := (true, "a45ae498b4a19a78975dd518326b6fd48ad2ac4d548bb071e70a290b5fdc6572"), looks := false }, kinds := [], alts := [], laidByText := true, laidKinds := [.data], laidTests := true, laidLooks := .later }
def RandomRangeCardSaid : Prop := Claim7.holds Tryd.pinned (.plain (OpenSpec.ofChange randomRangeSpec)) randomRangeCard

/-- THE TIED CARD OF 'slotmeshlaw06.RandomPerm'. -/
def randomPermCard : Claim7 := { stood := { row := randomPermRow, standIns := [], harness := (true, "a45ae498b4a19a78975dd518326b6fd48ad2ac4d548bb071e70a290b5fdc6572"), looks := false }, kinds := [], alts := [], laidByText := true, laidKinds := [.data], laidTests := true, laidLooks := .later }
def RandomPermCardSaid : Prop := Claim7.holds Tryd.pinned (.plain (OpenSpec.ofChange randomPermSpec)) randomPermCard

/-- THE TIED CARD OF 'slotmeshlaw06.RandomSteps'. -/
def randomStepsCard : Claim7 := { stood := { row := randomStepsRow, standIns := [], harness := (true, "a45ae498b4a19a78975dd518326b6fd48ad2ac4d548bb071e70a290b5fdc6572"), looks := false }, kinds := [], alts := [], laidByText := true, laidKinds := [.data], laidTests := true, laidLooks := .later }
def RandomStepsCardSaid : Prop := Claim7.holds Tryd.pinned (.plain (OpenSpec.ofChange randomStepsSpec)) randomStepsCard

/-- THE TIED CARD OF 'slotmeshlaw06.RandomMask'. -/
def randomMaskCard : Claim7 := { stood := { row := randomMaskRow, standIns := [], harness := (true, "a45ae498b4a19a78975dd518326b6fd48ad2ac4d548bb071e70a290b5fdc6572"), looks := false }, kinds := [], alts := [], laidByText := true, laidKinds := [.data], laidTests := true, laidLooks := .later }
def RandomMaskCardSaid : Prop := Claim7.holds Tryd.pinned (.plain (OpenSpec.ofChange randomMaskSpec)) randomMaskCard

/-- THE SECOND FORM's CARD OF 'slotmeshlaw06.RandomMatchesReference'. -/
def randomMatchesReferenceUptoCard : Claim7 := { stood := { row := randomMatchesReferenceUptoRow, standIns := [], harness := (true, "a45ae498b4a19a78975dd518326b6fd48ad2ac4d548bb071e70a290b5fdc6572"), looks := false }, kinds := [], alts := [], laidByText := true, laidKinds := [.data], laidTests := true, laidLooks := .later }
def RandomMatchesReferenceUptoCardSaid : Prop := Claim7.holds Tryd.pinned (.plain (OpenSpec.upto randomMatchesReferenceSpec)) randomMatchesReferenceUptoCard

/-- THE SECOND FORM's CARD OF 'slotmeshlaw06.RandomDistinct'. -/
def randomDistinctUptoCard : Claim7 := { stood := { row := randomDistinctUptoRow, standIns := [], harness := (true, "a45ae498b4a19a78975dd518326b6fd48ad2ac4d548bb071e70a290b5fdc6572"), looks := false }, kinds := [], alts := [], laidByText := true, laidKinds := [.data], laidTests := true, laidLooks := .later }
def RandomDistinctUptoCardSaid : Prop := Claim7.holds Tryd.pinned (.plain (OpenSpec.upto randomDistinctSpec)) randomDistinctUptoCard

/-- THE SECOND FORM's CARD OF 'slotmeshlaw06.RandomRange'. -/
def randomRangeUptoCard : Claim7 := { stood := { row := randomRangeUptoRow, standIns := [], harness := (true, "a45ae498b4a19a78975dd518326b6fd48ad2ac4d548bb071e70a290b5fdc6572"), looks := false }, kinds := [], alts := [], laidByText := true, laidKinds := [.data], laidTests := true, laidLooks := .later }
def RandomRangeUptoCardSaid : Prop := Claim7.holds Tryd.pinned (.plain (OpenSpec.upto randomRangeSpec)) randomRangeUptoCard

/-- THE SECOND FORM's CARD OF 'slotmeshlaw06.RandomPerm'. -/
def randomPermUptoCard : Claim7 := { stood := { row := randomPermUptoRow, standIns := [], harness := (true, "a45ae498b4a19a78975dd518326b6fd48ad2ac4d548bb071e70a290b5fdc6572"), looks := false }, kinds := [], alts := [], laidByText := true, laidKinds := [.data], laidTests := true, laidLooks := .later }
def RandomPermUptoCardSaid : Prop := Claim7.holds Tryd.pinned (.plain (OpenSpec.upto randomPermSpec)) randomPermUptoCard

/-- THE SECOND FORM's CARD OF 'slotmeshlaw06.RandomSteps'. -/
def randomStepsUptoCard : Claim7 := { stood := { row := randomStepsUptoRow, standIns := [], harness := (true, "a45ae498b4a19a78975dd518326b6fd48ad2ac4d548bb071e70a290b5fdc6572"), looks := false }, kinds := [], alts := [], laidByText := true, laidKinds := [.data], laidTests := true, laidLooks := .later }
def RandomStepsUptoCardSaid : Prop := Claim7.holds Tryd.pinned (.plain (OpenSpec.upto randomStepsSpec)) randomStepsUptoCard

/-- THE SECOND FORM's CARD OF 'slotmeshlaw06.RandomMask'. -/
def randomMaskUptoCard : Claim7 := { stood := { row := randomMaskUptoRow, standIns := [], harness := (true, "a45ae498b4a19a78975dd518326b6fd48ad2ac4d548bb071e70a290b5fdc6572"), looks := false }, kinds := [], alts := [], laidByText := true, laidKinds := [.data], laidTests := true, laidLooks := .later }
def RandomMaskUptoCardSaid : Prop := Claim7.holds Tryd.pinned (.plain (OpenSpec.upto randomMaskSpec)) randomMaskUptoCard
end Rows
end Go.Proofs.YthcfpikalmklbaaDoor
