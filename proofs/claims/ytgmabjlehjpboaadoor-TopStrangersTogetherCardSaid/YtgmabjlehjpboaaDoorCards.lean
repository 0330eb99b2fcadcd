/-
  DERIVED. GIVEN WITH THE SEED: THE CARDS: each row of YtgmabjlehjpboaaDoorRows.lean that lists a variable, with what it lists TIED to the program's text (the seventh form; the later family's looks); each row that meets fmt, with fmt's text TOLD by the authors' own Lean function (tested against real Go, not proved from fmt's source: count such statements apart). THE CARD IS WHAT COUNTS. Prove the row's statement (the work); the ties are given (YtgmabjlehjpboaaDoorTie.lean); close each card by the builder's one call (the guide's Derived/Test/ToyasCard.lean, 'card_holds'). Laid BY PROGRAM, IN A SANDBOX (cutbox-door.mjs). By AI agents, Wed Nov 11 2026. No macro, syntax, notation, axiom, sorry.
-/
import Derived.Test.YtgmabjlehjpboaaDoorRows
import GoSem.ClaimSeven
namespace Go.Proofs.YtgmabjlehjpboaaDoor
namespace Rows

/-- THE TIED CARD OF 'slotmeshtop.TopStrangersTogether'. -/
def topStrangersTogetherCard : Claim7 := { stood := { row := topStrangersTogetherRow, standIns := [], harness := (true, "95df3941a899db4c1bcbe33a6d9adc1cf7fdb7b99c5c84879b76953290d978d0"), looks := false }, kinds := [], alts := [], laidByText := true, laidKinds := [.data], laidTests := true, laidLooks := .later }
def TopStrangersTogetherCardSaid : Prop := Claim7.holds Tryd.pinned (.plain (OpenSpec.ofChange topStrangersTogetherSpec)) topStrangersTogetherCard

/-- THE TIED CARD OF 'slotmeshtop.TopImpostors'. -/
def topImpostorsCard : Claim7 := { stood := { row := topImpostorsRow, standIns := [], harness := (true, "95df3941a899db4c1bcbe33a6d9adc1cf7fdb7b99c5c84879b76953290d978d0"), looks := false }, kinds := [], alts := [], laidByText := true, laidKinds := [.data], laidTests := true, laidLooks := .later }
def TopImpostorsCardSaid : Prop := Claim7.holds Tryd.pinned (.plain (OpenSpec.ofChange topImpostorsSpec)) topImpostorsCard

/-- THE TIED CARD OF 'slotmeshtop.TopFlood'. -/
def topFloodCard : Claim7 := { stood := { row := topFloodRow, standIns := [], harness := (true, "95df3941a899db4c1bcbe33a6d9adc1cf7fdb7b99c5c84879b76953290d978d0"), looks := false }, kinds := [], alts := [], laidByText := true, laidKinds := [.data], laidTests := true, laidLooks := .later }
def TopFloodCardSaid : Prop := Claim7.holds Tryd.pinned (.plain (OpenSpec.ofChange topFloodSpec)) topFloodCard

/-- THE TIED CARD OF 'slotmeshtop.TopKeyedStranger'. -/
def topKeyedStrangerCard : Claim7 := { stood := { row := topKeyedStrangerRow, standIns := [], harness := (true, "95df3941a899db4c1bcbe33a6d9adc1cf7fdb7b99c5c84879b76953290d978d0"), looks := false }, kinds := [], alts := [], laidByText := true, laidKinds := [.data], laidTests := true, laidLooks := .later }
def TopKeyedStrangerCardSaid : Prop := Claim7.holds Tryd.pinned (.plain (OpenSpec.ofChange topKeyedStrangerSpec)) topKeyedStrangerCard

/-- THE SECOND FORM's CARD OF 'slotmeshtop.TopStrangersTogether'. -/
def topStrangersTogetherUptoCard : Claim7 := { stood := { row := topStrangersTogetherUptoRow, standIns := [], harness := (true, "95df3941a899db4c1bcbe33a6d9adc1cf7fdb7b99c5c84879b76953290d978d0"), looks := false }, kinds := [], alts := [], laidByText := true, laidKinds := [.data], laidTests := true, laidLooks := .later }
def TopStrangersTogetherUptoCardSaid : Prop := Claim7.holds Tryd.pinned (.plain (OpenSpec.upto topStrangersTogetherSpec)) topStrangersTogetherUptoCard

/-- THE SECOND FORM's CARD OF 'slotmeshtop.TopImpostors'. -/
def topImpostorsUptoCard : Claim7 := { stood := { row := topImpostorsUptoRow, standIns := [], harness := (true, "95df3941a899db4c1bcbe33a6d9adc1cf7fdb7b99c5c84879b76953290d978d0"), looks := false }, kinds := [], alts := [], laidByText := true, laidKinds := [.data], laidTests := true, laidLooks := .later }
def TopImpostorsUptoCardSaid : Prop := Claim7.holds Tryd.pinned (.plain (OpenSpec.upto topImpostorsSpec)) topImpostorsUptoCard

/-- THE SECOND FORM's CARD OF 'slotmeshtop.TopFlood'. -/
def topFloodUptoCard : Claim7 := { stood := { row := topFloodUptoRow, standIns := [], harness := (true, "95df3941a899db4c1bcbe33a6d9adc1cf7fdb7b99c5c84879b76953290d978d0"), looks := false }, kinds := [], alts := [], laidByText := true, laidKinds := [.data], laidTests := true, laidLooks := .later }
def TopFloodUptoCardSaid : Prop := Claim7.holds Tryd.pinned (.plain (OpenSpec.upto topFloodSpec)) topFloodUptoCard

/-- THE SECOND FORM's CARD OF 'slotmeshtop.TopKeyedStranger'. -/
def topKeyedStrangerUptoCard : Claim7 := { stood := { row := topKeyedStrangerUptoRow, standIns := [], harness := (true, "95df3941a899db4c1bcbe33a6d9adc1cf7fdb7b99c5c84879b76953290d978d0"), looks := false }, kinds := [], alts := [], laidByText := true, laidKinds := [.data], laidTests := true, laidLooks := .later }
def TopKeyedStrangerUptoCardSaid : Prop := Claim7.holds Tryd.pinned (.plain (OpenSpec.upto topKeyedStrangerSpec)) topKeyedStrangerUptoCard
end Rows
end Go.Proofs.YtgmabjlehjpboaaDoor
