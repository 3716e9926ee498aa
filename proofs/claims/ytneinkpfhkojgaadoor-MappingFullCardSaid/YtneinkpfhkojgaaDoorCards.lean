/-
  DERIVED. GIVEN WITH THE SEED: THE CARDS: each row of YtneinkpfhkojgaaDoorRows.lean that lists a variable, with what it lists TIED to the program's text (the seventh form; the later family's looks); each row that meets fmt, with fmt's text TOLD by the authors' own Lean function (tested against real Go, not proved from fmt's source: count such statements apart). THE CARD IS WHAT COUNTS. Prove the row's statement (the work); the ties are given (YtneinkpfhkojgaaDoorTie.lean); close each card by the builder's one call (the guide's Derived/Test/ToyasCard.lean, 'card_holds'). Laid BY PROGRAM, IN A SANDBOX (cutbox-door.mjs). By AI agents, Wed Nov 11 2026. No macro, syntax, notation, axiom, sorry.
-/
import Derived.Test.YtneinkpfhkojgaaDoorRows
import GoSem.ClaimSeven
namespace Go.Proofs.YtneinkpfhkojgaaDoor
namespace Rows

/-- THE TIED CARD OF 'namedesklaw6.OrderNeighbours'. -/
def orderNeighboursCard : Claim7 := { stood := { row := orderNeighboursRow, standIns := [], harness := (true, "a8ae18b29893fb24563be92401b7c0b220facdbb68b8aae84d971c5890ebc34d"), looks := false }, kinds := [], alts := [], laidByText := true, laidKinds := [.data], laidTests := true, laidLooks := .later }
def OrderNeighboursCardSaid : Prop := Claim7.holds Tryd.pinned (.plain (OpenSpec.ofChange orderNeighboursSpec)) orderNeighboursCard

/-- THE TIED CARD OF 'namedesklaw6.OrderConcatenation'. -/
def orderConcatenationCard : Claim7 := { stood := { row := orderConcatenationRow, standIns := [], harness := (true, "a8ae18b29893fb24563be92401b7c0b220facdbb68b8aae84d971c5890ebc34d"), looks := false }, kinds := [], alts := [], laidByText := true, laidKinds := [.data], laidTests := true, laidLooks := .later }
def OrderConcatenationCardSaid : Prop := Claim7.holds Tryd.pinned (.plain (OpenSpec.ofChange orderConcatenationSpec)) orderConcatenationCard

/-- THE TIED CARD OF 'namedesklaw6.OrderRuns'. -/
def orderRunsCard : Claim7 := { stood := { row := orderRunsRow, standIns := [], harness := (true, "a8ae18b29893fb24563be92401b7c0b220facdbb68b8aae84d971c5890ebc34d"), looks := false }, kinds := [], alts := [], laidByText := true, laidKinds := [.data], laidTests := true, laidLooks := .later }
def OrderRunsCardSaid : Prop := Claim7.holds Tryd.pinned (.plain (OpenSpec.ofChange orderRunsSpec)) orderRunsCard

/-- THE TIED CARD OF 'namedesklaw13.MappingConcatenation'. -/
def mappingConcatenationCard : Claim7 := { stood := { row := mappingConcatenationRow, standIns := [], harness := (true, "a8ae18b29893fb24563be92401b7c0b220facdbb68b8aae84d971c5890ebc34d"), looks := false }, kinds := [], alts := [], laidByText := true, laidKinds := [.data], laidTests := true, laidLooks := .later }
def MappingConcatenationCardSaid : Prop := Claim7.holds Tryd.pinned (.plain (OpenSpec.ofChange mappingConcatenationSpec)) mappingConcatenationCard

/-- THE TIED CARD OF 'namedesklaw13.MappingPermitted'. -/
def mappingPermittedCard : Claim7 := { stood := { row := mappingPermittedRow, standIns := [], harness := (true, "a8ae18b29893fb24563be92401b7c0b220facdbb68b8aae84d971c5890ebc34d"), looks := false }, kinds := [], alts := [], laidByText := true, laidKinds := [.data], laidTests := true, laidLooks := .later }
def MappingPermittedCardSaid : Prop := Claim7.holds Tryd.pinned (.plain (OpenSpec.ofChange mappingPermittedSpec)) mappingPermittedCard

/-- THE TIED CARD OF 'namedesklaw13.MappingLetters'. -/
def mappingLettersCard : Claim7 := { stood := { row := mappingLettersRow, standIns := [], harness := (true, "a8ae18b29893fb24563be92401b7c0b220facdbb68b8aae84d971c5890ebc34d"), looks := false }, kinds := [], alts := [], laidByText := true, laidKinds := [.data], laidTests := true, laidLooks := .later }
def MappingLettersCardSaid : Prop := Claim7.holds Tryd.pinned (.plain (OpenSpec.ofChange mappingLettersSpec)) mappingLettersCard

/-- THE TIED CARD OF 'namedesklaw13.MappingFull'. -/
def mappingFullCard : Claim7 := { stood := { row := mappingFullRow, standIns := [], harness := (true, "a8ae18b29893fb24563be92401b7c0b220facdbb68b8aae84d971c5890ebc34d"), looks := false }, kinds := [], alts := [], laidByText := true, laidKinds := [.data], laidTests := true, laidLooks := .later }
def MappingFullCardSaid : Prop := Claim7.holds Tryd.pinned (.plain (OpenSpec.ofChange mappingFullSpec)) mappingFullCard

/-- THE TIED CARD OF 'namedesklaw6.OrderMade'. -/
def orderMadeCard : Claim7 := { stood := { row := orderMadeRow, standIns := [], harness := (true, "a8ae18b29893fb24563be92401b7c0b220facdbb68b8aae84d971c5890ebc34d"), looks := false }, kinds := [], alts := [], laidByText := true, laidKinds := [.data], laidTests := true, laidLooks := .later }
def OrderMadeCardSaid : Prop := Claim7.holds Tryd.pinned (.plain (OpenSpec.ofChange orderMadeSpec)) orderMadeCard

/-- THE TIED CARD OF 'namedesklaw6.OrderErrors'. -/
def orderErrorsCard : Claim7 := { stood := { row := orderErrorsRow, standIns := [], harness := (true, "a8ae18b29893fb24563be92401b7c0b220facdbb68b8aae84d971c5890ebc34d"), looks := false }, kinds := [], alts := [], laidByText := true, laidKinds := [.data], laidTests := true, laidLooks := .later }
def OrderErrorsCardSaid : Prop := Claim7.holds Tryd.pinned (.plain (OpenSpec.ofChange orderErrorsSpec)) orderErrorsCard

/-- THE TIED CARD OF 'namedesklaw6.OrderStable'. -/
def orderStableCard : Claim7 := { stood := { row := orderStableRow, standIns := [], harness := (true, "a8ae18b29893fb24563be92401b7c0b220facdbb68b8aae84d971c5890ebc34d"), looks := false }, kinds := [], alts := [], laidByText := true, laidKinds := [.data], laidTests := true, laidLooks := .later }
def OrderStableCardSaid : Prop := Claim7.holds Tryd.pinned (.plain (OpenSpec.ofChange orderStableSpec)) orderStableCard

/-- THE TIED CARD OF 'namedesklaw13.MappingTwice'. -/
def mappingTwiceCard : Claim7 := { stood := { row := mappingTwiceRow, standIns := [], harness := (true, "a8ae18b29893fb24563be92401b7c0b220facdbb68b8aae84d971c5890ebc34d"), looks := false }, kinds := [], alts := [], laidByText := true, laidKinds := [.data], laidTests := true, laidLooks := .later }
def MappingTwiceCardSaid : Prop := Claim7.holds Tryd.pinned (.plain (OpenSpec.ofChange mappingTwiceSpec)) mappingTwiceCard

/-- THE SECOND FORM's CARD OF 'namedesklaw6.OrderNeighbours'. -/
def orderNeighboursUptoCard : Claim7 := { stood := { row := orderNeighboursUptoRow, standIns := [], harness := (true, "a8ae18b29893fb24563be92401b7c0b220facdbb68b8aae84d971c5890ebc34d"), looks := false }, kinds := [], alts := [], laidByText := true, laidKinds := [.data], laidTests := true, laidLooks := .later }
def OrderNeighboursUptoCardSaid : Prop := Claim7.holds Tryd.pinned (.plain (OpenSpec.upto orderNeighboursSpec)) orderNeighboursUptoCard

/-- THE SECOND FORM's CARD OF 'namedesklaw6.OrderConcatenation'. -/
def orderConcatenationUptoCard : Claim7 := { stood := { row := orderConcatenationUptoRow, standIns := [], harness := (true, "a8ae18b29893fb24563be92401b7c0b220facdbb68b8aae84d971c5890ebc34d"), looks := false }, kinds := [], alts := [], laidByText := true, laidKinds := [.data], laidTests := true, laidLooks := .later }
def OrderConcatenationUptoCardSaid : Prop := Claim7.holds Tryd.pinned (.plain (OpenSpec.upto orderConcatenationSpec)) orderConcatenationUptoCard

/-- THE SECOND FORM's CARD OF 'namedesklaw6.OrderRuns'. -/
def orderRunsUptoCard : Claim7 := { stood := { row := orderRunsUptoRow, standIns := [], harness := (true, "a8ae18b29893fb24563be92401b7c0b220facdbb68b8aae84d971c5890ebc34d"), looks := false }, kinds := [], alts := [], laidByText := true, laidKinds := [.data], laidTests := true, laidLooks := .later }
def OrderRunsUptoCardSaid : Prop := Claim7.holds Tryd.pinned (.plain (OpenSpec.upto orderRunsSpec)) orderRunsUptoCard

/-- THE SECOND FORM's CARD OF 'namedesklaw13.MappingConcatenation'. -/
def mappingConcatenationUptoCard : Claim7 := { stood := { row := mappingConcatenationUptoRow, standIns := [], harness := (true, "a8ae18b29893fb24563be92401b7c0b220facdbb68b8aae84d971c5890ebc34d"), looks := false }, kinds := [], alts := [], laidByText := true, laidKinds := [.data], laidTests := true, laidLooks := .later }
def MappingConcatenationUptoCardSaid : Prop := Claim7.holds Tryd.pinned (.plain (OpenSpec.upto mappingConcatenationSpec)) mappingConcatenationUptoCard

/-- THE SECOND FORM's CARD OF 'namedesklaw13.MappingPermitted'. -/
def mappingPermittedUptoCard : Claim7 := { stood := { row := mappingPermittedUptoRow, standIns := [], harness := (true, "a8ae18b29893fb24563be92401b7c0b220facdbb68b8aae84d971c5890ebc34d"), looks := false }, kinds := [], alts := [], laidByText := true, laidKinds := [.data], laidTests := true, laidLooks := .later }
def MappingPermittedUptoCardSaid : Prop := Claim7.holds Tryd.pinned (.plain (OpenSpec.upto mappingPermittedSpec)) mappingPermittedUptoCard

/-- THE SECOND FORM's CARD OF 'namedesklaw13.MappingLetters'. -/
def mappingLettersUptoCard : Claim7 := { stood := { row := mappingLettersUptoRow, standIns := [], harness := (true, "a8ae18b29893fb24563be92401b7c0b220facdbb68b8aae84d971c5890ebc34d"), looks := false }, kinds := [], alts := [], laidByText := true, laidKinds := [.data], laidTests := true, laidLooks := .later }
def MappingLettersUptoCardSaid : Prop := Claim7.holds Tryd.pinned (.plain (OpenSpec.upto mappingLettersSpec)) mappingLettersUptoCard

/-- THE SECOND FORM's CARD OF 'namedesklaw13.MappingFull'. -/
def mappingFullUptoCard : Claim7 := { stood := { row := mappingFullUptoRow, standIns := [], harness := (true, "a8ae18b29893fb24563be92401b7c0b220facdbb68b8aae84d971c5890ebc34d"), looks := false }, kinds := [], alts := [], laidByText := true, laidKinds := [.data], laidTests := true, laidLooks := .later }
def MappingFullUptoCardSaid : Prop := Claim7.holds Tryd.pinned (.plain (OpenSpec.upto mappingFullSpec)) mappingFullUptoCard

/-- THE SECOND FORM's CARD OF 'namedesklaw6.OrderMade'. -/
def orderMadeUptoCard : Claim7 := { stood := { row := orderMadeUptoRow, standIns := [], harness := (true, "a8ae18b29893fb24563be92401b7c0b220facdbb68b8aae84d971c5890ebc34d"), looks := false }, kinds := [], alts := [], laidByText := true, laidKinds := [.data], laidTests := true, laidLooks := .later }
def OrderMadeUptoCardSaid : Prop := Claim7.holds Tryd.pinned (.plain (OpenSpec.upto orderMadeSpec)) orderMadeUptoCard

/-- THE SECOND FORM's CARD OF 'namedesklaw6.OrderErrors'. -/
def orderErrorsUptoCard : Claim7 := { stood := { row := orderErrorsUptoRow, standIns := [], harness := (true, "a8ae18b29893fb24563be92401b7c0b220facdbb68b8aae84d971c5890ebc34d"), looks := false }, kinds := [], alts := [], laidByText := true, laidKinds := [.data], laidTests := true, laidLooks := .later }
def OrderErrorsUptoCardSaid : Prop := Claim7.holds Tryd.pinned (.plain (OpenSpec.upto orderErrorsSpec)) orderErrorsUptoCard

/-- THE SECOND FORM's CARD OF 'namedesklaw6.OrderStable'. -/
def orderStableUptoCard : Claim7 := { stood := { row := orderStableUptoRow, standIns := [], harness := (true, "a8ae18b29893fb24563be92401b7c0b220facdbb68b8aae84d971c5890ebc34d"), looks := false }, kinds := [], alts := [], laidByText := true, laidKinds := [.data], laidTests := true, laidLooks := .later }
def OrderStableUptoCardSaid : Prop := Claim7.holds Tryd.pinned (.plain (OpenSpec.upto orderStableSpec)) orderStableUptoCard

/-- THE SECOND FORM's CARD OF 'namedesklaw13.MappingTwice'. -/
def mappingTwiceUptoCard : Claim7 := { stood := { row := mappingTwiceUptoRow, standIns := [], harness := (true, "a8ae18b29893fb24563be92401b7c0b220facdbb68b8aae84d971c5890ebc34d"), looks := false }, kinds := [], alts := [], laidByText := true, laidKinds := [.data], laidTests := true, laidLooks := .later }
def MappingTwiceUptoCardSaid : Prop := Claim7.holds Tryd.pinned (.plain (OpenSpec.upto mappingTwiceSpec)) mappingTwiceUptoCard
end Rows
end Go.Proofs.YtneinkpfhkojgaaDoor
