/-
  DERIVED. GIVEN WITH THE SEED: THE CARDS: each row of YtkdhldhbjomiaaaDoorRows.lean that lists a variable, with what it lists TIED to the program's text (the seventh form; the later family's looks); each row that meets fmt, with fmt's text TOLD by the authors' own Lean function (tested against real Go, not proved from fmt's source: count such statements apart). THE CARD IS WHAT COUNTS. Prove the row's statement (the work); the ties are given (YtkdhldhbjomiaaaDoorTie.lean); close each card by the builder's one call (the guide's Derived/Test/ToyasCard.lean, 'card_holds'). Laid BY PROGRAM, IN A SANDBOX (cutbox-door.mjs). By AI agents, Wed Nov 11 2026. No macro, syntax, notation, axiom, sorry.
-/
import Derived.Test.YtkdhldhbjomiaaaDoorRows
import GoSem.ClaimSeven
namespace Go.Proofs.YtkdhldhbjomiaaaDoor
namespace Rows

/-- THE TIED CARD OF 'namedesklaw4.TableCheck'. -/
def tableCheckCard : Claim7 := { stood := { row := tableCheckRow, standIns := [], harness := (true, "ab86e13e0fe10f46cefb534cd5243a0e7990c509ef1b0719fbb6492fca84b026"), looks := false }, kinds := [], alts := [], laidByText := true, laidKinds := [.data], laidTests := true, laidLooks := .later }
def TableCheckCardSaid : Prop := Claim7.holds Tryd.pinned (.plain (OpenSpec.ofChange tableCheckSpec)) tableCheckCard

/-- THE TIED CARD OF 'namedesklaw4.TableOther'. -/
def tableOtherCard : Claim7 := { stood := { row := tableOtherRow, standIns := [], harness := (true, "ab86e13e0fe10f46cefb534cd5243a0e7990c509ef1b0719fbb6492fca84b026"), looks := false }, kinds := [], alts := [], laidByText := true, laidKinds := [.data], laidTests := true, laidLooks := .later }
def TableOtherCardSaid : Prop := Claim7.holds Tryd.pinned (.plain (OpenSpec.ofChange tableOtherSpec)) tableOtherCard

/-- THE TIED CARD OF 'namedesklaw4.TableMapped'. -/
def tableMappedCard : Claim7 := { stood := { row := tableMappedRow, standIns := [], harness := (true, "ab86e13e0fe10f46cefb534cd5243a0e7990c509ef1b0719fbb6492fca84b026"), looks := false }, kinds := [], alts := [], laidByText := true, laidKinds := [.data], laidTests := true, laidLooks := .later }
def TableMappedCardSaid : Prop := Claim7.holds Tryd.pinned (.plain (OpenSpec.ofChange tableMappedSpec)) tableMappedCard

/-- THE TIED CARD OF 'namedesklaw4.TableProperties'. -/
def tablePropertiesCard : Claim7 := { stood := { row := tablePropertiesRow, standIns := [], harness := (true, "ab86e13e0fe10f46cefb534cd5243a0e7990c509ef1b0719fbb6492fca84b026"), looks := false }, kinds := [], alts := [], laidByText := true, laidKinds := [.data], laidTests := true, laidLooks := .later }
def TablePropertiesCardSaid : Prop := Claim7.holds Tryd.pinned (.plain (OpenSpec.ofChange tablePropertiesSpec)) tablePropertiesCard

/-- THE TIED CARD OF 'namedesklaw4.TableFixed'. -/
def tableFixedCard : Claim7 := { stood := { row := tableFixedRow, standIns := [], harness := (true, "ab86e13e0fe10f46cefb534cd5243a0e7990c509ef1b0719fbb6492fca84b026"), looks := false }, kinds := [], alts := [], laidByText := true, laidKinds := [.data], laidTests := true, laidLooks := .later }
def TableFixedCardSaid : Prop := Claim7.holds Tryd.pinned (.plain (OpenSpec.ofChange tableFixedSpec)) tableFixedCard

/-- THE TIED CARD OF 'namedesklaw4.TableEncode'. -/
def tableEncodeCard : Claim7 := { stood := { row := tableEncodeRow, standIns := [], harness := (true, "ab86e13e0fe10f46cefb534cd5243a0e7990c509ef1b0719fbb6492fca84b026"), looks := false }, kinds := [], alts := [], laidByText := true, laidKinds := [.data], laidTests := true, laidLooks := .later }
def TableEncodeCardSaid : Prop := Claim7.holds Tryd.pinned (.plain (OpenSpec.ofChange tableEncodeSpec)) tableEncodeCard

/-- THE TIED CARD OF 'namedesklaw4.TableBack'. -/
def tableBackCard : Claim7 := { stood := { row := tableBackRow, standIns := [], harness := (true, "ab86e13e0fe10f46cefb534cd5243a0e7990c509ef1b0719fbb6492fca84b026"), looks := false }, kinds := [], alts := [], laidByText := true, laidKinds := [.data], laidTests := true, laidLooks := .later }
def TableBackCardSaid : Prop := Claim7.holds Tryd.pinned (.plain (OpenSpec.ofChange tableBackSpec)) tableBackCard

/-- THE SECOND FORM's CARD OF 'namedesklaw4.TableCheck'. -/
def tableCheckUptoCard : Claim7 := { stood := { row := tableCheckUptoRow, standIns := [], harness := (true, "ab86e13e0fe10f46cefb534cd5243a0e7990c509ef1b0719fbb6492fca84b026"), looks := false }, kinds := [], alts := [], laidByText := true, laidKinds := [.data], laidTests := true, laidLooks := .later }
def TableCheckUptoCardSaid : Prop := Claim7.holds Tryd.pinned (.plain (OpenSpec.upto tableCheckSpec)) tableCheckUptoCard

/-- THE SECOND FORM's CARD OF 'namedesklaw4.TableOther'. -/
def tableOtherUptoCard : Claim7 := { stood := { row := tableOtherUptoRow, standIns := [], harness := (true, "ab86e13e0fe10f46cefb534cd5243a0e7990c509ef1b0719fbb6492fca84b026"), looks := false }, kinds := [], alts := [], laidByText := true, laidKinds := [.data], laidTests := true, laidLooks := .later }
def TableOtherUptoCardSaid : Prop := Claim7.holds Tryd.pinned (.plain (OpenSpec.upto tableOtherSpec)) tableOtherUptoCard

/-- THE SECOND FORM's CARD OF 'namedesklaw4.TableMapped'. -/
def tableMappedUptoCard : Claim7 := { stood := { row := tableMappedUptoRow, standIns := [], harness := (true, "ab86e13e0fe10f46cefb534cd5243a0e7990c509ef1b0719fbb6492fca84b026"), looks := false }, kinds := [], alts := [], laidByText := true, laidKinds := [.data], laidTests := true, laidLooks := .later }
def TableMappedUptoCardSaid : Prop := Claim7.holds Tryd.pinned (.plain (OpenSpec.upto tableMappedSpec)) tableMappedUptoCard

/-- THE SECOND FORM's CARD OF 'namedesklaw4.TableProperties'. -/
def tablePropertiesUptoCard : Claim7 := { stood := { row := tablePropertiesUptoRow, standIns := [], harness := (true, "ab86e13e0fe10f46cefb534cd5243a0e7990c509ef1b0719fbb6492fca84b026"), looks := false }, kinds := [], alts := [], laidByText := true, laidKinds := [.data], laidTests := true, laidLooks := .later }
def TablePropertiesUptoCardSaid : Prop := Claim7.holds Tryd.pinned (.plain (OpenSpec.upto tablePropertiesSpec)) tablePropertiesUptoCard

/-- THE SECOND FORM's CARD OF 'namedesklaw4.TableFixed'. -/
def tableFixedUptoCard : Claim7 := { stood := { row := tableFixedUptoRow, standIns := [], harness := (true, "ab86e13e0fe10f46cefb534cd5243a0e7990c509ef1b0719fbb6492fca84b026"), looks := false }, kinds := [], alts := [], laidByText := true, laidKinds := [.data], laidTests := true, laidLooks := .later }
def TableFixedUptoCardSaid : Prop := Claim7.holds Tryd.pinned (.plain (OpenSpec.upto tableFixedSpec)) tableFixedUptoCard

/-- THE SECOND FORM's CARD OF 'namedesklaw4.TableEncode'. -/
def tableEncodeUptoCard : Claim7 := { stood := { row := tableEncodeUptoRow, standIns := [], harness := (true, "ab86e13e0fe10f46cefb534cd5243a0e7990c509ef1b0719fbb6492fca84b026"), looks := false }, kinds := [], alts := [], laidByText := true, laidKinds := [.data], laidTests := true, laidLooks := .later }
def TableEncodeUptoCardSaid : Prop := Claim7.holds Tryd.pinned (.plain (OpenSpec.upto tableEncodeSpec)) tableEncodeUptoCard

/-- THE SECOND FORM's CARD OF 'namedesklaw4.TableBack'. -/
def tableBackUptoCard : Claim7 := { stood := { row := tableBackUptoRow, standIns := [], harness := (true, "ab86e13e0fe10f46cefb534cd5243a0e7990c509ef1b0719fbb6492fca84b026"), looks := false }, kinds := [], alts := [], laidByText := true, laidKinds := [.data], laidTests := true, laidLooks := .later }
def TableBackUptoCardSaid : Prop := Claim7.holds Tryd.pinned (.plain (OpenSpec.upto tableBackSpec)) tableBackUptoCard
end Rows
end Go.Proofs.YtkdhldhbjomiaaaDoor
