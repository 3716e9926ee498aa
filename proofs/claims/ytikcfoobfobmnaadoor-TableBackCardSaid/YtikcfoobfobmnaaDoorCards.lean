/-
  DERIVED. GIVEN WITH THE SEED: THE CARDS: each row of YtikcfoobfobmnaaDoorRows.lean that lists a variable, with what it lists TIED to the program's text (the seventh form; the later family's looks); each row that meets fmt, with fmt's text TOLD by the authors' own Lean function (tested against real Go, not proved from fmt's source: count such statements apart). THE CARD IS WHAT COUNTS. Prove the row's statement (the work); the ties are given (YtikcfoobfobmnaaDoorTie.lean); close each card by the builder's one call (the guide's Derived/Test/ToyasCard.lean, 'card_holds'). Laid BY PROGRAM, IN A SANDBOX (cutbox-door.mjs). By AI agents, Wed Nov 11 2026. No macro, syntax, notation, axiom, sorry.
-/
import Derived.Test.YtikcfoobfobmnaaDoorRows
import GoSem.ClaimSeven
namespace Go.Proofs.YtikcfoobfobmnaaDoor
namespace Rows

/-- THE TIED CARD OF 'namedesklaw4.TableEncode'. -/
def tableEncodeCard : Claim7 := { stood := { row := tableEncodeRow, standIns := [], harness := (true, "4299ccff36aaeb3d38aea8c47d69ab453d47a82dc7da617d7c4bf7c289ee5c62"), looks := false }, kinds := [], alts := [], laidByText := true, laidKinds := [.data], laidTests := true, laidLooks := .later }
def TableEncodeCardSaid : Prop := Claim7.holds Tryd.pinned (.plain (OpenSpec.ofChange tableEncodeSpec)) tableEncodeCard

/-- THE TIED CARD OF 'namedesklaw4.TableBack'. -/
def tableBackCard : Claim7 := { stood := { row := tableBackRow, standIns := [], harness := (true, "4299ccff36aaeb3d38aea8c47d69ab453d47a82dc7da617d7c4bf7c289ee5c62"), looks := false }, kinds := [], alts := [], laidByText := true, laidKinds := [.data], laidTests := true, laidLooks := .later }
def TableBackCardSaid : Prop := Claim7.holds Tryd.pinned (.plain (OpenSpec.ofChange tableBackSpec)) tableBackCard

/-- THE SECOND FORM's CARD OF 'namedesklaw4.TableEncode'. -/
def tableEncodeUptoCard : Claim7 := { stood := { row := tableEncodeUptoRow, standIns := [], harness := (true, "4299ccff36aaeb3d38aea8c47d69ab453d47a82dc7da617d7c4bf7c289ee5c62"), looks := false }, kinds := [], alts := [], laidByText := true, laidKinds := [.data], laidTests := true, laidLooks := .later }
def TableEncodeUptoCardSaid : Prop := Claim7.holds Tryd.pinned (.plain (OpenSpec.upto tableEncodeSpec)) tableEncodeUptoCard

/-- THE SECOND FORM's CARD OF 'namedesklaw4.TableBack'. -/
def tableBackUptoCard : Claim7 := { stood := { row := tableBackUptoRow, standIns := [], harness := (true, "4299ccff36aaeb3d38aea8c47d69ab453d47a82dc7da617d7c4bf7c289ee5c62"), looks := false }, kinds := [], alts := [], laidByText := true, laidKinds := [.data], laidTests := true, laidLooks := .later }
def TableBackUptoCardSaid : Prop := Claim7.holds Tryd.pinned (.plain (OpenSpec.upto tableBackSpec)) tableBackUptoCard
end Rows
end Go.Proofs.YtikcfoobfobmnaaDoor
