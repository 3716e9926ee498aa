/-
  DERIVED. GIVEN WITH THE SEED: THE CARDS: each row of YtjigjjbhdgpfjaaGreatDoorRows.lean that lists a variable, with what it lists TIED to the program's text (the seventh form; the later family's looks); each row that meets fmt, with fmt's text TOLD by the authors' own Lean function (tested against real Go, not proved from fmt's source: count such statements apart). THE CARD IS WHAT COUNTS. Prove the row's statement (the work); the ties are given (YtjigjjbhdgpfjaaGreatDoorTie.lean); close each card by the builder's one call (the guide's Derived/Test/ToyasCard.lean, 'card_holds'). Laid BY PROGRAM, IN A SANDBOX (cutbox-door.mjs). By AI agents, Wed Nov 11 2026. No macro, syntax, notation, axiom, sorry.
-/
import Derived.Test.YtjigjjbhdgpfjaaGreatDoorRows
import GoSem.ClaimSeven
namespace Go.Proofs.YtjigjjbhdgpfjaaGreatDoor
namespace Rows

/-- THE TIED CARD OF 'namedesklaw7.DecomposeConcatenation'. -/
def decomposeConcatenationCard : Claim7 := { stood := { row := decomposeConcatenationRow, standIns := [], harness := (true, "ffb9b35395f063afb67aa686236ee646e16f6cea5d4d0ea965ee3af00f972204"), looks := false }, kinds := [], alts := [], laidByText := true, laidKinds := [.data], laidTests := true, laidLooks := .later }
def DecomposeConcatenationCardSaid : Prop := Claim7.holds Tryz.pinned (.plain (OpenSpec.ofChange decomposeConcatenationSpec)) decomposeConcatenationCard

/-- THE TIED CARD OF 'namedesklaw16.BidiMade'. -/
def bidiMadeCard : Claim7 := { stood := { row := bidiMadeRow, standIns := [], harness := (true, "ffb9b35395f063afb67aa686236ee646e16f6cea5d4d0ea965ee3af00f972204"), looks := false }, kinds := [], alts := [], laidByText := true, laidKinds := [.data], laidTests := true, laidLooks := .later }
def BidiMadeCardSaid : Prop := Claim7.holds Tryz.pinned (.plain (OpenSpec.ofChange bidiMadeSpec)) bidiMadeCard

/-- THE TIED CARD OF 'namedesklaw16.BidiOrder'. -/
def bidiOrderCard : Claim7 := { stood := { row := bidiOrderRow, standIns := [], harness := (true, "ffb9b35395f063afb67aa686236ee646e16f6cea5d4d0ea965ee3af00f972204"), looks := false }, kinds := [], alts := [], laidByText := true, laidKinds := [.data], laidTests := true, laidLooks := .later }
def BidiOrderCardSaid : Prop := Claim7.holds Tryz.pinned (.plain (OpenSpec.ofChange bidiOrderSpec)) bidiOrderCard

/-- THE TIED CARD OF 'namedesklaw7.DecomposeMade'. -/
def decomposeMadeCard : Claim7 := { stood := { row := decomposeMadeRow, standIns := [], harness := (true, "ffb9b35395f063afb67aa686236ee646e16f6cea5d4d0ea965ee3af00f972204"), looks := false }, kinds := [], alts := [], laidByText := true, laidKinds := [.data], laidTests := true, laidLooks := .later }
def DecomposeMadeCardSaid : Prop := Claim7.holds Tryz.pinned (.plain (OpenSpec.ofChange decomposeMadeSpec)) decomposeMadeCard

/-- THE TIED CARD OF 'namedesklaw7.DecomposeErrors'. -/
def decomposeErrorsCard : Claim7 := { stood := { row := decomposeErrorsRow, standIns := [], harness := (true, "ffb9b35395f063afb67aa686236ee646e16f6cea5d4d0ea965ee3af00f972204"), looks := false }, kinds := [], alts := [], laidByText := true, laidKinds := [.data], laidTests := true, laidLooks := .later }
def DecomposeErrorsCardSaid : Prop := Claim7.holds Tryz.pinned (.plain (OpenSpec.ofChange decomposeErrorsSpec)) decomposeErrorsCard

/-- THE SECOND FORM's CARD OF 'namedesklaw7.DecomposeConcatenation'. -/
def decomposeConcatenationUptoCard : Claim7 := { stood := { row := decomposeConcatenationUptoRow, standIns := [], harness := (true, "ffb9b35395f063afb67aa686236ee646e16f6cea5d4d0ea965ee3af00f972204"), looks := false }, kinds := [], alts := [], laidByText := true, laidKinds := [.data], laidTests := true, laidLooks := .later }
def DecomposeConcatenationUptoCardSaid : Prop := Claim7.holds Tryz.pinned (.plain (OpenSpec.upto decomposeConcatenationSpec)) decomposeConcatenationUptoCard

/-- THE SECOND FORM's CARD OF 'namedesklaw16.BidiMade'. -/
def bidiMadeUptoCard : Claim7 := { stood := { row := bidiMadeUptoRow, standIns := [], harness := (true, "ffb9b35395f063afb67aa686236ee646e16f6cea5d4d0ea965ee3af00f972204"), looks := false }, kinds := [], alts := [], laidByText := true, laidKinds := [.data], laidTests := true, laidLooks := .later }
def BidiMadeUptoCardSaid : Prop := Claim7.holds Tryz.pinned (.plain (OpenSpec.upto bidiMadeSpec)) bidiMadeUptoCard

/-- THE SECOND FORM's CARD OF 'namedesklaw16.BidiOrder'. -/
def bidiOrderUptoCard : Claim7 := { stood := { row := bidiOrderUptoRow, standIns := [], harness := (true, "ffb9b35395f063afb67aa686236ee646e16f6cea5d4d0ea965ee3af00f972204"), looks := false }, kinds := [], alts := [], laidByText := true, laidKinds := [.data], laidTests := true, laidLooks := .later }
def BidiOrderUptoCardSaid : Prop := Claim7.holds Tryz.pinned (.plain (OpenSpec.upto bidiOrderSpec)) bidiOrderUptoCard

/-- THE SECOND FORM's CARD OF 'namedesklaw7.DecomposeMade'. -/
def decomposeMadeUptoCard : Claim7 := { stood := { row := decomposeMadeUptoRow, standIns := [], harness := (true, "ffb9b35395f063afb67aa686236ee646e16f6cea5d4d0ea965ee3af00f972204"), looks := false }, kinds := [], alts := [], laidByText := true, laidKinds := [.data], laidTests := true, laidLooks := .later }
def DecomposeMadeUptoCardSaid : Prop := Claim7.holds Tryz.pinned (.plain (OpenSpec.upto decomposeMadeSpec)) decomposeMadeUptoCard

/-- THE SECOND FORM's CARD OF 'namedesklaw7.DecomposeErrors'. -/
def decomposeErrorsUptoCard : Claim7 := { stood := { row := decomposeErrorsUptoRow, standIns := [], harness := (true, "ffb9b35395f063afb67aa686236ee646e16f6cea5d4d0ea965ee3af00f972204"), looks := false }, kinds := [], alts := [], laidByText := true, laidKinds := [.data], laidTests := true, laidLooks := .later }
def DecomposeErrorsUptoCardSaid : Prop := Claim7.holds Tryz.pinned (.plain (OpenSpec.upto decomposeErrorsSpec)) decomposeErrorsUptoCard
end Rows
end Go.Proofs.YtjigjjbhdgpfjaaGreatDoor
