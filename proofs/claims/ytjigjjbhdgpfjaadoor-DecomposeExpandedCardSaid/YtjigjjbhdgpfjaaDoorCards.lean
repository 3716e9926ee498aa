/-
  DERIVED. GIVEN WITH THE SEED: THE CARDS: each row of YtjigjjbhdgpfjaaDoorRows.lean that lists a variable, with what it lists TIED to the program's text (the seventh form; the later family's looks); each row that meets fmt, with fmt's text TOLD by the authors' own Lean function (tested against real Go, not proved from fmt's source: count such statements apart). THE CARD IS WHAT COUNTS. Prove the row's statement (the work); the ties are given (YtjigjjbhdgpfjaaDoorTie.lean); close each card by the builder's one call (the guide's Derived/Test/ToyasCard.lean, 'card_holds'). Laid BY PROGRAM, IN A SANDBOX (cutbox-door.mjs). By AI agents, Wed Nov 11 2026. No macro, syntax, notation, axiom, sorry.
-/
import Derived.Test.YtjigjjbhdgpfjaaDoorRows
import GoSem.ClaimSeven
namespace Go.Proofs.YtjigjjbhdgpfjaaDoor
namespace Rows

/-- THE TIED CARD OF 'namedesklaw7.DecomposeBound'. -/
def decomposeBoundCard : Claim7 := { stood := { row := decomposeBoundRow, standIns := [], harness := (true, "096e41e6f76627f242533bb3a0a3073d4bb7bf9225ea3c213d260e09e595938d"), looks := false }, kinds := [], alts := [], laidByText := true, laidKinds := [.data], laidTests := true, laidLooks := .later }
def DecomposeBoundCardSaid : Prop := Claim7.holds Tryd.pinned (.plain (OpenSpec.ofChange decomposeBoundSpec)) decomposeBoundCard

/-- THE TIED CARD OF 'namedesklaw7.DecomposeTwice'. -/
def decomposeTwiceCard : Claim7 := { stood := { row := decomposeTwiceRow, standIns := [], harness := (true, "096e41e6f76627f242533bb3a0a3073d4bb7bf9225ea3c213d260e09e595938d"), looks := false }, kinds := [], alts := [], laidByText := true, laidKinds := [.data], laidTests := true, laidLooks := .later }
def DecomposeTwiceCardSaid : Prop := Claim7.holds Tryd.pinned (.plain (OpenSpec.ofChange decomposeTwiceSpec)) decomposeTwiceCard

/-- THE TIED CARD OF 'namedesklaw16.BidiConditions'. -/
def bidiConditionsCard : Claim7 := { stood := { row := bidiConditionsRow, standIns := [], harness := (true, "096e41e6f76627f242533bb3a0a3073d4bb7bf9225ea3c213d260e09e595938d"), looks := false }, kinds := [], alts := [], laidByText := true, laidKinds := [.data], laidTests := true, laidLooks := .later }
def BidiConditionsCardSaid : Prop := Claim7.holds Tryd.pinned (.plain (OpenSpec.ofChange bidiConditionsSpec)) bidiConditionsCard

/-- THE TIED CARD OF 'namedesklaw16.BidiMarks'. -/
def bidiMarksCard : Claim7 := { stood := { row := bidiMarksRow, standIns := [], harness := (true, "096e41e6f76627f242533bb3a0a3073d4bb7bf9225ea3c213d260e09e595938d"), looks := false }, kinds := [], alts := [], laidByText := true, laidKinds := [.data], laidTests := true, laidLooks := .later }
def BidiMarksCardSaid : Prop := Claim7.holds Tryd.pinned (.plain (OpenSpec.ofChange bidiMarksSpec)) bidiMarksCard

/-- THE TIED CARD OF 'namedesklaw16.BidiLetters'. -/
def bidiLettersCard : Claim7 := { stood := { row := bidiLettersRow, standIns := [], harness := (true, "096e41e6f76627f242533bb3a0a3073d4bb7bf9225ea3c213d260e09e595938d"), looks := false }, kinds := [], alts := [], laidByText := true, laidKinds := [.data], laidTests := true, laidLooks := .later }
def BidiLettersCardSaid : Prop := Claim7.holds Tryd.pinned (.plain (OpenSpec.ofChange bidiLettersSpec)) bidiLettersCard

/-- THE TIED CARD OF 'namedesklaw7.DecomposeExpanded'. -/
def decomposeExpandedCard : Claim7 := { stood := { row := decomposeExpandedRow, standIns := [], harness := (true, "096e41e6f76627f242533bb3a0a3073d4bb7bf9225ea3c213d260e09e595938d"), looks := false }, kinds := [], alts := [], laidByText := true, laidKinds := [.data], laidTests := true, laidLooks := .later }
def DecomposeExpandedCardSaid : Prop := Claim7.holds Tryd.pinned (.plain (OpenSpec.ofChange decomposeExpandedSpec)) decomposeExpandedCard

/-- THE TIED CARD OF 'namedesklaw7.DecomposeEquivalent'. -/
def decomposeEquivalentCard : Claim7 := { stood := { row := decomposeEquivalentRow, standIns := [], harness := (true, "096e41e6f76627f242533bb3a0a3073d4bb7bf9225ea3c213d260e09e595938d"), looks := false }, kinds := [], alts := [], laidByText := true, laidKinds := [.data], laidTests := true, laidLooks := .later }
def DecomposeEquivalentCardSaid : Prop := Claim7.holds Tryd.pinned (.plain (OpenSpec.ofChange decomposeEquivalentSpec)) decomposeEquivalentCard

/-- THE SECOND FORM's CARD OF 'namedesklaw7.DecomposeBound'. -/
def decomposeBoundUptoCard : Claim7 := { stood := { row := decomposeBoundUptoRow, standIns := [], harness := (true, "096e41e6f76627f242533bb3a0a3073d4bb7bf9225ea3c213d260e09e595938d"), looks := false }, kinds := [], alts := [], laidByText := true, laidKinds := [.data], laidTests := true, laidLooks := .later }
def DecomposeBoundUptoCardSaid : Prop := Claim7.holds Tryd.pinned (.plain (OpenSpec.upto decomposeBoundSpec)) decomposeBoundUptoCard

/-- THE SECOND FORM's CARD OF 'namedesklaw7.DecomposeTwice'. -/
def decomposeTwiceUptoCard : Claim7 := { stood := { row := decomposeTwiceUptoRow, standIns := [], harness := (true, "096e41e6f76627f242533bb3a0a3073d4bb7bf9225ea3c213d260e09e595938d"), looks := false }, kinds := [], alts := [], laidByText := true, laidKinds := [.data], laidTests := true, laidLooks := .later }
def DecomposeTwiceUptoCardSaid : Prop := Claim7.holds Tryd.pinned (.plain (OpenSpec.upto decomposeTwiceSpec)) decomposeTwiceUptoCard

/-- THE SECOND FORM's CARD OF 'namedesklaw16.BidiConditions'. -/
def bidiConditionsUptoCard : Claim7 := { stood := { row := bidiConditionsUptoRow, standIns := [], harness := (true, "096e41e6f76627f242533bb3a0a3073d4bb7bf9225ea3c213d260e09e595938d"), looks := false }, kinds := [], alts := [], laidByText := true, laidKinds := [.data], laidTests := true, laidLooks := .later }
def BidiConditionsUptoCardSaid : Prop := Claim7.holds Tryd.pinned (.plain (OpenSpec.upto bidiConditionsSpec)) bidiConditionsUptoCard

/-- THE SECOND FORM's CARD OF 'namedesklaw16.BidiMarks'. -/
def bidiMarksUptoCard : Claim7 := { stood := { row := bidiMarksUptoRow, standIns := [], harness := (true, "096e41e6f76627f242533bb3a0a3073d4bb7bf9225ea3c213d260e09e595938d"), looks := false }, kinds := [], alts := [], laidByText := true, laidKinds := [.data], laidTests := true, laidLooks := .later }
def BidiMarksUptoCardSaid : Prop := Claim7.holds Tryd.pinned (.plain (OpenSpec.upto bidiMarksSpec)) bidiMarksUptoCard

/-- THE SECOND FORM's CARD OF 'namedesklaw16.BidiLetters'. -/
def bidiLettersUptoCard : Claim7 := { stood := { row := bidiLettersUptoRow, standIns := [], harness := (true, "096e41e6f76627f242533bb3a0a3073d4bb7bf9225ea3c213d260e09e595938d"), looks := false }, kinds := [], alts := [], laidByText := true, laidKinds := [.data], laidTests := true, laidLooks := .later }
def BidiLettersUptoCardSaid : Prop := Claim7.holds Tryd.pinned (.plain (OpenSpec.upto bidiLettersSpec)) bidiLettersUptoCard

/-- THE SECOND FORM's CARD OF 'namedesklaw7.DecomposeExpanded'. -/
def decomposeExpandedUptoCard : Claim7 := { stood := { row := decomposeExpandedUptoRow, standIns := [], harness := (true, "096e41e6f76627f242533bb3a0a3073d4bb7bf9225ea3c213d260e09e595938d"), looks := false }, kinds := [], alts := [], laidByText := true, laidKinds := [.data], laidTests := true, laidLooks := .later }
def DecomposeExpandedUptoCardSaid : Prop := Claim7.holds Tryd.pinned (.plain (OpenSpec.upto decomposeExpandedSpec)) decomposeExpandedUptoCard

/-- THE SECOND FORM's CARD OF 'namedesklaw7.DecomposeEquivalent'. -/
def decomposeEquivalentUptoCard : Claim7 := { stood := { row := decomposeEquivalentUptoRow, standIns := [], harness := (true, "096e41e6f76627f242533bb3a0a3073d4bb7bf9225ea3c213d260e09e595938d"), looks := false }, kinds := [], alts := [], laidByText := true, laidKinds := [.data], laidTests := true, laidLooks := .later }
def DecomposeEquivalentUptoCardSaid : Prop := Claim7.holds Tryd.pinned (.plain (OpenSpec.upto decomposeEquivalentSpec)) decomposeEquivalentUptoCard
end Rows
end Go.Proofs.YtjigjjbhdgpfjaaDoor
