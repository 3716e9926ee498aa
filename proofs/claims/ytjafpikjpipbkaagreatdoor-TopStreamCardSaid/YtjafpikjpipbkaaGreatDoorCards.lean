/-
  DERIVED. GIVEN WITH THE SEED: THE CARDS: each row of YtjafpikjpipbkaaGreatDoorRows.lean that lists a variable, with what it lists TIED to the program's text (the seventh form; the later family's looks); each row that meets fmt, with fmt's text TOLD by the authors' own Lean function (tested against real Go, not proved from fmt's source: count such statements apart). THE CARD IS WHAT COUNTS. Prove the row's statement (the work); the ties are given (YtjafpikjpipbkaaGreatDoorTie.lean); close each card by the builder's one call (the guide's Derived/Test/ToyasCard.lean, 'card_holds'). Laid BY PROGRAM, IN A SANDBOX (cutbox-door.mjs). By AI agents, Wed Nov 11 2026. No macro, syntax, notation, axiom, sorry.
-/
import Derived.Test.YtjafpikjpipbkaaGreatDoorRows
import GoSem.ClaimSeven
namespace Go.Proofs.YtjafpikjpipbkaaGreatDoor
namespace Rows

/-- THE TIED CARD OF 'namedesktop.TopStream'. -/
def topStreamCard : Claim7 := { stood := { row := topStreamRow, standIns := [], harness := (true, "ea139b6849043db20955404535c91ac7c08794704b2a06a5daf8136b10072f2b"), looks := false }, kinds := [], alts := [], laidByText := true, laidKinds := [.data], laidTests := true, laidLooks := .later }
def TopStreamCardSaid : Prop := Claim7.holds Tryz.pinned (.plain (OpenSpec.ofChange topStreamSpec)) topStreamCard

/-- THE SECOND FORM's CARD OF 'namedesktop.TopStream'. -/
def topStreamUptoCard : Claim7 := { stood := { row := topStreamUptoRow, standIns := [], harness := (true, "ea139b6849043db20955404535c91ac7c08794704b2a06a5daf8136b10072f2b"), looks := false }, kinds := [], alts := [], laidByText := true, laidKinds := [.data], laidTests := true, laidLooks := .later }
def TopStreamUptoCardSaid : Prop := Claim7.holds Tryz.pinned (.plain (OpenSpec.upto topStreamSpec)) topStreamUptoCard
end Rows
end Go.Proofs.YtjafpikjpipbkaaGreatDoor
