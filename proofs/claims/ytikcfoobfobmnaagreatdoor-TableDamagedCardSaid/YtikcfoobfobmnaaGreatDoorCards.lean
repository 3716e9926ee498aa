/-
  DERIVED. GIVEN WITH THE SEED: THE CARDS: each row of YtikcfoobfobmnaaGreatDoorRows.lean that lists a variable, with what it lists TIED to the program's text (the seventh form; the later family's looks); each row that meets fmt, with fmt's text TOLD by the authors' own Lean function (tested against real Go, not proved from fmt's source: count such statements apart). THE CARD IS WHAT COUNTS. Prove the row's statement (the work); the ties are given (YtikcfoobfobmnaaGreatDoorTie.lean); close each card by the builder's one call (the guide's Derived/Test/ToyasCard.lean, 'card_holds'). Laid BY PROGRAM, IN A SANDBOX (cutbox-door.mjs). By AI agents, Wed Nov 11 2026. No macro, syntax, notation, axiom, sorry.
-/
import Derived.Test.YtikcfoobfobmnaaGreatDoorRows
import GoSem.ClaimSeven
namespace Go.Proofs.YtikcfoobfobmnaaGreatDoor
namespace Rows

/-- THE TIED CARD OF 'namedesklaw4.TableDecode'. -/
def tableDecodeCard : Claim7 := { stood := { row := tableDecodeRow, standIns := [], harness := (true, "998a2ff938340c84dbb4b817d5cde082c20f4a2ab32b806b6abbd112a73e4383"), looks := false }, kinds := [], alts := [], laidByText := true, laidKinds := [.data], laidTests := true, laidLooks := .later }
def TableDecodeCardSaid : Prop := Claim7.holds Tryz.pinned (.plain (OpenSpec.ofChange tableDecodeSpec)) tableDecodeCard

/-- THE TIED CARD OF 'namedesklaw4.TableDamaged'. -/
def tableDamagedCard : Claim7 := { stood := { row := tableDamagedRow, standIns := [], harness := (true, "998a2ff938340c84dbb4b817d5cde082c20f4a2ab32b806b6abbd112a73e4383"), looks := false }, kinds := [], alts := [], laidByText := true, laidKinds := [.data], laidTests := true, laidLooks := .later }
def TableDamagedCardSaid : Prop := Claim7.holds Tryz.pinned (.plain (OpenSpec.ofChange tableDamagedSpec)) tableDamagedCard

/-- THE SECOND FORM's CARD OF 'namedesklaw4.TableDecode'. -/
def tableDecodeUptoCard : Claim7 := { stood := { row := tableDecodeUptoRow, standIns := [], harness := (true, "998a2ff938340c84dbb4b817d5cde082c20f4a2ab32b806b6abbd112a73e4383"), looks := false }, kinds := [], alts := [], laidByText := true, laidKinds := [.data], laidTests := true, laidLooks := .later }
def TableDecodeUptoCardSaid : Prop := Claim7.holds Tryz.pinned (.plain (OpenSpec.upto tableDecodeSpec)) tableDecodeUptoCard

/-- THE SECOND FORM's CARD OF 'namedesklaw4.TableDamaged'. -/
def tableDamagedUptoCard : Claim7 := { stood := { row := tableDamagedUptoRow, standIns := [], harness := (true, "998a2ff938340c84dbb4b817d5cde082c20f4a2ab32b806b6abbd112a73e4383"), looks := false }, kinds := [], alts := [], laidByText := true, laidKinds := [.data], laidTests := true, laidLooks := .later }
def TableDamagedUptoCardSaid : Prop := Claim7.holds Tryz.pinned (.plain (OpenSpec.upto tableDamagedSpec)) tableDamagedUptoCard
end Rows
end Go.Proofs.YtikcfoobfobmnaaGreatDoor
