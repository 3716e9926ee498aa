/-
  DERIVED. GIVEN WITH THE SEED: THE CARDS: each row of YtecpbicfiaifdaaDoorRows.lean that lists a variable, with what it lists TIED to the program's text (the seventh form; the later family's looks); each row that meets fmt, with fmt's text TOLD by the authors' own Lean function (tested against real Go, not proved from fmt's source: count such statements apart). THE CARD IS WHAT COUNTS. Prove the row's statement (the work); the ties are given (YtecpbicfiaifdaaDoorTie.lean); close each card by the builder's one call (the guide's Derived/Test/ToyasCard.lean, 'card_holds'). Laid BY PROGRAM, IN A SANDBOX (cutbox-door.mjs). By AI agents, Wed Nov 11 2026. No macro, syntax, notation, axiom, sorry.
-/
import Derived.Test.YtecpbicfiaifdaaDoorRows
import GoSem.ClaimSeven
namespace Go.Proofs.YtecpbicfiaifdaaDoor
namespace Rows

/-- THE TIED CARD OF 'namedesklaw21.ConfuseMany'. -/
def confuseManyCard : Claim7 := { stood := { row := confuseManyRow, standIns := [], harness := (true, "f1fe46fbd830ce4f78fc6a629552827c5a93854a4eea7c084cfabd4ace9249b0"), looks := false }, kinds := [], alts := [], laidByText := true, laidKinds := [.data], laidTests := true, laidLooks := .later }
def ConfuseManyCardSaid : Prop := Claim7.holds Tryd.pinned (.plain (OpenSpec.ofChange confuseManySpec)) confuseManyCard

/-- THE TIED CARD OF 'namedesklaw20.SkeletonTwice'. -/
def skeletonTwiceCard : Claim7 := { stood := { row := skeletonTwiceRow, standIns := [], harness := (true, "f1fe46fbd830ce4f78fc6a629552827c5a93854a4eea7c084cfabd4ace9249b0"), looks := false }, kinds := [], alts := [], laidByText := true, laidKinds := [.data], laidTests := true, laidLooks := .later }
def SkeletonTwiceCardSaid : Prop := Claim7.holds Tryd.pinned (.plain (OpenSpec.ofChange skeletonTwiceSpec)) skeletonTwiceCard

/-- THE TIED CARD OF 'namedesklaw21.ConfuseClasses'. -/
def confuseClassesCard : Claim7 := { stood := { row := confuseClassesRow, standIns := [], harness := (true, "f1fe46fbd830ce4f78fc6a629552827c5a93854a4eea7c084cfabd4ace9249b0"), looks := false }, kinds := [], alts := [], laidByText := true, laidKinds := [.data], laidTests := true, laidLooks := .later }
def ConfuseClassesCardSaid : Prop := Claim7.holds Tryd.pinned (.plain (OpenSpec.ofChange confuseClassesSpec)) confuseClassesCard

/-- THE TIED CARD OF 'namedesklaw7.DecomposeEquivalent'. -/
def decomposeEquivalentCard : Claim7 := { stood := { row := decomposeEquivalentRow, standIns := [], harness := (true, "f1fe46fbd830ce4f78fc6a629552827c5a93854a4eea7c084cfabd4ace9249b0"), looks := false }, kinds := [], alts := [], laidByText := true, laidKinds := [.data], laidTests := true, laidLooks := .later }
def DecomposeEquivalentCardSaid : Prop := Claim7.holds Tryd.pinned (.plain (OpenSpec.ofChange decomposeEquivalentSpec)) decomposeEquivalentCard

/-- THE SECOND FORM's CARD OF 'namedesklaw21.ConfuseMany'. -/
def confuseManyUptoCard : Claim7 := { stood := { row := confuseManyUptoRow, standIns := [], harness := (true, "f1fe46fbd830ce4f78fc6a629552827c5a93854a4eea7c084cfabd4ace9249b0"), looks := false }, kinds := [], alts := [], laidByText := true, laidKinds := [.data], laidTests := true, laidLooks := .later }
def ConfuseManyUptoCardSaid : Prop := Claim7.holds Tryd.pinned (.plain (OpenSpec.upto confuseManySpec)) confuseManyUptoCard

/-- THE SECOND FORM's CARD OF 'namedesklaw20.SkeletonTwice'. -/
def skeletonTwiceUptoCard : Claim7 := { stood := { row := skeletonTwiceUptoRow, standIns := [], harness := (true, "f1fe46fbd830ce4f78fc6a629552827c5a93854a4eea7c084cfabd4ace9249b0"), looks := false }, kinds := [], alts := [], laidByText := true, laidKinds := [.data], laidTests := true, laidLooks := .later }
def SkeletonTwiceUptoCardSaid : Prop := Claim7.holds Tryd.pinned (.plain (OpenSpec.upto skeletonTwiceSpec)) skeletonTwiceUptoCard

/-- THE SECOND FORM's CARD OF 'namedesklaw21.ConfuseClasses'. -/
def confuseClassesUptoCard : Claim7 := { stood := { row := confuseClassesUptoRow, standIns := [], harness := (true, "f1fe46fbd830ce4f78fc6a629552827c5a93854a4eea7c084cfabd4ace9249b0"), looks := false }, kinds := [], alts := [], laidByText := true, laidKinds := [.data], laidTests := true, laidLooks := .later }
def ConfuseClassesUptoCardSaid : Prop := Claim7.holds Tryd.pinned (.plain (OpenSpec.upto confuseClassesSpec)) confuseClassesUptoCard

/-- THE SECOND FORM's CARD OF 'namedesklaw7.DecomposeEquivalent'. -/
def decomposeEquivalentUptoCard : Claim7 := { stood := { row := decomposeEquivalentUptoRow, standIns := [], harness := (true, "f1fe46fbd830ce4f78fc6a629552827c5a93854a4eea7c084cfabd4ace9249b0"), looks := false }, kinds := [], alts := [], laidByText := true, laidKinds := [.data], laidTests := true, laidLooks := .later }
def DecomposeEquivalentUptoCardSaid : Prop := Claim7.holds Tryd.pinned (.plain (OpenSpec.upto decomposeEquivalentSpec)) decomposeEquivalentUptoCard
end Rows
end Go.Proofs.YtecpbicfiaifdaaDoor
