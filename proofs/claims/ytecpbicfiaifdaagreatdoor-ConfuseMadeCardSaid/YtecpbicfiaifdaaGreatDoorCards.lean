/-
  DERIVED. GIVEN WITH THE SEED: THE CARDS: each row of YtecpbicfiaifdaaGreatDoorRows.lean that lists a variable, with what it lists TIED to the program's text (the seventh form; the later family's looks); each row that meets fmt, with fmt's text TOLD by the authors' own Lean function (tested against real Go, not proved from fmt's source: count such statements apart). THE CARD IS WHAT COUNTS. Prove the row's statement (the work); the ties are given (YtecpbicfiaifdaaGreatDoorTie.lean); close each card by the builder's one call (the guide's Derived/Test/ToyasCard.lean, 'card_holds'). Laid BY PROGRAM, IN A SANDBOX (cutbox-door.mjs). By AI agents, Wed Nov 11 2026. No macro, syntax, notation, axiom, sorry.
-/
import Derived.Test.YtecpbicfiaifdaaGreatDoorRows
import GoSem.ClaimSeven
namespace Go.Proofs.YtecpbicfiaifdaaGreatDoor
namespace Rows

/-- THE TIED CARD OF 'namedesklaw20.SkeletonNormal'. -/
def skeletonNormalCard : Claim7 := { stood := { row := skeletonNormalRow, standIns := [], harness := (true, "3f2e206dd725993f2201d094cb97fa4813a78fd938aa325e10d65ca457ee6061"), looks := false }, kinds := [], alts := [], laidByText := true, laidKinds := [.data], laidTests := true, laidLooks := .later }
def SkeletonNormalCardSaid : Prop := Claim7.holds Tryz.pinned (.plain (OpenSpec.ofChange skeletonNormalSpec)) skeletonNormalCard

/-- THE TIED CARD OF 'namedesklaw20.SkeletonPrototype'. -/
def skeletonPrototypeCard : Claim7 := { stood := { row := skeletonPrototypeRow, standIns := [], harness := (true, "3f2e206dd725993f2201d094cb97fa4813a78fd938aa325e10d65ca457ee6061"), looks := false }, kinds := [], alts := [], laidByText := true, laidKinds := [.data], laidTests := true, laidLooks := .later }
def SkeletonPrototypeCardSaid : Prop := Claim7.holds Tryz.pinned (.plain (OpenSpec.ofChange skeletonPrototypeSpec)) skeletonPrototypeCard

/-- THE TIED CARD OF 'namedesklaw20.SkeletonKey'. -/
def skeletonKeyCard : Claim7 := { stood := { row := skeletonKeyRow, standIns := [], harness := (true, "3f2e206dd725993f2201d094cb97fa4813a78fd938aa325e10d65ca457ee6061"), looks := false }, kinds := [], alts := [], laidByText := true, laidKinds := [.data], laidTests := true, laidLooks := .later }
def SkeletonKeyCardSaid : Prop := Claim7.holds Tryz.pinned (.plain (OpenSpec.ofChange skeletonKeySpec)) skeletonKeyCard

/-- THE TIED CARD OF 'namedesklaw21.ConfuseTwins'. -/
def confuseTwinsCard : Claim7 := { stood := { row := confuseTwinsRow, standIns := [], harness := (true, "3f2e206dd725993f2201d094cb97fa4813a78fd938aa325e10d65ca457ee6061"), looks := false }, kinds := [], alts := [], laidByText := true, laidKinds := [.data], laidTests := true, laidLooks := .later }
def ConfuseTwinsCardSaid : Prop := Claim7.holds Tryz.pinned (.plain (OpenSpec.ofChange confuseTwinsSpec)) confuseTwinsCard

/-- THE TIED CARD OF 'namedesklaw20.SkeletonMade'. -/
def skeletonMadeCard : Claim7 := { stood := { row := skeletonMadeRow, standIns := [], harness := (true, "3f2e206dd725993f2201d094cb97fa4813a78fd938aa325e10d65ca457ee6061"), looks := false }, kinds := [], alts := [], laidByText := true, laidKinds := [.data], laidTests := true, laidLooks := .later }
def SkeletonMadeCardSaid : Prop := Claim7.holds Tryz.pinned (.plain (OpenSpec.ofChange skeletonMadeSpec)) skeletonMadeCard

/-- THE TIED CARD OF 'namedesklaw20.SkeletonErrors'. -/
def skeletonErrorsCard : Claim7 := { stood := { row := skeletonErrorsRow, standIns := [], harness := (true, "3f2e206dd725993f2201d094cb97fa4813a78fd938aa325e10d65ca457ee6061"), looks := false }, kinds := [], alts := [], laidByText := true, laidKinds := [.data], laidTests := true, laidLooks := .later }
def SkeletonErrorsCardSaid : Prop := Claim7.holds Tryz.pinned (.plain (OpenSpec.ofChange skeletonErrorsSpec)) skeletonErrorsCard

/-- THE TIED CARD OF 'namedesklaw20.SkeletonEmpty'. -/
def skeletonEmptyCard : Claim7 := { stood := { row := skeletonEmptyRow, standIns := [], harness := (true, "3f2e206dd725993f2201d094cb97fa4813a78fd938aa325e10d65ca457ee6061"), looks := false }, kinds := [], alts := [], laidByText := true, laidKinds := [.data], laidTests := true, laidLooks := .later }
def SkeletonEmptyCardSaid : Prop := Claim7.holds Tryz.pinned (.plain (OpenSpec.ofChange skeletonEmptySpec)) skeletonEmptyCard

/-- THE TIED CARD OF 'namedesklaw21.ConfuseMade'. -/
def confuseMadeCard : Claim7 := { stood := { row := confuseMadeRow, standIns := [], harness := (true, "3f2e206dd725993f2201d094cb97fa4813a78fd938aa325e10d65ca457ee6061"), looks := false }, kinds := [], alts := [], laidByText := true, laidKinds := [.data], laidTests := true, laidLooks := .later }
def ConfuseMadeCardSaid : Prop := Claim7.holds Tryz.pinned (.plain (OpenSpec.ofChange confuseMadeSpec)) confuseMadeCard

/-- THE TIED CARD OF 'namedesklaw21.ConfuseSkeleton'. -/
def confuseSkeletonCard : Claim7 := { stood := { row := confuseSkeletonRow, standIns := [], harness := (true, "3f2e206dd725993f2201d094cb97fa4813a78fd938aa325e10d65ca457ee6061"), looks := false }, kinds := [], alts := [], laidByText := true, laidKinds := [.data], laidTests := true, laidLooks := .later }
def ConfuseSkeletonCardSaid : Prop := Claim7.holds Tryz.pinned (.plain (OpenSpec.ofChange confuseSkeletonSpec)) confuseSkeletonCard

/-- THE SECOND FORM's CARD OF 'namedesklaw20.SkeletonNormal'. -/
def skeletonNormalUptoCard : Claim7 := { stood := { row := skeletonNormalUptoRow, standIns := [], harness := (true, "3f2e206dd725993f2201d094cb97fa4813a78fd938aa325e10d65ca457ee6061"), looks := false }, kinds := [], alts := [], laidByText := true, laidKinds := [.data], laidTests := true, laidLooks := .later }
def SkeletonNormalUptoCardSaid : Prop := Claim7.holds Tryz.pinned (.plain (OpenSpec.upto skeletonNormalSpec)) skeletonNormalUptoCard

/-- THE SECOND FORM's CARD OF 'namedesklaw20.SkeletonPrototype'. -/
def skeletonPrototypeUptoCard : Claim7 := { stood := { row := skeletonPrototypeUptoRow, standIns := [], harness := (true, "3f2e206dd725993f2201d094cb97fa4813a78fd938aa325e10d65ca457ee6061"), looks := false }, kinds := [], alts := [], laidByText := true, laidKinds := [.data], laidTests := true, laidLooks := .later }
def SkeletonPrototypeUptoCardSaid : Prop := Claim7.holds Tryz.pinned (.plain (OpenSpec.upto skeletonPrototypeSpec)) skeletonPrototypeUptoCard

/-- THE SECOND FORM's CARD OF 'namedesklaw20.SkeletonKey'. -/
def skeletonKeyUptoCard : Claim7 := { stood := { row := skeletonKeyUptoRow, standIns := [], harness := (true, "3f2e206dd725993f2201d094cb97fa4813a78fd938aa325e10d65ca457ee6061"), looks := false }, kinds := [], alts := [], laidByText := true, laidKinds := [.data], laidTests := true, laidLooks := .later }
def SkeletonKeyUptoCardSaid : Prop := Claim7.holds Tryz.pinned (.plain (OpenSpec.upto skeletonKeySpec)) skeletonKeyUptoCard

/-- THE SECOND FORM's CARD OF 'namedesklaw21.ConfuseTwins'. -/
def confuseTwinsUptoCard : Claim7 := { stood := { row := confuseTwinsUptoRow, standIns := [], harness := (true, "3f2e206dd725993f2201d094cb97fa4813a78fd938aa325e10d65ca457ee6061"), looks := false }, kinds := [], alts := [], laidByText := true, laidKinds := [.data], laidTests := true, laidLooks := .later }
def ConfuseTwinsUptoCardSaid : Prop := Claim7.holds Tryz.pinned (.plain (OpenSpec.upto confuseTwinsSpec)) confuseTwinsUptoCard

/-- THE SECOND FORM's CARD OF 'namedesklaw20.SkeletonMade'. -/
def skeletonMadeUptoCard : Claim7 := { stood := { row := skeletonMadeUptoRow, standIns := [], harness := (true, "3f2e206dd725993f2201d094cb97fa4813a78fd938aa325e10d65ca457ee6061"), looks := false }, kinds := [], alts := [], laidByText := true, laidKinds := [.data], laidTests := true, laidLooks := .later }
def SkeletonMadeUptoCardSaid : Prop := Claim7.holds Tryz.pinned (.plain (OpenSpec.upto skeletonMadeSpec)) skeletonMadeUptoCard

/-- THE SECOND FORM's CARD OF 'namedesklaw20.SkeletonErrors'. -/
def skeletonErrorsUptoCard : Claim7 := { stood := { row := skeletonErrorsUptoRow, standIns := [], harness := (true, "3f2e206dd725993f2201d094cb97fa4813a78fd938aa325e10d65ca457ee6061"), looks := false }, kinds := [], alts := [], laidByText := true, laidKinds := [.data], laidTests := true, laidLooks := .later }
def SkeletonErrorsUptoCardSaid : Prop := Claim7.holds Tryz.pinned (.plain (OpenSpec.upto skeletonErrorsSpec)) skeletonErrorsUptoCard

/-- THE SECOND FORM's CARD OF 'namedesklaw20.SkeletonEmpty'. -/
def skeletonEmptyUptoCard : Claim7 := { stood := { row := skeletonEmptyUptoRow, standIns := [], harness := (true, "3f2e206dd725993f2201d094cb97fa4813a78fd938aa325e10d65ca457ee6061"), looks := false }, kinds := [], alts := [], laidByText := true, laidKinds := [.data], laidTests := true, laidLooks := .later }
def SkeletonEmptyUptoCardSaid : Prop := Claim7.holds Tryz.pinned (.plain (OpenSpec.upto skeletonEmptySpec)) skeletonEmptyUptoCard

/-- THE SECOND FORM's CARD OF 'namedesklaw21.ConfuseMade'. -/
def confuseMadeUptoCard : Claim7 := { stood := { row := confuseMadeUptoRow, standIns := [], harness := (true, "3f2e206dd725993f2201d094cb97fa4813a78fd938aa325e10d65ca457ee6061"), looks := false }, kinds := [], alts := [], laidByText := true, laidKinds := [.data], laidTests := true, laidLooks := .later }
def ConfuseMadeUptoCardSaid : Prop := Claim7.holds Tryz.pinned (.plain (OpenSpec.upto confuseMadeSpec)) confuseMadeUptoCard

/-- THE SECOND FORM's CARD OF 'namedesklaw21.ConfuseSkeleton'. -/
def confuseSkeletonUptoCard : Claim7 := { stood := { row := confuseSkeletonUptoRow, standIns := [], harness := (true, "3f2e206dd725993f2201d094cb97fa4813a78fd938aa325e10d65ca457ee6061"), looks := false }, kinds := [], alts := [], laidByText := true, laidKinds := [.data], laidTests := true, laidLooks := .later }
def ConfuseSkeletonUptoCardSaid : Prop := Claim7.holds Tryz.pinned (.plain (OpenSpec.upto confuseSkeletonSpec)) confuseSkeletonUptoCard
end Rows
end Go.Proofs.YtecpbicfiaifdaaGreatDoor
