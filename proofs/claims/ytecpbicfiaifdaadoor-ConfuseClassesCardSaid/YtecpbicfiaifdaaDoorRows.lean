/-
  NARROWER THAN 'FOR EVERY INPUT', by the rows' own cells (each row's printed sentence says how): ConfuseMany: laid · SkeletonTwice: laid · ConfuseClasses: laid · DecomposeEquivalent: laid.
  DERIVED. THE GIVEN ROWS OF THIS SEAT. 4 by the template 'for every input the law returns true; each argument reads behind the call as it read before'; 0 by the template 'total and deterministic' (their statements: YtecpbicfiaifdaaDoorTotals.lean).
  GIVEN WITH THE SEED: the statements are not yours to turn. If you find one false, say at which input.
  Laid BY PROGRAM, IN A SANDBOX (cutbox-rows.mjs): the forced cells as the released guide's own fill.sh prints them over the translation 4d2dd1a9049304e1… (all of the seat's roots in one cut). By AI agents, Wed Nov 11 2026. No macro, syntax, notation, axiom, sorry.
-/
import Derived.Test.YtecpbicfiaifdaaDoorChecked
import GoSem.Claim
import GoSem.ClaimJoined
import GoSem.ClaimMapViews
import Derived.JoinedTies
import Derived.KernelRfl
namespace Go.Proofs.YtecpbicfiaifdaaDoor
/- THE CELL 'sum', in the pinned program and in every row, IS THE sha256 OF THE DUMP (.gsa) THAT YtecpbicfiaifdaaDoorProg.lean LOADS. Nothing in Lean hashes anything: it is a label: what it is worth is what the hold of that sum in a sandbox is worth. -/
noncomputable def Tryd.pinned : Pinned := { name := "ytecpbicfiaifdaadoor", sum := "4d2dd1a9049304e144b3248f0d78ac2bd97acfa9caa0b6fb324b3a7997ea41ed", checked := Tryd.checked }
namespace Rows
def none {H : Type} : Left H := { results := [], args := [] }

/- WHAT THE LISTED PACKAGE-LEVEL VARIABLES READ AS WHEN THE CALL BEGINS. Each datum BY PROGRAM (the guide's laid-datum.mjs) off the statement by which the dump's own 'gosem.cut.vars' lays the variable. In a bare row this is a premise. The card (YtecpbicfiaifdaaDoorCards.lean) ties it to the program's text. -/
def laid_namedesk_table_blocks {H : Type} : DataW H := .slice [.agg [.lit (.int .i64 0), .lit (.int .i64 127), .lit (.int .i64 0)], .agg [.lit (.int .i64 4352), .lit (.int .i64 4370), .lit (.int .i64 0)], .agg [.lit (.int .i64 4449), .lit (.int .i64 4469), .lit (.int .i64 0)], .agg [.lit (.int .i64 4520), .lit (.int .i64 4546), .lit (.int .i64 0)], .agg [.lit (.int .i64 44032), .lit (.int .i64 55203), .lit (.int .i64 0)], .agg [.lit (.int .i64 55296), .lit (.int .i64 57343), .lit (.int .i64 0)]] []

/-- 'namedesklaw21.ConfuseMany': WHATEVER THE INPUT: true; the input reads as it did. -/
def confuseManySpec : ChangeSpec := { name := "confuseMany", fn := fun _ => fun
  | [d] => { results := [.lit (.bool true)], args := [d] }
  | _ => none }
def confuseManyRow : OpenClaim := { program := "ytecpbicfiaifdaadoor", sum := "4d2dd1a9049304e144b3248f0d78ac2bd97acfa9caa0b6fb324b3a7997ea41ed", func := "namedesk/namedesklaw21.ConfuseMany", spec := "confuseMany", unfollowed := true, recurses := true, named := ["namedesk/table.blocks"], plainKeys := false, apart := false, laid := [("namedesk/table.blocks", laid_namedesk_table_blocks)] }
def ConfuseManySaid : Prop := confuseManyRow.holds Tryd.pinned (OpenSpec.ofChange confuseManySpec)

/-- ITS FALSE NEIGHBOUR: 'it returns false'. Refute it at one input. -/
def confuseManyWrong : ChangeSpec := { name := "confuseMany", fn := fun _ => fun
  | [d] => { results := [.lit (.bool false)], args := [d] }
  | _ => none }
def ConfuseManyWrongFalsely : Prop := confuseManyRow.holds Tryd.pinned (OpenSpec.ofChange confuseManyWrong)

/-- 'namedesklaw20.SkeletonTwice': WHATEVER THE INPUT: true; the input reads as it did. -/
def skeletonTwiceSpec : ChangeSpec := { name := "skeletonTwice", fn := fun _ => fun
  | [d1, d2] => { results := [.lit (.bool true)], args := [d1, d2] }
  | _ => none }
def skeletonTwiceRow : OpenClaim := { program := "ytecpbicfiaifdaadoor", sum := "4d2dd1a9049304e144b3248f0d78ac2bd97acfa9caa0b6fb324b3a7997ea41ed", func := "namedesk/namedesklaw20.SkeletonTwice", spec := "skeletonTwice", unfollowed := true, recurses := true, named := ["namedesk/table.blocks"], plainKeys := false, apart := false, laid := [("namedesk/table.blocks", laid_namedesk_table_blocks)] }
def SkeletonTwiceSaid : Prop := skeletonTwiceRow.holds Tryd.pinned (OpenSpec.ofChange skeletonTwiceSpec)

/-- ITS FALSE NEIGHBOUR: 'it returns false'. Refute it at one input. -/
def skeletonTwiceWrong : ChangeSpec := { name := "skeletonTwice", fn := fun _ => fun
  | [d1, d2] => { results := [.lit (.bool false)], args := [d1, d2] }
  | _ => none }
def SkeletonTwiceWrongFalsely : Prop := skeletonTwiceRow.holds Tryd.pinned (OpenSpec.ofChange skeletonTwiceWrong)

/-- 'namedesklaw21.ConfuseClasses': WHATEVER THE INPUT: true; the input reads as it did. -/
def confuseClassesSpec : ChangeSpec := { name := "confuseClasses", fn := fun _ => fun
  | [d1, d2] => { results := [.lit (.bool true)], args := [d1, d2] }
  | _ => none }
def confuseClassesRow : OpenClaim := { program := "ytecpbicfiaifdaadoor", sum := "4d2dd1a9049304e144b3248f0d78ac2bd97acfa9caa0b6fb324b3a7997ea41ed", func := "namedesk/namedesklaw21.ConfuseClasses", spec := "confuseClasses", unfollowed := true, recurses := true, named := ["namedesk/table.blocks"], plainKeys := false, apart := false, laid := [("namedesk/table.blocks", laid_namedesk_table_blocks)] }
def ConfuseClassesSaid : Prop := confuseClassesRow.holds Tryd.pinned (OpenSpec.ofChange confuseClassesSpec)

/-- ITS FALSE NEIGHBOUR: 'it returns false'. Refute it at one input. -/
def confuseClassesWrong : ChangeSpec := { name := "confuseClasses", fn := fun _ => fun
  | [d1, d2] => { results := [.lit (.bool false)], args := [d1, d2] }
  | _ => none }
def ConfuseClassesWrongFalsely : Prop := confuseClassesRow.holds Tryd.pinned (OpenSpec.ofChange confuseClassesWrong)

/-- 'namedesklaw7.DecomposeEquivalent': WHATEVER THE INPUT: true; the input reads as it did. -/
def decomposeEquivalentSpec : ChangeSpec := { name := "decomposeEquivalent", fn := fun _ => fun
  | [d1, d2, d3, d4] => { results := [.lit (.bool true)], args := [d1, d2, d3, d4] }
  | _ => none }
def decomposeEquivalentRow : OpenClaim := { program := "ytecpbicfiaifdaadoor", sum := "4d2dd1a9049304e144b3248f0d78ac2bd97acfa9caa0b6fb324b3a7997ea41ed", func := "namedesk/namedesklaw7.DecomposeEquivalent", spec := "decomposeEquivalent", unfollowed := true, recurses := true, named := ["namedesk/table.blocks"], plainKeys := false, apart := false, laid := [("namedesk/table.blocks", laid_namedesk_table_blocks)] }
def DecomposeEquivalentSaid : Prop := decomposeEquivalentRow.holds Tryd.pinned (OpenSpec.ofChange decomposeEquivalentSpec)

/-- ITS FALSE NEIGHBOUR: 'it returns false'. Refute it at one input. -/
def decomposeEquivalentWrong : ChangeSpec := { name := "decomposeEquivalent", fn := fun _ => fun
  | [d1, d2, d3, d4] => { results := [.lit (.bool false)], args := [d1, d2, d3, d4] }
  | _ => none }
def DecomposeEquivalentWrongFalsely : Prop := decomposeEquivalentRow.holds Tryd.pinned (OpenSpec.ofChange decomposeEquivalentWrong)

/- THE SECOND FORM. 'bulk': how many values and letters a reading holds, each counted each time it is reached (what is shared counts as often as it is met; a slice's spare places count too). A statement '..UptoSaid' is the law's where the arguments, and the package variables that the reading takes, are together of bulk at most 1048576: NARROWER than '..Said'. Prove '..Said' where nothing that the law and all that it calls make is longer than what came in: it says more and counts as full. Else prove '..UptoSaid'. A law counts once. -/
mutual
def uptoBulk {H : Type} : DataW H → Nat
  | .lit (.string bytes) => bytes.length + 1
  | .lit _ => 1
  | .nil => 1
  | .ptr d => uptoBulk d + 1
  | .slice elems spare => uptoBulkAll elems + uptoBulkAll spare + 1
  | .agg parts => uptoBulkAll parts + 1
  | .iface _ d => uptoBulk d + 1
  | .map entries => uptoBulkEntries entries + 1
  | .held _ => 1
def uptoBulkAll {H : Type} : List (DataW H) → Nat
  | [] => 0
  | d :: r => uptoBulk d + uptoBulkAll r
def uptoBulkEntries {H : Type} : List (Lit × DataW H) → Nat
  | [] => 0
  | x :: r => uptoBulkEntry x + uptoBulkEntries r
def uptoBulkEntry {H : Type} : Lit × DataW H → Nat
  | (.string bytes, d) => bytes.length + uptoBulk d + 1
  | (_, d) => uptoBulk d + 1
 end
def uptoSmall : (H : Type) → List (DataW H) → Bool := fun _ ds => decide (uptoBulkAll ds ≤ 1048576)
def OpenSpec.upto (s : _root_.Go.ChangeSpec) : _root_.Go.OpenSpec := { _root_.Go.OpenSpec.ofChange s with cond := some uptoSmall }

/-- 'namedesklaw21.ConfuseMany', WHERE WHAT IT READS IS OF BULK AT MOST 1048576: true; the input reads as it did. -/
def confuseManyUptoRow : OpenClaim := { program := "ytecpbicfiaifdaadoor", sum := "4d2dd1a9049304e144b3248f0d78ac2bd97acfa9caa0b6fb324b3a7997ea41ed", func := "namedesk/namedesklaw21.ConfuseMany", spec := "confuseMany", unfollowed := true, recurses := true, named := ["namedesk/table.blocks"], plainKeys := false, apart := false, laid := [("namedesk/table.blocks", laid_namedesk_table_blocks)], narrowed := true }
def ConfuseManyUptoSaid : Prop := confuseManyUptoRow.holds Tryd.pinned (OpenSpec.upto confuseManySpec)

/-- 'namedesklaw20.SkeletonTwice', WHERE WHAT IT READS IS OF BULK AT MOST 1048576: true; the input reads as it did. -/
def skeletonTwiceUptoRow : OpenClaim := { program := "ytecpbicfiaifdaadoor", sum := "4d2dd1a9049304e144b3248f0d78ac2bd97acfa9caa0b6fb324b3a7997ea41ed", func := "namedesk/namedesklaw20.SkeletonTwice", spec := "skeletonTwice", unfollowed := true, recurses := true, named := ["namedesk/table.blocks"], plainKeys := false, apart := false, laid := [("namedesk/table.blocks", laid_namedesk_table_blocks)], narrowed := true }
def SkeletonTwiceUptoSaid : Prop := skeletonTwiceUptoRow.holds Tryd.pinned (OpenSpec.upto skeletonTwiceSpec)

/-- 'namedesklaw21.ConfuseClasses', WHERE WHAT IT READS IS OF BULK AT MOST 1048576: true; the input reads as it did. -/
def confuseClassesUptoRow : OpenClaim := { program := "ytecpbicfiaifdaadoor", sum := "4d2dd1a9049304e144b3248f0d78ac2bd97acfa9caa0b6fb324b3a7997ea41ed", func := "namedesk/namedesklaw21.ConfuseClasses", spec := "confuseClasses", unfollowed := true, recurses := true, named := ["namedesk/table.blocks"], plainKeys := false, apart := false, laid := [("namedesk/table.blocks", laid_namedesk_table_blocks)], narrowed := true }
def ConfuseClassesUptoSaid : Prop := confuseClassesUptoRow.holds Tryd.pinned (OpenSpec.upto confuseClassesSpec)

/-- 'namedesklaw7.DecomposeEquivalent', WHERE WHAT IT READS IS OF BULK AT MOST 1048576: true; the input reads as it did. -/
def decomposeEquivalentUptoRow : OpenClaim := { program := "ytecpbicfiaifdaadoor", sum := "4d2dd1a9049304e144b3248f0d78ac2bd97acfa9caa0b6fb324b3a7997ea41ed", func := "namedesk/namedesklaw7.DecomposeEquivalent", spec := "decomposeEquivalent", unfollowed := true, recurses := true, named := ["namedesk/table.blocks"], plainKeys := false, apart := false, laid := [("namedesk/table.blocks", laid_namedesk_table_blocks)], narrowed := true }
def DecomposeEquivalentUptoSaid : Prop := decomposeEquivalentUptoRow.holds Tryd.pinned (OpenSpec.upto decomposeEquivalentSpec)

end Rows
end Go.Proofs.YtecpbicfiaifdaaDoor
