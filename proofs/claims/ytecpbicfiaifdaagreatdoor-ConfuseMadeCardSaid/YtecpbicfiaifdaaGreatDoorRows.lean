/-
  NARROWER THAN 'FOR EVERY INPUT', by the rows' own cells (each row's printed sentence says how): SkeletonNormal: laid · SkeletonPrototype: laid · SkeletonKey: laid · ConfuseTwins: laid · SkeletonMade: laid · SkeletonErrors: laid · SkeletonEmpty: laid · ConfuseMade: laid · ConfuseSkeleton: laid.
  DERIVED. THE GIVEN ROWS OF THIS SEAT. 9 by the template 'for every input the law returns true; each argument reads behind the call as it read before'; 0 by the template 'total and deterministic' (their statements: YtecpbicfiaifdaaGreatDoorTotals.lean).
  GIVEN WITH THE SEED: the statements are not yours to turn. If you find one false, say at which input.
  Laid BY PROGRAM, IN A SANDBOX (cutbox-rows.mjs): the forced cells as the released guide's own fill.sh prints them over the translation cb1781b0d1bf4f0b… (all of the seat's roots in one cut). By AI agents, Wed Nov 11 2026. No macro, syntax, notation, axiom, sorry.
-/
import Derived.Test.YtecpbicfiaifdaaGreatDoorChecked
import GoSem.Claim
import GoSem.ClaimJoined
import GoSem.ClaimMapViews
import Derived.JoinedTies
import Derived.KernelRfl
namespace Go.Proofs.YtecpbicfiaifdaaGreatDoor
/- THE CELL 'sum', in the pinned program and in every row, IS THE sha256 OF THE DUMP (.gsa) THAT YtecpbicfiaifdaaGreatDoorProg.lean LOADS. Nothing in Lean hashes anything: it is a label: what it is worth is what the hold of that sum in a sandbox is worth. -/
noncomputable def Tryz.pinned : Pinned := { name := "ytecpbicfiaifdaagreatdoor", sum := "cb1781b0d1bf4f0bb9db9710938f2720895bf2d31491f136c4624963c639371b", checked := Tryz.checked }
namespace Rows
def none {H : Type} : Left H := { results := [], args := [] }

/- WHAT THE LISTED PACKAGE-LEVEL VARIABLES READ AS WHEN THE CALL BEGINS. Each datum BY PROGRAM (the guide's laid-datum.mjs) off the statement by which the dump's own 'gosem.cut.vars' lays the variable. In a bare row this is a premise. The card (YtecpbicfiaifdaaGreatDoorCards.lean) ties it to the program's text. -/
def laid_namedesk_table_blocks {H : Type} : DataW H := .slice [.agg [.lit (.int .i64 0), .lit (.int .i64 127), .lit (.int .i64 0)], .agg [.lit (.int .i64 4352), .lit (.int .i64 4370), .lit (.int .i64 0)], .agg [.lit (.int .i64 4449), .lit (.int .i64 4469), .lit (.int .i64 0)], .agg [.lit (.int .i64 4520), .lit (.int .i64 4546), .lit (.int .i64 0)], .agg [.lit (.int .i64 44032), .lit (.int .i64 55203), .lit (.int .i64 0)], .agg [.lit (.int .i64 55296), .lit (.int .i64 57343), .lit (.int .i64 0)]] []

/-- 'namedesklaw20.SkeletonNormal': WHATEVER THE INPUT: true; the input reads as it did. -/
def skeletonNormalSpec : ChangeSpec := { name := "skeletonNormal", fn := fun _ => fun
  | [d1, d2] => { results := [.lit (.bool true)], args := [d1, d2] }
  | _ => none }
def skeletonNormalRow : OpenClaim := { program := "ytecpbicfiaifdaagreatdoor", sum := "cb1781b0d1bf4f0bb9db9710938f2720895bf2d31491f136c4624963c639371b", func := "namedesk/namedesklaw20.SkeletonNormal", spec := "skeletonNormal", unfollowed := true, recurses := true, named := ["namedesk/table.blocks"], plainKeys := false, apart := false, laid := [("namedesk/table.blocks", laid_namedesk_table_blocks)] }
def SkeletonNormalSaid : Prop := skeletonNormalRow.holds Tryz.pinned (OpenSpec.ofChange skeletonNormalSpec)

/-- ITS FALSE NEIGHBOUR: 'it returns false'. Refute it at one input. -/
def skeletonNormalWrong : ChangeSpec := { name := "skeletonNormal", fn := fun _ => fun
  | [d1, d2] => { results := [.lit (.bool false)], args := [d1, d2] }
  | _ => none }
def SkeletonNormalWrongFalsely : Prop := skeletonNormalRow.holds Tryz.pinned (OpenSpec.ofChange skeletonNormalWrong)

/-- 'namedesklaw20.SkeletonPrototype': WHATEVER THE INPUT: true; the input reads as it did. -/
def skeletonPrototypeSpec : ChangeSpec := { name := "skeletonPrototype", fn := fun _ => fun
  | [d1, d2, d3] => { results := [.lit (.bool true)], args := [d1, d2, d3] }
  | _ => none }
def skeletonPrototypeRow : OpenClaim := { program := "ytecpbicfiaifdaagreatdoor", sum := "cb1781b0d1bf4f0bb9db9710938f2720895bf2d31491f136c4624963c639371b", func := "namedesk/namedesklaw20.SkeletonPrototype", spec := "skeletonPrototype", unfollowed := true, recurses := true, named := ["namedesk/table.blocks"], plainKeys := false, apart := false, laid := [("namedesk/table.blocks", laid_namedesk_table_blocks)] }
def SkeletonPrototypeSaid : Prop := skeletonPrototypeRow.holds Tryz.pinned (OpenSpec.ofChange skeletonPrototypeSpec)

/-- ITS FALSE NEIGHBOUR: 'it returns false'. Refute it at one input. -/
def skeletonPrototypeWrong : ChangeSpec := { name := "skeletonPrototype", fn := fun _ => fun
  | [d1, d2, d3] => { results := [.lit (.bool false)], args := [d1, d2, d3] }
  | _ => none }
def SkeletonPrototypeWrongFalsely : Prop := skeletonPrototypeRow.holds Tryz.pinned (OpenSpec.ofChange skeletonPrototypeWrong)

/-- 'namedesklaw20.SkeletonKey': WHATEVER THE INPUT: true; the input reads as it did. -/
def skeletonKeySpec : ChangeSpec := { name := "skeletonKey", fn := fun _ => fun
  | [d1, d2, d3] => { results := [.lit (.bool true)], args := [d1, d2, d3] }
  | _ => none }
def skeletonKeyRow : OpenClaim := { program := "ytecpbicfiaifdaagreatdoor", sum := "cb1781b0d1bf4f0bb9db9710938f2720895bf2d31491f136c4624963c639371b", func := "namedesk/namedesklaw20.SkeletonKey", spec := "skeletonKey", unfollowed := true, recurses := true, named := ["namedesk/table.blocks"], plainKeys := false, apart := false, laid := [("namedesk/table.blocks", laid_namedesk_table_blocks)] }
def SkeletonKeySaid : Prop := skeletonKeyRow.holds Tryz.pinned (OpenSpec.ofChange skeletonKeySpec)

/-- ITS FALSE NEIGHBOUR: 'it returns false'. Refute it at one input. -/
def skeletonKeyWrong : ChangeSpec := { name := "skeletonKey", fn := fun _ => fun
  | [d1, d2, d3] => { results := [.lit (.bool false)], args := [d1, d2, d3] }
  | _ => none }
def SkeletonKeyWrongFalsely : Prop := skeletonKeyRow.holds Tryz.pinned (OpenSpec.ofChange skeletonKeyWrong)

/-- 'namedesklaw21.ConfuseTwins': WHATEVER THE INPUT: true; the input reads as it did. -/
def confuseTwinsSpec : ChangeSpec := { name := "confuseTwins", fn := fun _ => fun
  | [d1, d2] => { results := [.lit (.bool true)], args := [d1, d2] }
  | _ => none }
def confuseTwinsRow : OpenClaim := { program := "ytecpbicfiaifdaagreatdoor", sum := "cb1781b0d1bf4f0bb9db9710938f2720895bf2d31491f136c4624963c639371b", func := "namedesk/namedesklaw21.ConfuseTwins", spec := "confuseTwins", unfollowed := true, recurses := true, named := ["namedesk/table.blocks"], plainKeys := false, apart := false, laid := [("namedesk/table.blocks", laid_namedesk_table_blocks)] }
def ConfuseTwinsSaid : Prop := confuseTwinsRow.holds Tryz.pinned (OpenSpec.ofChange confuseTwinsSpec)

/-- ITS FALSE NEIGHBOUR: 'it returns false'. Refute it at one input. -/
def confuseTwinsWrong : ChangeSpec := { name := "confuseTwins", fn := fun _ => fun
  | [d1, d2] => { results := [.lit (.bool false)], args := [d1, d2] }
  | _ => none }
def ConfuseTwinsWrongFalsely : Prop := confuseTwinsRow.holds Tryz.pinned (OpenSpec.ofChange confuseTwinsWrong)

/-- 'namedesklaw20.SkeletonMade': WHATEVER THE INPUT: true; the input reads as it did. -/
def skeletonMadeSpec : ChangeSpec := { name := "skeletonMade", fn := fun _ => fun
  | [d1, d2, d3, d4] => { results := [.lit (.bool true)], args := [d1, d2, d3, d4] }
  | _ => none }
def skeletonMadeRow : OpenClaim := { program := "ytecpbicfiaifdaagreatdoor", sum := "cb1781b0d1bf4f0bb9db9710938f2720895bf2d31491f136c4624963c639371b", func := "namedesk/namedesklaw20.SkeletonMade", spec := "skeletonMade", unfollowed := true, recurses := true, named := ["namedesk/table.blocks"], plainKeys := false, apart := false, laid := [("namedesk/table.blocks", laid_namedesk_table_blocks)] }
def SkeletonMadeSaid : Prop := skeletonMadeRow.holds Tryz.pinned (OpenSpec.ofChange skeletonMadeSpec)

/-- ITS FALSE NEIGHBOUR: 'it returns false'. Refute it at one input. -/
def skeletonMadeWrong : ChangeSpec := { name := "skeletonMade", fn := fun _ => fun
  | [d1, d2, d3, d4] => { results := [.lit (.bool false)], args := [d1, d2, d3, d4] }
  | _ => none }
def SkeletonMadeWrongFalsely : Prop := skeletonMadeRow.holds Tryz.pinned (OpenSpec.ofChange skeletonMadeWrong)

/-- 'namedesklaw20.SkeletonErrors': WHATEVER THE INPUT: true; the input reads as it did. -/
def skeletonErrorsSpec : ChangeSpec := { name := "skeletonErrors", fn := fun _ => fun
  | [d1, d2, d3, d4, d5, d6] => { results := [.lit (.bool true)], args := [d1, d2, d3, d4, d5, d6] }
  | _ => none }
def skeletonErrorsRow : OpenClaim := { program := "ytecpbicfiaifdaagreatdoor", sum := "cb1781b0d1bf4f0bb9db9710938f2720895bf2d31491f136c4624963c639371b", func := "namedesk/namedesklaw20.SkeletonErrors", spec := "skeletonErrors", unfollowed := true, recurses := true, named := ["namedesk/table.blocks"], plainKeys := false, apart := false, laid := [("namedesk/table.blocks", laid_namedesk_table_blocks)] }
def SkeletonErrorsSaid : Prop := skeletonErrorsRow.holds Tryz.pinned (OpenSpec.ofChange skeletonErrorsSpec)

/-- ITS FALSE NEIGHBOUR: 'it returns false'. Refute it at one input. -/
def skeletonErrorsWrong : ChangeSpec := { name := "skeletonErrors", fn := fun _ => fun
  | [d1, d2, d3, d4, d5, d6] => { results := [.lit (.bool false)], args := [d1, d2, d3, d4, d5, d6] }
  | _ => none }
def SkeletonErrorsWrongFalsely : Prop := skeletonErrorsRow.holds Tryz.pinned (OpenSpec.ofChange skeletonErrorsWrong)

/-- 'namedesklaw20.SkeletonEmpty': WHATEVER THE INPUT: true; the input reads as it did. -/
def skeletonEmptySpec : ChangeSpec := { name := "skeletonEmpty", fn := fun _ => fun
  | [d1, d2] => { results := [.lit (.bool true)], args := [d1, d2] }
  | _ => none }
def skeletonEmptyRow : OpenClaim := { program := "ytecpbicfiaifdaagreatdoor", sum := "cb1781b0d1bf4f0bb9db9710938f2720895bf2d31491f136c4624963c639371b", func := "namedesk/namedesklaw20.SkeletonEmpty", spec := "skeletonEmpty", unfollowed := true, recurses := true, named := ["namedesk/table.blocks"], plainKeys := false, apart := false, laid := [("namedesk/table.blocks", laid_namedesk_table_blocks)] }
def SkeletonEmptySaid : Prop := skeletonEmptyRow.holds Tryz.pinned (OpenSpec.ofChange skeletonEmptySpec)

/-- ITS FALSE NEIGHBOUR: 'it returns false'. Refute it at one input. -/
def skeletonEmptyWrong : ChangeSpec := { name := "skeletonEmpty", fn := fun _ => fun
  | [d1, d2] => { results := [.lit (.bool false)], args := [d1, d2] }
  | _ => none }
def SkeletonEmptyWrongFalsely : Prop := skeletonEmptyRow.holds Tryz.pinned (OpenSpec.ofChange skeletonEmptyWrong)

/-- 'namedesklaw21.ConfuseMade': WHATEVER THE INPUT: true; the input reads as it did. -/
def confuseMadeSpec : ChangeSpec := { name := "confuseMade", fn := fun _ => fun
  | [d1, d2, d3] => { results := [.lit (.bool true)], args := [d1, d2, d3] }
  | _ => none }
def confuseMadeRow : OpenClaim := { program := "ytecpbicfiaifdaagreatdoor", sum := "cb1781b0d1bf4f0bb9db9710938f2720895bf2d31491f136c4624963c639371b", func := "namedesk/namedesklaw21.ConfuseMade", spec := "confuseMade", unfollowed := true, recurses := true, named := ["namedesk/table.blocks"], plainKeys := false, apart := false, laid := [("namedesk/table.blocks", laid_namedesk_table_blocks)] }
def ConfuseMadeSaid : Prop := confuseMadeRow.holds Tryz.pinned (OpenSpec.ofChange confuseMadeSpec)

/-- ITS FALSE NEIGHBOUR: 'it returns false'. Refute it at one input. -/
def confuseMadeWrong : ChangeSpec := { name := "confuseMade", fn := fun _ => fun
  | [d1, d2, d3] => { results := [.lit (.bool false)], args := [d1, d2, d3] }
  | _ => none }
def ConfuseMadeWrongFalsely : Prop := confuseMadeRow.holds Tryz.pinned (OpenSpec.ofChange confuseMadeWrong)

/-- 'namedesklaw21.ConfuseSkeleton': WHATEVER THE INPUT: true; the input reads as it did. -/
def confuseSkeletonSpec : ChangeSpec := { name := "confuseSkeleton", fn := fun _ => fun
  | [d1, d2, d3] => { results := [.lit (.bool true)], args := [d1, d2, d3] }
  | _ => none }
def confuseSkeletonRow : OpenClaim := { program := "ytecpbicfiaifdaagreatdoor", sum := "cb1781b0d1bf4f0bb9db9710938f2720895bf2d31491f136c4624963c639371b", func := "namedesk/namedesklaw21.ConfuseSkeleton", spec := "confuseSkeleton", unfollowed := true, recurses := true, named := ["namedesk/table.blocks"], plainKeys := false, apart := false, laid := [("namedesk/table.blocks", laid_namedesk_table_blocks)] }
def ConfuseSkeletonSaid : Prop := confuseSkeletonRow.holds Tryz.pinned (OpenSpec.ofChange confuseSkeletonSpec)

/-- ITS FALSE NEIGHBOUR: 'it returns false'. Refute it at one input. -/
def confuseSkeletonWrong : ChangeSpec := { name := "confuseSkeleton", fn := fun _ => fun
  | [d1, d2, d3] => { results := [.lit (.bool false)], args := [d1, d2, d3] }
  | _ => none }
def ConfuseSkeletonWrongFalsely : Prop := confuseSkeletonRow.holds Tryz.pinned (OpenSpec.ofChange confuseSkeletonWrong)

/- THE SECOND FORM. 'bulk': how many values and letters a reading holds, each counted each time it is reached (what is shared counts as often as it is met; a slice's spare places count too). A statement '..UptoSaid' is the law's where the arguments, and the package variables that the reading takes, are together of bulk at most 1048576: NARROWER than '..Said'. Prove '..Said' where nothing that the law and all that it calls make is longer than what came in: it says more and counts as full. Else prove '..UptoSaid'. A law counts once. -/
mutual
def uptoBulk {H : Type} : DataW H → Nat
  | .lit (.string bytes) => bytes.length + 1
  | .lit _ => 1
  | .nil => 1
  | .ptr d => uptoBulk d + 1
  | .slice elems spare => uptoBulkAll elems + uptoBulkAll spare + 1
  | .agg parts => uptoBulkAll parts + 1
  | .iface _ d => uptoBulk d + 1
  | .map entries => uptoBulkEntries entries + 1
  | .held _ => 1
def uptoBulkAll {H : Type} : List (DataW H) → Nat
  | [] => 0
  | d :: r => uptoBulk d + uptoBulkAll r
def uptoBulkEntries {H : Type} : List (Lit × DataW H) → Nat
  | [] => 0
  | x :: r => uptoBulkEntry x + uptoBulkEntries r
def uptoBulkEntry {H : Type} : Lit × DataW H → Nat
  | (.string bytes, d) => bytes.length + uptoBulk d + 1
  | (_, d) => uptoBulk d + 1
 end
def uptoSmall : (H : Type) → List (DataW H) → Bool := fun _ ds => decide (uptoBulkAll ds ≤ 1048576)
def OpenSpec.upto (s : _root_.Go.ChangeSpec) : _root_.Go.OpenSpec := { _root_.Go.OpenSpec.ofChange s with cond := some uptoSmall }

/-- 'namedesklaw20.SkeletonNormal', WHERE WHAT IT READS IS OF BULK AT MOST 1048576: true; the input reads as it did. -/
def skeletonNormalUptoRow : OpenClaim := { program := "ytecpbicfiaifdaagreatdoor", sum := "cb1781b0d1bf4f0bb9db9710938f2720895bf2d31491f136c4624963c639371b", func := "namedesk/namedesklaw20.SkeletonNormal", spec := "skeletonNormal", unfollowed := true, recurses := true, named := ["namedesk/table.blocks"], plainKeys := false, apart := false, laid := [("namedesk/table.blocks", laid_namedesk_table_blocks)], narrowed := true }
def SkeletonNormalUptoSaid : Prop := skeletonNormalUptoRow.holds Tryz.pinned (OpenSpec.upto skeletonNormalSpec)

/-- 'namedesklaw20.SkeletonPrototype', WHERE WHAT IT READS IS OF BULK AT MOST 1048576: true; the input reads as it did. -/
def skeletonPrototypeUptoRow : OpenClaim := { program := "ytecpbicfiaifdaagreatdoor", sum := "cb1781b0d1bf4f0bb9db9710938f2720895bf2d31491f136c4624963c639371b", func := "namedesk/namedesklaw20.SkeletonPrototype", spec := "skeletonPrototype", unfollowed := true, recurses := true, named := ["namedesk/table.blocks"], plainKeys := false, apart := false, laid := [("namedesk/table.blocks", laid_namedesk_table_blocks)], narrowed := true }
def SkeletonPrototypeUptoSaid : Prop := skeletonPrototypeUptoRow.holds Tryz.pinned (OpenSpec.upto skeletonPrototypeSpec)

/-- 'namedesklaw20.SkeletonKey', WHERE WHAT IT READS IS OF BULK AT MOST 1048576: true; the input reads as it did. -/
def skeletonKeyUptoRow : OpenClaim := { program := "ytecpbicfiaifdaagreatdoor", sum := "cb1781b0d1bf4f0bb9db9710938f2720895bf2d31491f136c4624963c639371b", func := "namedesk/namedesklaw20.SkeletonKey", spec := "skeletonKey", unfollowed := true, recurses := true, named := ["namedesk/table.blocks"], plainKeys := false, apart := false, laid := [("namedesk/table.blocks", laid_namedesk_table_blocks)], narrowed := true }
def SkeletonKeyUptoSaid : Prop := skeletonKeyUptoRow.holds Tryz.pinned (OpenSpec.upto skeletonKeySpec)

/-- 'namedesklaw21.ConfuseTwins', WHERE WHAT IT READS IS OF BULK AT MOST 1048576: true; the input reads as it did. -/
def confuseTwinsUptoRow : OpenClaim := { program := "ytecpbicfiaifdaagreatdoor", sum := "cb1781b0d1bf4f0bb9db9710938f2720895bf2d31491f136c4624963c639371b", func := "namedesk/namedesklaw21.ConfuseTwins", spec := "confuseTwins", unfollowed := true, recurses := true, named := ["namedesk/table.blocks"], plainKeys := false, apart := false, laid := [("namedesk/table.blocks", laid_namedesk_table_blocks)], narrowed := true }
def ConfuseTwinsUptoSaid : Prop := confuseTwinsUptoRow.holds Tryz.pinned (OpenSpec.upto confuseTwinsSpec)

/-- 'namedesklaw20.SkeletonMade', WHERE WHAT IT READS IS OF BULK AT MOST 1048576: true; the input reads as it did. -/
def skeletonMadeUptoRow : OpenClaim := { program := "ytecpbicfiaifdaagreatdoor", sum := "cb1781b0d1bf4f0bb9db9710938f2720895bf2d31491f136c4624963c639371b", func := "namedesk/namedesklaw20.SkeletonMade", spec := "skeletonMade", unfollowed := true, recurses := true, named := ["namedesk/table.blocks"], plainKeys := false, apart := false, laid := [("namedesk/table.blocks", laid_namedesk_table_blocks)], narrowed := true }
def SkeletonMadeUptoSaid : Prop := skeletonMadeUptoRow.holds Tryz.pinned (OpenSpec.upto skeletonMadeSpec)

/-- 'namedesklaw20.SkeletonErrors', WHERE WHAT IT READS IS OF BULK AT MOST 1048576: true; the input reads as it did. -/
def skeletonErrorsUptoRow : OpenClaim := { program := "ytecpbicfiaifdaagreatdoor", sum := "cb1781b0d1bf4f0bb9db9710938f2720895bf2d31491f136c4624963c639371b", func := "namedesk/namedesklaw20.SkeletonErrors", spec := "skeletonErrors", unfollowed := true, recurses := true, named := ["namedesk/table.blocks"], plainKeys := false, apart := false, laid := [("namedesk/table.blocks", laid_namedesk_table_blocks)], narrowed := true }
def SkeletonErrorsUptoSaid : Prop := skeletonErrorsUptoRow.holds Tryz.pinned (OpenSpec.upto skeletonErrorsSpec)

/-- 'namedesklaw20.SkeletonEmpty', WHERE WHAT IT READS IS OF BULK AT MOST 1048576: true; the input reads as it did. -/
def skeletonEmptyUptoRow : OpenClaim := { program := "ytecpbicfiaifdaagreatdoor", sum := "cb1781b0d1bf4f0bb9db9710938f2720895bf2d31491f136c4624963c639371b", func := "namedesk/namedesklaw20.SkeletonEmpty", spec := "skeletonEmpty", unfollowed := true, recurses := true, named := ["namedesk/table.blocks"], plainKeys := false, apart := false, laid := [("namedesk/table.blocks", laid_namedesk_table_blocks)], narrowed := true }
def SkeletonEmptyUptoSaid : Prop := skeletonEmptyUptoRow.holds Tryz.pinned (OpenSpec.upto skeletonEmptySpec)

/-- 'namedesklaw21.ConfuseMade', WHERE WHAT IT READS IS OF BULK AT MOST 1048576: true; the input reads as it did. -/
def confuseMadeUptoRow : OpenClaim := { program := "ytecpbicfiaifdaagreatdoor", sum := "cb1781b0d1bf4f0bb9db9710938f2720895bf2d31491f136c4624963c639371b", func := "namedesk/namedesklaw21.ConfuseMade", spec := "confuseMade", unfollowed := true, recurses := true, named := ["namedesk/table.blocks"], plainKeys := false, apart := false, laid := [("namedesk/table.blocks", laid_namedesk_table_blocks)], narrowed := true }
def ConfuseMadeUptoSaid : Prop := confuseMadeUptoRow.holds Tryz.pinned (OpenSpec.upto confuseMadeSpec)

/-- 'namedesklaw21.ConfuseSkeleton', WHERE WHAT IT READS IS OF BULK AT MOST 1048576: true; the input reads as it did. -/
def confuseSkeletonUptoRow : OpenClaim := { program := "ytecpbicfiaifdaagreatdoor", sum := "cb1781b0d1bf4f0bb9db9710938f2720895bf2d31491f136c4624963c639371b", func := "namedesk/namedesklaw21.ConfuseSkeleton", spec := "confuseSkeleton", unfollowed := true, recurses := true, named := ["namedesk/table.blocks"], plainKeys := false, apart := false, laid := [("namedesk/table.blocks", laid_namedesk_table_blocks)], narrowed := true }
def ConfuseSkeletonUptoSaid : Prop := confuseSkeletonUptoRow.holds Tryz.pinned (OpenSpec.upto confuseSkeletonSpec)

end Rows
end Go.Proofs.YtecpbicfiaifdaaGreatDoor
