/-
  NARROWER THAN 'FOR EVERY INPUT', by the rows' own cells (each row's printed sentence says how): OrderNeighbours: laid · OrderConcatenation: laid · OrderRuns: laid · MappingConcatenation: laid · MappingPermitted: laid · MappingLetters: laid · MappingFull: laid · OrderMade: laid · OrderErrors: laid · OrderStable: laid · MappingTwice: laid.
  DERIVED. THE GIVEN ROWS OF THIS SEAT. 11 by the template 'for every input the law returns true; each argument reads behind the call as it read before'; 0 by the template 'total and deterministic' (their statements: YtneinkpfhkojgaaDoorTotals.lean).
  GIVEN WITH THE SEED: the statements are not yours to turn. If you find one false, say at which input.
  Laid BY PROGRAM, IN A SANDBOX (cutbox-rows.mjs): the forced cells as the released guide's own fill.sh prints them over the translation c153da47305f31d4… (all of the seat's roots in one cut). By AI agents, Wed Nov 11 2026. No macro, syntax, notation, axiom, sorry.
-/
import Derived.Test.YtneinkpfhkojgaaDoorChecked
import GoSem.Claim
import GoSem.ClaimJoined
import GoSem.ClaimMapViews
import Derived.JoinedTies
import Derived.KernelRfl
namespace Go.Proofs.YtneinkpfhkojgaaDoor
/- THE CELL 'sum', in the pinned program and in every row, IS THE sha256 OF THE DUMP (.gsa) THAT YtneinkpfhkojgaaDoorProg.lean LOADS. Nothing in Lean hashes anything: it is a label: what it is worth is what the hold of that sum in a sandbox is worth. -/
noncomputable def Tryd.pinned : Pinned := { name := "ytneinkpfhkojgaadoor", sum := "c153da47305f31d45f4a5d33f3783bbb74d4a6b67615d017e1c8fdb947593c4e", checked := Tryd.checked }
namespace Rows
def none {H : Type} : Left H := { results := [], args := [] }

/- WHAT THE LISTED PACKAGE-LEVEL VARIABLES READ AS WHEN THE CALL BEGINS. Each datum BY PROGRAM (the guide's laid-datum.mjs) off the statement by which the dump's own 'gosem.cut.vars' lays the variable. In a bare row this is a premise. The card (YtneinkpfhkojgaaDoorCards.lean) ties it to the program's text. -/
def laid_namedesk_table_blocks {H : Type} : DataW H := .slice [.agg [.lit (.int .i64 0), .lit (.int .i64 127), .lit (.int .i64 0)], .agg [.lit (.int .i64 4352), .lit (.int .i64 4370), .lit (.int .i64 0)], .agg [.lit (.int .i64 4449), .lit (.int .i64 4469), .lit (.int .i64 0)], .agg [.lit (.int .i64 4520), .lit (.int .i64 4546), .lit (.int .i64 0)], .agg [.lit (.int .i64 44032), .lit (.int .i64 55203), .lit (.int .i64 0)], .agg [.lit (.int .i64 55296), .lit (.int .i64 57343), .lit (.int .i64 0)]] []

/-- 'namedesklaw6.OrderNeighbours': WHATEVER THE INPUT: true; the input reads as it did. -/
def orderNeighboursSpec : ChangeSpec := { name := "orderNeighbours", fn := fun _ => fun
  | [d1, d2, d3] => { results := [.lit (.bool true)], args := [d1, d2, d3] }
  | _ => none }
def orderNeighboursRow : OpenClaim := { program := "ytneinkpfhkojgaadoor", sum := "c153da47305f31d45f4a5d33f3783bbb74d4a6b67615d017e1c8fdb947593c4e", func := "namedesk/namedesklaw6.OrderNeighbours", spec := "orderNeighbours", unfollowed := true, recurses := true, named := ["namedesk/table.blocks"], plainKeys := false, apart := false, laid := [("namedesk/table.blocks", laid_namedesk_table_blocks)] }
def OrderNeighboursSaid : Prop := orderNeighboursRow.holds Tryd.pinned (OpenSpec.ofChange orderNeighboursSpec)

/-- ITS FALSE NEIGHBOUR: 'it returns false'. Refute it at one input. -/
def orderNeighboursWrong : ChangeSpec := { name := "orderNeighbours", fn := fun _ => fun
  | [d1, d2, d3] => { results := [.lit (.bool false)], args := [d1, d2, d3] }
  | _ => none }
def OrderNeighboursWrongFalsely : Prop := orderNeighboursRow.holds Tryd.pinned (OpenSpec.ofChange orderNeighboursWrong)

/-- 'namedesklaw6.OrderConcatenation': WHATEVER THE INPUT: true; the input reads as it did. -/
def orderConcatenationSpec : ChangeSpec := { name := "orderConcatenation", fn := fun _ => fun
  | [d1, d2, d3] => { results := [.lit (.bool true)], args := [d1, d2, d3] }
  | _ => none }
def orderConcatenationRow : OpenClaim := { program := "ytneinkpfhkojgaadoor", sum := "c153da47305f31d45f4a5d33f3783bbb74d4a6b67615d017e1c8fdb947593c4e", func := "namedesk/namedesklaw6.OrderConcatenation", spec := "orderConcatenation", unfollowed := true, recurses := true, named := ["namedesk/table.blocks"], plainKeys := false, apart := false, laid := [("namedesk/table.blocks", laid_namedesk_table_blocks)] }
def OrderConcatenationSaid : Prop := orderConcatenationRow.holds Tryd.pinned (OpenSpec.ofChange orderConcatenationSpec)

/-- ITS FALSE NEIGHBOUR: 'it returns false'. Refute it at one input. -/
def orderConcatenationWrong : ChangeSpec := { name := "orderConcatenation", fn := fun _ => fun
  | [d1, d2, d3] => { results := [.lit (.bool false)], args := [d1, d2, d3] }
  | _ => none }
def OrderConcatenationWrongFalsely : Prop := orderConcatenationRow.holds Tryd.pinned (OpenSpec.ofChange orderConcatenationWrong)

/-- 'namedesklaw6.OrderRuns': WHATEVER THE INPUT: true; the input reads as it did. -/
def orderRunsSpec : ChangeSpec := { name := "orderRuns", fn := fun _ => fun
  | [d1, d2] => { results := [.lit (.bool true)], args := [d1, d2] }
  | _ => none }
def orderRunsRow : OpenClaim := { program := "ytneinkpfhkojgaadoor", sum := "c153da47305f31d45f4a5d33f3783bbb74d4a6b67615d017e1c8fdb947593c4e", func := "namedesk/namedesklaw6.OrderRuns", spec := "orderRuns", unfollowed := true, recurses := true, named := ["namedesk/table.blocks"], plainKeys := false, apart := false, laid := [("namedesk/table.blocks", laid_namedesk_table_blocks)] }
def OrderRunsSaid : Prop := orderRunsRow.holds Tryd.pinned (OpenSpec.ofChange orderRunsSpec)

/-- ITS FALSE NEIGHBOUR: 'it returns false'. Refute it at one input. -/
def orderRunsWrong : ChangeSpec := { name := "orderRuns", fn := fun _ => fun
  | [d1, d2] => { results := [.lit (.bool false)], args := [d1, d2] }
  | _ => none }
def OrderRunsWrongFalsely : Prop := orderRunsRow.holds Tryd.pinned (OpenSpec.ofChange orderRunsWrong)

/-- 'namedesklaw13.MappingConcatenation': WHATEVER THE INPUT: true; the input reads as it did. -/
def mappingConcatenationSpec : ChangeSpec := { name := "mappingConcatenation", fn := fun _ => fun
  | [d1, d2, d3] => { results := [.lit (.bool true)], args := [d1, d2, d3] }
  | _ => none }
def mappingConcatenationRow : OpenClaim := { program := "ytneinkpfhkojgaadoor", sum := "c153da47305f31d45f4a5d33f3783bbb74d4a6b67615d017e1c8fdb947593c4e", func := "namedesk/namedesklaw13.MappingConcatenation", spec := "mappingConcatenation", unfollowed := true, recurses := true, named := ["namedesk/table.blocks"], plainKeys := false, apart := false, laid := [("namedesk/table.blocks", laid_namedesk_table_blocks)] }
def MappingConcatenationSaid : Prop := mappingConcatenationRow.holds Tryd.pinned (OpenSpec.ofChange mappingConcatenationSpec)

/-- ITS FALSE NEIGHBOUR: 'it returns false'. Refute it at one input. -/
def mappingConcatenationWrong : ChangeSpec := { name := "mappingConcatenation", fn := fun _ => fun
  | [d1, d2, d3] => { results := [.lit (.bool false)], args := [d1, d2, d3] }
  | _ => none }
def MappingConcatenationWrongFalsely : Prop := mappingConcatenationRow.holds Tryd.pinned (OpenSpec.ofChange mappingConcatenationWrong)

/-- 'namedesklaw13.MappingPermitted': WHATEVER THE INPUT: true; the input reads as it did. -/
def mappingPermittedSpec : ChangeSpec := { name := "mappingPermitted", fn := fun _ => fun
  | [d1, d2] => { results := [.lit (.bool true)], args := [d1, d2] }
  | _ => none }
def mappingPermittedRow : OpenClaim := { program := "ytneinkpfhkojgaadoor", sum := "c153da47305f31d45f4a5d33f3783bbb74d4a6b67615d017e1c8fdb947593c4e", func := "namedesk/namedesklaw13.MappingPermitted", spec := "mappingPermitted", unfollowed := true, recurses := true, named := ["namedesk/table.blocks"], plainKeys := false, apart := false, laid := [("namedesk/table.blocks", laid_namedesk_table_blocks)] }
def MappingPermittedSaid : Prop := mappingPermittedRow.holds Tryd.pinned (OpenSpec.ofChange mappingPermittedSpec)

/-- ITS FALSE NEIGHBOUR: 'it returns false'. Refute it at one input. -/
def mappingPermittedWrong : ChangeSpec := { name := "mappingPermitted", fn := fun _ => fun
  | [d1, d2] => { results := [.lit (.bool false)], args := [d1, d2] }
  | _ => none }
def MappingPermittedWrongFalsely : Prop := mappingPermittedRow.holds Tryd.pinned (OpenSpec.ofChange mappingPermittedWrong)

/-- 'namedesklaw13.MappingLetters': WHATEVER THE INPUT: true; the input reads as it did. -/
def mappingLettersSpec : ChangeSpec := { name := "mappingLetters", fn := fun _ => fun
  | [d1, d2] => { results := [.lit (.bool true)], args := [d1, d2] }
  | _ => none }
def mappingLettersRow : OpenClaim := { program := "ytneinkpfhkojgaadoor", sum := "c153da47305f31d45f4a5d33f3783bbb74d4a6b67615d017e1c8fdb947593c4e", func := "namedesk/namedesklaw13.MappingLetters", spec := "mappingLetters", unfollowed := true, recurses := true, named := ["namedesk/table.blocks"], plainKeys := false, apart := false, laid := [("namedesk/table.blocks", laid_namedesk_table_blocks)] }
def MappingLettersSaid : Prop := mappingLettersRow.holds Tryd.pinned (OpenSpec.ofChange mappingLettersSpec)

/-- ITS FALSE NEIGHBOUR: 'it returns false'. Refute it at one input. -/
def mappingLettersWrong : ChangeSpec := { name := "mappingLetters", fn := fun _ => fun
  | [d1, d2] => { results := [.lit (.bool false)], args := [d1, d2] }
  | _ => none }
def MappingLettersWrongFalsely : Prop := mappingLettersRow.holds Tryd.pinned (OpenSpec.ofChange mappingLettersWrong)

/-- 'namedesklaw13.MappingFull': WHATEVER THE INPUT: true; the input reads as it did. -/
def mappingFullSpec : ChangeSpec := { name := "mappingFull", fn := fun _ => fun
  | [d] => { results := [.lit (.bool true)], args := [d] }
  | _ => none }
def mappingFullRow : OpenClaim := { program := "ytneinkpfhkojgaadoor", sum := "c153da47305f31d45f4a5d33f3783bbb74d4a6b67615d017e1c8fdb947593c4e", func := "namedesk/namedesklaw13.MappingFull", spec := "mappingFull", unfollowed := true, recurses := true, named := ["namedesk/table.blocks"], plainKeys := false, apart := false, laid := [("namedesk/table.blocks", laid_namedesk_table_blocks)] }
def MappingFullSaid : Prop := mappingFullRow.holds Tryd.pinned (OpenSpec.ofChange mappingFullSpec)

/-- ITS FALSE NEIGHBOUR: 'it returns false'. Refute it at one input. -/
def mappingFullWrong : ChangeSpec := { name := "mappingFull", fn := fun _ => fun
  | [d] => { results := [.lit (.bool false)], args := [d] }
  | _ => none }
def MappingFullWrongFalsely : Prop := mappingFullRow.holds Tryd.pinned (OpenSpec.ofChange mappingFullWrong)

/-- 'namedesklaw6.OrderMade': WHATEVER THE INPUT: true; the input reads as it did. -/
def orderMadeSpec : ChangeSpec := { name := "orderMade", fn := fun _ => fun
  | [d1, d2, d3] => { results := [.lit (.bool true)], args := [d1, d2, d3] }
  | _ => none }
def orderMadeRow : OpenClaim := { program := "ytneinkpfhkojgaadoor", sum := "c153da47305f31d45f4a5d33f3783bbb74d4a6b67615d017e1c8fdb947593c4e", func := "namedesk/namedesklaw6.OrderMade", spec := "orderMade", unfollowed := true, recurses := true, named := ["namedesk/table.blocks"], plainKeys := false, apart := false, laid := [("namedesk/table.blocks", laid_namedesk_table_blocks)] }
def OrderMadeSaid : Prop := orderMadeRow.holds Tryd.pinned (OpenSpec.ofChange orderMadeSpec)

/-- ITS FALSE NEIGHBOUR: 'it returns false'. Refute it at one input. -/
def orderMadeWrong : ChangeSpec := { name := "orderMade", fn := fun _ => fun
  | [d1, d2, d3] => { results := [.lit (.bool false)], args := [d1, d2, d3] }
  | _ => none }
def OrderMadeWrongFalsely : Prop := orderMadeRow.holds Tryd.pinned (OpenSpec.ofChange orderMadeWrong)

/-- 'namedesklaw6.OrderErrors': WHATEVER THE INPUT: true; the input reads as it did. -/
def orderErrorsSpec : ChangeSpec := { name := "orderErrors", fn := fun _ => fun
  | [d1, d2, d3, d4, d5, d6] => { results := [.lit (.bool true)], args := [d1, d2, d3, d4, d5, d6] }
  | _ => none }
def orderErrorsRow : OpenClaim := { program := "ytneinkpfhkojgaadoor", sum := "c153da47305f31d45f4a5d33f3783bbb74d4a6b67615d017e1c8fdb947593c4e", func := "namedesk/namedesklaw6.OrderErrors", spec := "orderErrors", unfollowed := true, recurses := true, named := ["namedesk/table.blocks"], plainKeys := false, apart := false, laid := [("namedesk/table.blocks", laid_namedesk_table_blocks)] }
def OrderErrorsSaid : Prop := orderErrorsRow.holds Tryd.pinned (OpenSpec.ofChange orderErrorsSpec)

/-- ITS FALSE NEIGHBOUR: 'it returns false'. Refute it at one input. -/
def orderErrorsWrong : ChangeSpec := { name := "orderErrors", fn := fun _ => fun
  | [d1, d2, d3, d4, d5, d6] => { results := [.lit (.bool false)], args := [d1, d2, d3, d4, d5, d6] }
  | _ => none }
def OrderErrorsWrongFalsely : Prop := orderErrorsRow.holds Tryd.pinned (OpenSpec.ofChange orderErrorsWrong)

/-- 'namedesklaw6.OrderStable': WHATEVER THE INPUT: true; the input reads as it did. -/
def orderStableSpec : ChangeSpec := { name := "orderStable", fn := fun _ => fun
  | [d1, d2] => { results := [.lit (.bool true)], args := [d1, d2] }
  | _ => none }
def orderStableRow : OpenClaim := { program := "ytneinkpfhkojgaadoor", sum := "c153da47305f31d45f4a5d33f3783bbb74d4a6b67615d017e1c8fdb947593c4e", func := "namedesk/namedesklaw6.OrderStable", spec := "orderStable", unfollowed := true, recurses := true, named := ["namedesk/table.blocks"], plainKeys := false, apart := false, laid := [("namedesk/table.blocks", laid_namedesk_table_blocks)] }
def OrderStableSaid : Prop := orderStableRow.holds Tryd.pinned (OpenSpec.ofChange orderStableSpec)

/-- ITS FALSE NEIGHBOUR: 'it returns false'. Refute it at one input. -/
def orderStableWrong : ChangeSpec := { name := "orderStable", fn := fun _ => fun
  | [d1, d2] => { results := [.lit (.bool false)], args := [d1, d2] }
  | _ => none }
def OrderStableWrongFalsely : Prop := orderStableRow.holds Tryd.pinned (OpenSpec.ofChange orderStableWrong)

/-- 'namedesklaw13.MappingTwice': WHATEVER THE INPUT: true; the input reads as it did. -/
def mappingTwiceSpec : ChangeSpec := { name := "mappingTwice", fn := fun _ => fun
  | [d1, d2] => { results := [.lit (.bool true)], args := [d1, d2] }
  | _ => none }
def mappingTwiceRow : OpenClaim := { program := "ytneinkpfhkojgaadoor", sum := "c153da47305f31d45f4a5d33f3783bbb74d4a6b67615d017e1c8fdb947593c4e", func := "namedesk/namedesklaw13.MappingTwice", spec := "mappingTwice", unfollowed := true, recurses := true, named := ["namedesk/table.blocks"], plainKeys := false, apart := false, laid := [("namedesk/table.blocks", laid_namedesk_table_blocks)] }
def MappingTwiceSaid : Prop := mappingTwiceRow.holds Tryd.pinned (OpenSpec.ofChange mappingTwiceSpec)

/-- ITS FALSE NEIGHBOUR: 'it returns false'. Refute it at one input. -/
def mappingTwiceWrong : ChangeSpec := { name := "mappingTwice", fn := fun _ => fun
  | [d1, d2] => { results := [.lit (.bool false)], args := [d1, d2] }
  | _ => none }
def MappingTwiceWrongFalsely : Prop := mappingTwiceRow.holds Tryd.pinned (OpenSpec.ofChange mappingTwiceWrong)

/- THE SECOND FORM. 'bulk': how many values and letters a reading holds, each counted each time it is reached (what is shared counts as often as it is met; a slice's spare places count too). A statement '..UptoSaid' is the law's where the arguments, and the package variables that the reading takes, are together of bulk at most 1048576: NARROWER than '..Said'. Prove '..Said' where nothing that the law and all that it calls make is longer than what came in: it says more and counts as full. Else prove '..UptoSaid'. A law counts once. -/
mutual
def uptoBulk {H : Type} : DataW H → Nat
  | .lit (.string bytes) => bytes.length + 1
  | .lit _ => 1
  | .nil => 1
  | .ptr d => uptoBulk d + 1
  | .slice elems spare => uptoBulkAll elems + uptoBulkAll spare + 1
  | .agg parts => uptoBulkAll parts + 1
  | .iface _ d => uptoBulk d + 1
  | .map entries => uptoBulkEntries entries + 1
  | .held _ => 1
def uptoBulkAll {H : Type} : List (DataW H) → Nat
  | [] => 0
  | d :: r => uptoBulk d + uptoBulkAll r
def uptoBulkEntries {H : Type} : List (Lit × DataW H) → Nat
  | [] => 0
  | x :: r => uptoBulkEntry x + uptoBulkEntries r
def uptoBulkEntry {H : Type} : Lit × DataW H → Nat
  | (.string bytes, d) => bytes.length + uptoBulk d + 1
  | (_, d) => uptoBulk d + 1
 end
def uptoSmall : (H : Type) → List (DataW H) → Bool := fun _ ds => decide (uptoBulkAll ds ≤ 1048576)
def OpenSpec.upto (s : _root_.Go.ChangeSpec) : _root_.Go.OpenSpec := { _root_.Go.OpenSpec.ofChange s with cond := some uptoSmall }

/-- 'namedesklaw6.OrderNeighbours', WHERE WHAT IT READS IS OF BULK AT MOST 1048576: true; the input reads as it did. -/
def orderNeighboursUptoRow : OpenClaim := { program := "ytneinkpfhkojgaadoor", sum := "c153da47305f31d45f4a5d33f3783bbb74d4a6b67615d017e1c8fdb947593c4e", func := "namedesk/namedesklaw6.OrderNeighbours", spec := "orderNeighbours", unfollowed := true, recurses := true, named := ["namedesk/table.blocks"], plainKeys := false, apart := false, laid := [("namedesk/table.blocks", laid_namedesk_table_blocks)], narrowed := true }
def OrderNeighboursUptoSaid : Prop := orderNeighboursUptoRow.holds Tryd.pinned (OpenSpec.upto orderNeighboursSpec)

/-- 'namedesklaw6.OrderConcatenation', WHERE WHAT IT READS IS OF BULK AT MOST 1048576: true; the input reads as it did. -/
def orderConcatenationUptoRow : OpenClaim := { program := "ytneinkpfhkojgaadoor", sum := "c153da47305f31d45f4a5d33f3783bbb74d4a6b67615d017e1c8fdb947593c4e", func := "namedesk/namedesklaw6.OrderConcatenation", spec := "orderConcatenation", unfollowed := true, recurses := true, named := ["namedesk/table.blocks"], plainKeys := false, apart := false, laid := [("namedesk/table.blocks", laid_namedesk_table_blocks)], narrowed := true }
def OrderConcatenationUptoSaid : Prop := orderConcatenationUptoRow.holds Tryd.pinned (OpenSpec.upto orderConcatenationSpec)

/-- 'namedesklaw6.OrderRuns', WHERE WHAT IT READS IS OF BULK AT MOST 1048576: true; the input reads as it did. -/
def orderRunsUptoRow : OpenClaim := { program := "ytneinkpfhkojgaadoor", sum := "c153da47305f31d45f4a5d33f3783bbb74d4a6b67615d017e1c8fdb947593c4e", func := "namedesk/namedesklaw6.OrderRuns", spec := "orderRuns", unfollowed := true, recurses := true, named := ["namedesk/table.blocks"], plainKeys := false, apart := false, laid := [("namedesk/table.blocks", laid_namedesk_table_blocks)], narrowed := true }
def OrderRunsUptoSaid : Prop := orderRunsUptoRow.holds Tryd.pinned (OpenSpec.upto orderRunsSpec)

/-- 'namedesklaw13.MappingConcatenation', WHERE WHAT IT READS IS OF BULK AT MOST 1048576: true; the input reads as it did. -/
def mappingConcatenationUptoRow : OpenClaim := { program := "ytneinkpfhkojgaadoor", sum := "c153da47305f31d45f4a5d33f3783bbb74d4a6b67615d017e1c8fdb947593c4e", func := "namedesk/namedesklaw13.MappingConcatenation", spec := "mappingConcatenation", unfollowed := true, recurses := true, named := ["namedesk/table.blocks"], plainKeys := false, apart := false, laid := [("namedesk/table.blocks", laid_namedesk_table_blocks)], narrowed := true }
def MappingConcatenationUptoSaid : Prop := mappingConcatenationUptoRow.holds Tryd.pinned (OpenSpec.upto mappingConcatenationSpec)

/-- 'namedesklaw13.MappingPermitted', WHERE WHAT IT READS IS OF BULK AT MOST 1048576: true; the input reads as it did. -/
def mappingPermittedUptoRow : OpenClaim := { program := "ytneinkpfhkojgaadoor", sum := "c153da47305f31d45f4a5d33f3783bbb74d4a6b67615d017e1c8fdb947593c4e", func := "namedesk/namedesklaw13.MappingPermitted", spec := "mappingPermitted", unfollowed := true, recurses := true, named := ["namedesk/table.blocks"], plainKeys := false, apart := false, laid := [("namedesk/table.blocks", laid_namedesk_table_blocks)], narrowed := true }
def MappingPermittedUptoSaid : Prop := mappingPermittedUptoRow.holds Tryd.pinned (OpenSpec.upto mappingPermittedSpec)

/-- 'namedesklaw13.MappingLetters', WHERE WHAT IT READS IS OF BULK AT MOST 1048576: true; the input reads as it did. -/
def mappingLettersUptoRow : OpenClaim := { program := "ytneinkpfhkojgaadoor", sum := "c153da47305f31d45f4a5d33f3783bbb74d4a6b67615d017e1c8fdb947593c4e", func := "namedesk/namedesklaw13.MappingLetters", spec := "mappingLetters", unfollowed := true, recurses := true, named := ["namedesk/table.blocks"], plainKeys := false, apart := false, laid := [("namedesk/table.blocks", laid_namedesk_table_blocks)], narrowed := true }
def MappingLettersUptoSaid : Prop := mappingLettersUptoRow.holds Tryd.pinned (OpenSpec.upto mappingLettersSpec)

/-- 'namedesklaw13.MappingFull', WHERE WHAT IT READS IS OF BULK AT MOST 1048576: true; the input reads as it did. -/
def mappingFullUptoRow : OpenClaim := { program := "ytneinkpfhkojgaadoor", sum := "c153da47305f31d45f4a5d33f3783bbb74d4a6b67615d017e1c8fdb947593c4e", func := "namedesk/namedesklaw13.MappingFull", spec := "mappingFull", unfollowed := true, recurses := true, named := ["namedesk/table.blocks"], plainKeys := false, apart := false, laid := [("namedesk/table.blocks", laid_namedesk_table_blocks)], narrowed := true }
def MappingFullUptoSaid : Prop := mappingFullUptoRow.holds Tryd.pinned (OpenSpec.upto mappingFullSpec)

/-- 'namedesklaw6.OrderMade', WHERE WHAT IT READS IS OF BULK AT MOST 1048576: true; the input reads as it did. -/
def orderMadeUptoRow : OpenClaim := { program := "ytneinkpfhkojgaadoor", sum := "c153da47305f31d45f4a5d33f3783bbb74d4a6b67615d017e1c8fdb947593c4e", func := "namedesk/namedesklaw6.OrderMade", spec := "orderMade", unfollowed := true, recurses := true, named := ["namedesk/table.blocks"], plainKeys := false, apart := false, laid := [("namedesk/table.blocks", laid_namedesk_table_blocks)], narrowed := true }
def OrderMadeUptoSaid : Prop := orderMadeUptoRow.holds Tryd.pinned (OpenSpec.upto orderMadeSpec)

/-- 'namedesklaw6.OrderErrors', WHERE WHAT IT READS IS OF BULK AT MOST 1048576: true; the input reads as it did. -/
def orderErrorsUptoRow : OpenClaim := { program := "ytneinkpfhkojgaadoor", sum := "c153da47305f31d45f4a5d33f3783bbb74d4a6b67615d017e1c8fdb947593c4e", func := "namedesk/namedesklaw6.OrderErrors", spec := "orderErrors", unfollowed := true, recurses := true, named := ["namedesk/table.blocks"], plainKeys := false, apart := false, laid := [("namedesk/table.blocks", laid_namedesk_table_blocks)], narrowed := true }
def OrderErrorsUptoSaid : Prop := orderErrorsUptoRow.holds Tryd.pinned (OpenSpec.upto orderErrorsSpec)

/-- 'namedesklaw6.OrderStable', WHERE WHAT IT READS IS OF BULK AT MOST 1048576: true; the input reads as it did. -/
def orderStableUptoRow : OpenClaim := { program := "ytneinkpfhkojgaadoor", sum := "c153da47305f31d45f4a5d33f3783bbb74d4a6b67615d017e1c8fdb947593c4e", func := "namedesk/namedesklaw6.OrderStable", spec := "orderStable", unfollowed := true, recurses := true, named := ["namedesk/table.blocks"], plainKeys := false, apart := false, laid := [("namedesk/table.blocks", laid_namedesk_table_blocks)], narrowed := true }
def OrderStableUptoSaid : Prop := orderStableUptoRow.holds Tryd.pinned (OpenSpec.upto orderStableSpec)

/-- 'namedesklaw13.MappingTwice', WHERE WHAT IT READS IS OF BULK AT MOST 1048576: true; the input reads as it did. -/
def mappingTwiceUptoRow : OpenClaim := { program := "ytneinkpfhkojgaadoor", sum := "c153da47305f31d45f4a5d33f3783bbb74d4a6b67615d017e1c8fdb947593c4e", func := "namedesk/namedesklaw13.MappingTwice", spec := "mappingTwice", unfollowed := true, recurses := true, named := ["namedesk/table.blocks"], plainKeys := false, apart := false, laid := [("namedesk/table.blocks", laid_namedesk_table_blocks)], narrowed := true }
def MappingTwiceUptoSaid : Prop := mappingTwiceUptoRow.holds Tryd.pinned (OpenSpec.upto mappingTwiceSpec)

end Rows
end Go.Proofs.YtneinkpfhkojgaaDoor
