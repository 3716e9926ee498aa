/-
  NARROWER THAN 'FOR EVERY INPUT', by the rows' own cells (each row's printed sentence says how): TableCheck: laid · TableOther: laid · TableMapped: laid · TableProperties: laid · TableFixed: laid · TableEncode: laid · TableBack: laid.
  DERIVED. THE GIVEN ROWS OF THIS SEAT. 7 by the template 'for every input the law returns true; each argument reads behind the call as it read before'; 0 by the template 'total and deterministic' (their statements: YtkdhldhbjomiaaaDoorTotals.lean).
  GIVEN WITH THE SEED: the statements are not yours to turn. If you find one false, say at which input.
  Laid BY PROGRAM, IN A SANDBOX (cutbox-rows.mjs): the forced cells as the released guide's own fill.sh prints them over the translation e39634fc37308eb5… (all of the seat's roots in one cut). By AI agents, Wed Nov 11 2026. No macro, syntax, notation, axiom, sorry.
-/
import Derived.Test.YtkdhldhbjomiaaaDoorChecked
import GoSem.Claim
import GoSem.ClaimJoined
import GoSem.ClaimMapViews
import Derived.JoinedTies
import Derived.KernelRfl
namespace Go.Proofs.YtkdhldhbjomiaaaDoor
/- THE CELL 'sum', in the pinned program and in every row, IS THE sha256 OF THE DUMP (.gsa) THAT YtkdhldhbjomiaaaDoorProg.lean LOADS. Nothing in Lean hashes anything: it is a label: what it is worth is what the hold of that sum in a sandbox is worth. -/
noncomputable def Tryd.pinned : Pinned := { name := "ytkdhldhbjomiaaadoor", sum := "e39634fc37308eb592a2c969aee581a9e4af9b6f5dab8957e527f6855e6deaef", checked := Tryd.checked }
namespace Rows
def none {H : Type} : Left H := { results := [], args := [] }

/- WHAT THE LISTED PACKAGE-LEVEL VARIABLES READ AS WHEN THE CALL BEGINS. Each datum BY PROGRAM (the guide's laid-datum.mjs) off the statement by which the dump's own 'gosem.cut.vars' lays the variable. In a bare row this is a premise. The card (YtkdhldhbjomiaaaDoorCards.lean) ties it to the program's text. -/
def laid_namedesk_table_blocks {H : Type} : DataW H := .slice [.agg [.lit (.int .i64 0), .lit (.int .i64 127), .lit (.int .i64 0)], .agg [.lit (.int .i64 4352), .lit (.int .i64 4370), .lit (.int .i64 0)], .agg [.lit (.int .i64 4449), .lit (.int .i64 4469), .lit (.int .i64 0)], .agg [.lit (.int .i64 4520), .lit (.int .i64 4546), .lit (.int .i64 0)], .agg [.lit (.int .i64 44032), .lit (.int .i64 55203), .lit (.int .i64 0)], .agg [.lit (.int .i64 55296), .lit (.int .i64 57343), .lit (.int .i64 0)]] []

/-- 'namedesklaw4.TableCheck': WHATEVER THE INPUT: true; the input reads as it did. -/
def tableCheckSpec : ChangeSpec := { name := "tableCheck", fn := fun _ => fun
  | [d] => { results := [.lit (.bool true)], args := [d] }
  | _ => none }
def tableCheckRow : OpenClaim := { program := "ytkdhldhbjomiaaadoor", sum := "e39634fc37308eb592a2c969aee581a9e4af9b6f5dab8957e527f6855e6deaef", func := "namedesk/namedesklaw4.TableCheck", spec := "tableCheck", unfollowed := true, recurses := true, named := ["namedesk/table.blocks"], plainKeys := false, apart := false, laid := [("namedesk/table.blocks", laid_namedesk_table_blocks)] }
def TableCheckSaid : Prop := tableCheckRow.holds Tryd.pinned (OpenSpec.ofChange tableCheckSpec)

/-- ITS FALSE NEIGHBOUR: 'it returns false'. Refute it at one input. -/
def tableCheckWrong : ChangeSpec := { name := "tableCheck", fn := fun _ => fun
  | [d] => { results := [.lit (.bool false)], args := [d] }
  | _ => none }
def TableCheckWrongFalsely : Prop := tableCheckRow.holds Tryd.pinned (OpenSpec.ofChange tableCheckWrong)

/-- 'namedesklaw4.TableOther': WHATEVER THE INPUT: true; the input reads as it did. -/
def tableOtherSpec : ChangeSpec := { name := "tableOther", fn := fun _ => fun
  | [d1, d2, d3, d4, d5, d6, d7] => { results := [.lit (.bool true)], args := [d1, d2, d3, d4, d5, d6, d7] }
  | _ => none }
def tableOtherRow : OpenClaim := { program := "ytkdhldhbjomiaaadoor", sum := "e39634fc37308eb592a2c969aee581a9e4af9b6f5dab8957e527f6855e6deaef", func := "namedesk/namedesklaw4.TableOther", spec := "tableOther", unfollowed := true, recurses := true, named := ["namedesk/table.blocks"], plainKeys := false, apart := false, laid := [("namedesk/table.blocks", laid_namedesk_table_blocks)] }
def TableOtherSaid : Prop := tableOtherRow.holds Tryd.pinned (OpenSpec.ofChange tableOtherSpec)

/-- ITS FALSE NEIGHBOUR: 'it returns false'. Refute it at one input. -/
def tableOtherWrong : ChangeSpec := { name := "tableOther", fn := fun _ => fun
  | [d1, d2, d3, d4, d5, d6, d7] => { results := [.lit (.bool false)], args := [d1, d2, d3, d4, d5, d6, d7] }
  | _ => none }
def TableOtherWrongFalsely : Prop := tableOtherRow.holds Tryd.pinned (OpenSpec.ofChange tableOtherWrong)

/-- 'namedesklaw4.TableMapped': WHATEVER THE INPUT: true; the input reads as it did. -/
def tableMappedSpec : ChangeSpec := { name := "tableMapped", fn := fun _ => fun
  | [d1, d2] => { results := [.lit (.bool true)], args := [d1, d2] }
  | _ => none }
def tableMappedRow : OpenClaim := { program := "ytkdhldhbjomiaaadoor", sum := "e39634fc37308eb592a2c969aee581a9e4af9b6f5dab8957e527f6855e6deaef", func := "namedesk/namedesklaw4.TableMapped", spec := "tableMapped", unfollowed := true, recurses := true, named := ["namedesk/table.blocks"], plainKeys := false, apart := false, laid := [("namedesk/table.blocks", laid_namedesk_table_blocks)] }
def TableMappedSaid : Prop := tableMappedRow.holds Tryd.pinned (OpenSpec.ofChange tableMappedSpec)

/-- ITS FALSE NEIGHBOUR: 'it returns false'. Refute it at one input. -/
def tableMappedWrong : ChangeSpec := { name := "tableMapped", fn := fun _ => fun
  | [d1, d2] => { results := [.lit (.bool false)], args := [d1, d2] }
  | _ => none }
def TableMappedWrongFalsely : Prop := tableMappedRow.holds Tryd.pinned (OpenSpec.ofChange tableMappedWrong)

/-- 'namedesklaw4.TableProperties': WHATEVER THE INPUT: true; the input reads as it did. -/
def tablePropertiesSpec : ChangeSpec := { name := "tableProperties", fn := fun _ => fun
  | [d1, d2, d3] => { results := [.lit (.bool true)], args := [d1, d2, d3] }
  | _ => none }
def tablePropertiesRow : OpenClaim := { program := "ytkdhldhbjomiaaadoor", sum := "e39634fc37308eb592a2c969aee581a9e4af9b6f5dab8957e527f6855e6deaef", func := "namedesk/namedesklaw4.TableProperties", spec := "tableProperties", unfollowed := true, recurses := true, named := ["namedesk/table.blocks"], plainKeys := false, apart := false, laid := [("namedesk/table.blocks", laid_namedesk_table_blocks)] }
def TablePropertiesSaid : Prop := tablePropertiesRow.holds Tryd.pinned (OpenSpec.ofChange tablePropertiesSpec)

/-- ITS FALSE NEIGHBOUR: 'it returns false'. Refute it at one input. -/
def tablePropertiesWrong : ChangeSpec := { name := "tableProperties", fn := fun _ => fun
  | [d1, d2, d3] => { results := [.lit (.bool false)], args := [d1, d2, d3] }
  | _ => none }
def TablePropertiesWrongFalsely : Prop := tablePropertiesRow.holds Tryd.pinned (OpenSpec.ofChange tablePropertiesWrong)

/-- 'namedesklaw4.TableFixed': WHATEVER THE INPUT: true; the input reads as it did. -/
def tableFixedSpec : ChangeSpec := { name := "tableFixed", fn := fun _ => fun
  | [d1, d2] => { results := [.lit (.bool true)], args := [d1, d2] }
  | _ => none }
def tableFixedRow : OpenClaim := { program := "ytkdhldhbjomiaaadoor", sum := "e39634fc37308eb592a2c969aee581a9e4af9b6f5dab8957e527f6855e6deaef", func := "namedesk/namedesklaw4.TableFixed", spec := "tableFixed", unfollowed := true, recurses := true, named := ["namedesk/table.blocks"], plainKeys := false, apart := false, laid := [("namedesk/table.blocks", laid_namedesk_table_blocks)] }
def TableFixedSaid : Prop := tableFixedRow.holds Tryd.pinned (OpenSpec.ofChange tableFixedSpec)

/-- ITS FALSE NEIGHBOUR: 'it returns false'. Refute it at one input. -/
def tableFixedWrong : ChangeSpec := { name := "tableFixed", fn := fun _ => fun
  | [d1, d2] => { results := [.lit (.bool false)], args := [d1, d2] }
  | _ => none }
def TableFixedWrongFalsely : Prop := tableFixedRow.holds Tryd.pinned (OpenSpec.ofChange tableFixedWrong)

/-- 'namedesklaw4.TableEncode': WHATEVER THE INPUT: true; the input reads as it did. -/
def tableEncodeSpec : ChangeSpec := { name := "tableEncode", fn := fun _ => fun
  | [d1, d2, d3, d4, d5] => { results := [.lit (.bool true)], args := [d1, d2, d3, d4, d5] }
  | _ => none }
def tableEncodeRow : OpenClaim := { program := "ytkdhldhbjomiaaadoor", sum := "e39634fc37308eb592a2c969aee581a9e4af9b6f5dab8957e527f6855e6deaef", func := "namedesk/namedesklaw4.TableEncode", spec := "tableEncode", unfollowed := true, recurses := true, named := ["namedesk/table.blocks"], plainKeys := false, apart := false, laid := [("namedesk/table.blocks", laid_namedesk_table_blocks)] }
def TableEncodeSaid : Prop := tableEncodeRow.holds Tryd.pinned (OpenSpec.ofChange tableEncodeSpec)

/-- ITS FALSE NEIGHBOUR: 'it returns false'. Refute it at one input. -/
def tableEncodeWrong : ChangeSpec := { name := "tableEncode", fn := fun _ => fun
  | [d1, d2, d3, d4, d5] => { results := [.lit (.bool false)], args := [d1, d2, d3, d4, d5] }
  | _ => none }
def TableEncodeWrongFalsely : Prop := tableEncodeRow.holds Tryd.pinned (OpenSpec.ofChange tableEncodeWrong)

/-- 'namedesklaw4.TableBack': WHATEVER THE INPUT: true; the input reads as it did. -/
def tableBackSpec : ChangeSpec := { name := "tableBack", fn := fun _ => fun
  | [d] => { results := [.lit (.bool true)], args := [d] }
  | _ => none }
def tableBackRow : OpenClaim := { program := "ytkdhldhbjomiaaadoor", sum := "e39634fc37308eb592a2c969aee581a9e4af9b6f5dab8957e527f6855e6deaef", func := "namedesk/namedesklaw4.TableBack", spec := "tableBack", unfollowed := true, recurses := true, named := ["namedesk/table.blocks"], plainKeys := false, apart := false, laid := [("namedesk/table.blocks", laid_namedesk_table_blocks)] }
def TableBackSaid : Prop := tableBackRow.holds Tryd.pinned (OpenSpec.ofChange tableBackSpec)

/-- ITS FALSE NEIGHBOUR: 'it returns false'. Refute it at one input. -/
def tableBackWrong : ChangeSpec := { name := "tableBack", fn := fun _ => fun
  | [d] => { results := [.lit (.bool false)], args := [d] }
  | _ => none }
def TableBackWrongFalsely : Prop := tableBackRow.holds Tryd.pinned (OpenSpec.ofChange tableBackWrong)

/- THE SECOND FORM. 'bulk': how many values and letters a reading holds, each counted each time it is reached (what is shared counts as often as it is met; a slice's spare places count too). A statement '..UptoSaid' is the law's where the arguments, and the package variables that the reading takes, are together of bulk at most 1048576: NARROWER than '..Said'. Prove '..Said' where nothing that the law and all that it calls make is longer than what came in: it says more and counts as full. Else prove '..UptoSaid'. A law counts once. -/
mutual
def uptoBulk {H : Type} : DataW H → Nat
  | .lit (.string bytes) => bytes.length + 1
  | .lit _ => 1
  | .nil => 1
  | .ptr d => uptoBulk d + 1
  | .slice elems spare => uptoBulkAll elems + uptoBulkAll spare + 1
  | .agg parts => uptoBulkAll parts + 1
  | .iface _ d => uptoBulk d + 1
  | .map entries => uptoBulkEntries entries + 1
  | .held _ => 1
def uptoBulkAll {H : Type} : List (DataW H) → Nat
  | [] => 0
  | d :: r => uptoBulk d + uptoBulkAll r
def uptoBulkEntries {H : Type} : List (Lit × DataW H) → Nat
  | [] => 0
  | x :: r => uptoBulkEntry x + uptoBulkEntries r
def uptoBulkEntry {H : Type} : Lit × DataW H → Nat
  | (.string bytes, d) => bytes.length + uptoBulk d + 1
  | (_, d) => uptoBulk d + 1
 end
def uptoSmall : (H : Type) → List (DataW H) → Bool := fun _ ds => decide (uptoBulkAll ds ≤ 1048576)
def OpenSpec.upto (s : _root_.Go.ChangeSpec) : _root_.Go.OpenSpec := { _root_.Go.OpenSpec.ofChange s with cond := some uptoSmall }

/-- 'namedesklaw4.TableCheck', WHERE WHAT IT READS IS OF BULK AT MOST 1048576: true; the input reads as it did. -/
def tableCheckUptoRow : OpenClaim := { program := "ytkdhldhbjomiaaadoor", sum := "e39634fc37308eb592a2c969aee581a9e4af9b6f5dab8957e527f6855e6deaef", func := "namedesk/namedesklaw4.TableCheck", spec := "tableCheck", unfollowed := true, recurses := true, named := ["namedesk/table.blocks"], plainKeys := false, apart := false, laid := [("namedesk/table.blocks", laid_namedesk_table_blocks)], narrowed := true }
def TableCheckUptoSaid : Prop := tableCheckUptoRow.holds Tryd.pinned (OpenSpec.upto tableCheckSpec)

/-- 'namedesklaw4.TableOther', WHERE WHAT IT READS IS OF BULK AT MOST 1048576: true; the input reads as it did. -/
def tableOtherUptoRow : OpenClaim := { program := "ytkdhldhbjomiaaadoor", sum := "e39634fc37308eb592a2c969aee581a9e4af9b6f5dab8957e527f6855e6deaef", func := "namedesk/namedesklaw4.TableOther", spec := "tableOther", unfollowed := true, recurses := true, named := ["namedesk/table.blocks"], plainKeys := false, apart := false, laid := [("namedesk/table.blocks", laid_namedesk_table_blocks)], narrowed := true }
def TableOtherUptoSaid : Prop := tableOtherUptoRow.holds Tryd.pinned (OpenSpec.upto tableOtherSpec)

/-- 'namedesklaw4.TableMapped', WHERE WHAT IT READS IS OF BULK AT MOST 1048576: true; the input reads as it did. -/
def tableMappedUptoRow : OpenClaim := { program := "ytkdhldhbjomiaaadoor", sum := "e39634fc37308eb592a2c969aee581a9e4af9b6f5dab8957e527f6855e6deaef", func := "namedesk/namedesklaw4.TableMapped", spec := "tableMapped", unfollowed := true, recurses := true, named := ["namedesk/table.blocks"], plainKeys := false, apart := false, laid := [("namedesk/table.blocks", laid_namedesk_table_blocks)], narrowed := true }
def TableMappedUptoSaid : Prop := tableMappedUptoRow.holds Tryd.pinned (OpenSpec.upto tableMappedSpec)

/-- 'namedesklaw4.TableProperties', WHERE WHAT IT READS IS OF BULK AT MOST 1048576: true; the input reads as it did. -/
def tablePropertiesUptoRow : OpenClaim := { program := "ytkdhldhbjomiaaadoor", sum := "e39634fc37308eb592a2c969aee581a9e4af9b6f5dab8957e527f6855e6deaef", func := "namedesk/namedesklaw4.TableProperties", spec := "tableProperties", unfollowed := true, recurses := true, named := ["namedesk/table.blocks"], plainKeys := false, apart := false, laid := [("namedesk/table.blocks", laid_namedesk_table_blocks)], narrowed := true }
def TablePropertiesUptoSaid : Prop := tablePropertiesUptoRow.holds Tryd.pinned (OpenSpec.upto tablePropertiesSpec)

/-- 'namedesklaw4.TableFixed', WHERE WHAT IT READS IS OF BULK AT MOST 1048576: true; the input reads as it did. -/
def tableFixedUptoRow : OpenClaim := { program := "ytkdhldhbjomiaaadoor", sum := "e39634fc37308eb592a2c969aee581a9e4af9b6f5dab8957e527f6855e6deaef", func := "namedesk/namedesklaw4.TableFixed", spec := "tableFixed", unfollowed := true, recurses := true, named := ["namedesk/table.blocks"], plainKeys := false, apart := false, laid := [("namedesk/table.blocks", laid_namedesk_table_blocks)], narrowed := true }
def TableFixedUptoSaid : Prop := tableFixedUptoRow.holds Tryd.pinned (OpenSpec.upto tableFixedSpec)

/-- 'namedesklaw4.TableEncode', WHERE WHAT IT READS IS OF BULK AT MOST 1048576: true; the input reads as it did. -/
def tableEncodeUptoRow : OpenClaim := { program := "ytkdhldhbjomiaaadoor", sum := "e39634fc37308eb592a2c969aee581a9e4af9b6f5dab8957e527f6855e6deaef", func := "namedesk/namedesklaw4.TableEncode", spec := "tableEncode", unfollowed := true, recurses := true, named := ["namedesk/table.blocks"], plainKeys := false, apart := false, laid := [("namedesk/table.blocks", laid_namedesk_table_blocks)], narrowed := true }
def TableEncodeUptoSaid : Prop := tableEncodeUptoRow.holds Tryd.pinned (OpenSpec.upto tableEncodeSpec)

/-- 'namedesklaw4.TableBack', WHERE WHAT IT READS IS OF BULK AT MOST 1048576: true; the input reads as it did. -/
def tableBackUptoRow : OpenClaim := { program := "ytkdhldhbjomiaaadoor", sum := "e39634fc37308eb592a2c969aee581a9e4af9b6f5dab8957e527f6855e6deaef", func := "namedesk/namedesklaw4.TableBack", spec := "tableBack", unfollowed := true, recurses := true, named := ["namedesk/table.blocks"], plainKeys := false, apart := false, laid := [("namedesk/table.blocks", laid_namedesk_table_blocks)], narrowed := true }
def TableBackUptoSaid : Prop := tableBackUptoRow.holds Tryd.pinned (OpenSpec.upto tableBackSpec)

end Rows
end Go.Proofs.YtkdhldhbjomiaaaDoor
