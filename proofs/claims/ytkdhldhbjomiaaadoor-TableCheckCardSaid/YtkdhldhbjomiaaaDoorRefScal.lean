/-
  The walk through the reference's Scalar.
-/
import Derived.Test.YtkdhldhbjomiaaaDoorScal
namespace Go.Proofs.YtkdhldhbjomiaaaDoor
open Go.RowKit ND

set_option maxHeartbeats 400000 in
theorem refScalar_any (c : Int) (w : World) : Calls Tryd.prog 116 #[.int .i64 c] w fun e w' => e = .returned (.bool (scalarB c)) ∧ w = w' := by
  go_enter Tryd.func116, Tryd.ntmps116
  go_wp2
  all_goals go_ret
  all_goals refine ⟨ret_bool (bool_eq ?_), rfl⟩
  all_goals rw [scalarB_iff]
  all_goals simp
  all_goals omega
end Go.Proofs.YtkdhldhbjomiaaaDoor
