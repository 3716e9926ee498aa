/-
  The walks through utf.scalar and utf.Length.
-/
import Derived.Test.YtkdhldhbjomiaaaDoorUtfPlain
import Derived.Test.YtkdhldhbjomiaaaDoorQuiet
import Derived.Test.YtkdhldhbjomiaaaDoorMore
namespace Go.Proofs.YtkdhldhbjomiaaaDoor
open Go.RowKit ND

set_option maxHeartbeats 400000 in
theorem scalar_any (c : Int) (w : World) : Calls Tryd.prog 132 #[.int .i64 c] w fun e w' => e = .returned (.bool (scalarB c)) ∧ w = w' := by
  go_enter Tryd.func132, Tryd.ntmps132
  go_wp2
  all_goals go_ret
  all_goals refine ⟨ret_bool (bool_eq ?_), rfl⟩
  all_goals rw [scalarB_iff]
  all_goals simp
  all_goals omega
theorem lenC_no {c : Int} (h : scalarB c = false) : lenC c = 0 := by unfold lenC; rw [h]; rfl
theorem lenC_yes {c : Int} (h : scalarB c = true) : lenC c = if c ≤ 127 then 1 else if c ≤ 2047 then 2 else if c ≤ 65535 then 3 else 4 := by unfold lenC; rw [if_pos h]
set_option maxHeartbeats 400000 in
theorem length_any (c : Int) (w : World) : Calls Tryd.prog 106 #[.int .i64 c] w fun e w' => e = .returned (.int .i64 (lenC c : Int)) ∧ w = w' := by
  cases h : scalarB c
  · have hc := Lib.hid (fun w => scalar_any c w)
    rw [h] at hc
    rw [lenC_no h]
    clear h
    go_enter Tryd.func106, Tryd.ntmps106
    go_wp2_with (go_at_call 132; refine (hc.out _).mono ?_; rintro e w' ⟨rfl, rfl⟩)
    go_ret
    exact ⟨rfl, rfl⟩
  · have hc := Lib.hid (fun w => scalar_any c w)
    rw [h] at hc
    rw [lenC_yes h]
    clear h
    go_enter Tryd.func106, Tryd.ntmps106
    go_wp2_with (go_at_call 132; refine (hc.out _).mono ?_; rintro e w' ⟨rfl, rfl⟩)
    all_goals go_ret
    all_goals refine ⟨ret_int ?_, rfl⟩
    all_goals (repeat (first | rfl | rw [if_pos (by omega)] | rw [if_neg (by omega)]))
end Go.Proofs.YtkdhldhbjomiaaaDoor
