/-
  The walks through the small functions of utf and of its reference.
-/
import Derived.Test.YtmbphpocbajlmaaUtfPlain
import Derived.Test.YtmbphpocbajlmaaQuiet
import Derived.Test.YtmbphpocbajlmaaProg
namespace Go.Proofs.Ytmbphpocbajlmaa
open Go.RowKit ND

theorem ret_bool {a b : Bool} (h : a = b) : Ending.returned (.bool a) = .returned (.bool b) := by rw [h]
theorem ret_int {k : IntKind} {a b : Int} (h : a = b) : Ending.returned (.int k a) = .returned (.int k b) := by rw [h]
theorem ret_int2 {k l : IntKind} {a b c d : Int} (h : a = b) (h' : c = d) : Ending.returned (.tuple #[.int k a, .int l c]) = .returned (.tuple #[.int k b, .int l d]) := by rw [h, h']
theorem bool_eq {a b : Bool} (h : a = true ↔ b = true) : a = b := Bool.eq_iff_iff.2 h

set_option maxHeartbeats 400000 in
theorem scalar_any (c : Int) (w : World) : Calls Try.prog 55 #[.int .i64 c] w fun e w' => e = .returned (.bool (scalarB c)) ∧ w = w' := by
  go_enter Try.func55, Try.ntmps55
  go_wp2
  all_goals go_ret
  all_goals refine ⟨ret_bool (bool_eq ?_), rfl⟩
  all_goals rw [scalarB_iff]
  all_goals simp
  all_goals omega
set_option maxHeartbeats 400000 in
theorem refScalar_any (c : Int) (w : World) : Calls Try.prog 37 #[.int .i64 c] w fun e w' => e = .returned (.bool (scalarB c)) ∧ w = w' := by
  go_enter Try.func37, Try.ntmps37
  go_wp2
  all_goals go_ret
  all_goals refine ⟨ret_bool (bool_eq ?_), rfl⟩
  all_goals rw [scalarB_iff]
  all_goals simp
  all_goals omega
theorem lenC_no {c : Int} (h : scalarB c = false) : lenC c = 0 := by unfold lenC; rw [h]; rfl
theorem lenC_yes {c : Int} (h : scalarB c = true) : lenC c = if c ≤ 127 then 1 else if c ≤ 2047 then 2 else if c ≤ 65535 then 3 else 4 := by unfold lenC; rw [if_pos h]
set_option maxHeartbeats 400000 in
theorem length_any (c : Int) (w : World) : Calls Try.prog 35 #[.int .i64 c] w fun e w' => e = .returned (.int .i64 (lenC c : Int)) ∧ w = w' := by
  cases h : scalarB c
  · have hc := Lib.hid (fun w => scalar_any c w)
    rw [h] at hc
    rw [lenC_no h]
    clear h
    go_enter Try.func35, Try.ntmps35
    go_wp2_with (go_at_call 55; refine (hc.out _).mono ?_; rintro e w' ⟨rfl, rfl⟩)
    go_ret
    exact ⟨rfl, rfl⟩
  · have hc := Lib.hid (fun w => scalar_any c w)
    rw [h] at hc
    rw [lenC_yes h]
    clear h
    go_enter Try.func35, Try.ntmps35
    go_wp2_with (go_at_call 55; refine (hc.out _).mono ?_; rintro e w' ⟨rfl, rfl⟩)
    all_goals go_ret
    all_goals refine ⟨ret_int ?_, rfl⟩
    all_goals (repeat (first | rfl | rw [if_pos (by omega)] | rw [if_neg (by omega)]))
set_option maxHeartbeats 400000 in
theorem refLength_any (c : Int) (w : World) : Calls Try.prog 36 #[.int .i64 c] w fun e w' => e = .returned (.int .i64 (lenC c : Int)) ∧ w = w' := by
  cases h : scalarB c
  · have hc := Lib.hid (fun w => refScalar_any c w)
    rw [h] at hc
    rw [lenC_no h]
    clear h
    go_enter Try.func36, Try.ntmps36
    go_wp2_with (go_at_call 37; refine (hc.out _).mono ?_; rintro e w' ⟨rfl, rfl⟩)
    go_ret
    exact ⟨rfl, rfl⟩
  · have hc := Lib.hid (fun w => refScalar_any c w)
    rw [h] at hc
    rw [lenC_yes h]
    clear h
    go_enter Try.func36, Try.ntmps36
    go_wp2_with (go_at_call 37; refine (hc.out _).mono ?_; rintro e w' ⟨rfl, rfl⟩)
    all_goals go_ret
    all_goals refine ⟨ret_int ?_, rfl⟩
    all_goals (repeat (first | rfl | rw [if_pos (by omega)] | rw [if_neg (by omega)]))
set_option maxHeartbeats 400000 in
theorem head_any (b : Nat) (hb : b < 256) (w : World) : Calls Try.prog 66 #[.int .u8 b] w fun e w' => e = .returned (.tuple #[.int .i64 (headN b).1, .int .i64 (headN b).2]) ∧ w = w' := by
  go_enter Try.func66, Try.ntmps66
  go_wp2
  all_goals go_ret2
  all_goals unfold headN
  all_goals refine ⟨ret_int2 ?_ ?_, rfl⟩
  all_goals (repeat (first | rfl | (show (_ : Int) = _; omega) | rw [if_pos (by omega)] | rw [if_neg (by omega)]))
end Go.Proofs.Ytmbphpocbajlmaa
