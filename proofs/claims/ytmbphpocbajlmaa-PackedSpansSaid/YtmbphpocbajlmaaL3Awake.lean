/-
  The example of chapter 3, and keep.Pick.
-/
import Derived.Test.YtmbphpocbajlmaaPkGet
import Derived.Test.YtmbphpocbajlmaaPkSum
import Derived.Test.YtmbphpocbajlmaaBase
namespace Go.Proofs.Ytmbphpocbajlmaa
open Go.RowKit ND

/-- keep.Pick: from 0 to n - 1. -/
def pick (v n : Int) : Int := v % 18446744073709551616 % n
theorem pick_in (v : Int) {n : Int} (h : 0 < n) : 0 ≤ pick v n ∧ pick v n < n := ⟨Int.emod_nonneg _ (by omega), Int.emod_lt_of_pos _ h⟩

theorem pick_eq {v n : Int} (h0 : 0 < n) (h1 : n < 9223372036854775808) : wrap64 ((IntKind.u64.wrap v).tmod n) = pick v n := by
  have hp := pick_in v h0
  have e : (IntKind.u64.wrap v).tmod n = pick v n := by
    rw [IntKind.wrap_u64, Int.tmod_eq_emod_of_nonneg (by omega)]; rfl
  rw [e, IntWalk.wrap64_in _ ⟨by omega, by omega⟩]

set_option maxHeartbeats 400000 in
theorem pick_any (a b : Int) (w : World) (h0 : 0 < b) (h1 : b < 9223372036854775808) :
    Calls Try.prog 17 #[.int .i64 a, .int .i64 b] w fun e w' => e = .returned (.int .i64 (pick a b)) ∧ w = w' := by
  have HP := Lib.hid (pick_eq (v := a) h0 h1)
  go_enter Try.func17, Try.ntmps17
  go_wp2
  go_ret
  refine ⟨?_, rfl⟩
  show Ending.returned (.int .i64 (wrap64 ((IntKind.u64.wrap a).tmod b))) = _
  rw [HP.out]

theorem get_c1 (w : World) : Calls Try.prog 19 #[.string ⟨#[128, 0]⟩, .int .i64 0] w fun e w' => e = .returned (.tuple #[.int .i64 0, .int .i64 0, .int .i64 4]) ∧ w = w' := by
  have h := getInt_any ⟨#[128, 0]⟩ 0 w (by decide)
  have e : getInt (⟨#[128, 0]⟩ : ByteArray).data.toList 0 = (0, 0, 4) := by decide +kernel
  rw [e] at h
  exact h
theorem get_c2 (w : World) : Calls Try.prog 19 #[.string ⟨#[128]⟩, .int .i64 0] w fun e w' => e = .returned (.tuple #[.int .i64 0, .int .i64 0, .int .i64 5]) ∧ w = w' := by
  have h := getInt_any ⟨#[128]⟩ 0 w (by decide)
  have e : getInt (⟨#[128]⟩ : ByteArray).data.toList 0 = (0, 0, 5) := by decide +kernel
  rw [e] at h
  exact h
theorem put_c1 (w : World) : Calls Try.prog 18 #[.string ⟨#[]⟩, .int .i64 0] w fun e w' => e = .returned (.string ⟨#[0]⟩) ∧ Below w.heap.size w w' := by
  have h := putInt_any ⟨#[]⟩ 0 w (by decide) (by decide) (by decide)
  have e : (putInt (⟨#[]⟩ : ByteArray).data.toList 0) = [0] := by decide +kernel
  rw [e] at h
  exact h
theorem put_c2 (w : World) : Calls Try.prog 18 #[.string ⟨#[]⟩, .int .i64 (-1)] w fun e w' => e = .returned (.string ⟨#[1]⟩) ∧ Below w.heap.size w w' := by
  have h := putInt_any ⟨#[]⟩ (-1) w (by decide) (by decide) (by decide)
  have e : (putInt (⟨#[]⟩ : ByteArray).data.toList (-1)) = [1] := by decide +kernel
  rw [e] at h
  exact h
theorem put_c3 (w : World) : Calls Try.prog 18 #[.string ⟨#[]⟩, .int .i64 64] w fun e w' => e = .returned (.string ⟨#[128, 1]⟩) ∧ Below w.heap.size w w' := by
  have h := putInt_any ⟨#[]⟩ 64 w (by decide) (by decide) (by decide)
  have e : (putInt (⟨#[]⟩ : ByteArray).data.toList 64) = [128, 1] := by decide +kernel
  rw [e] at h
  exact h
theorem sum_c1 (w : World) : Calls Try.prog 21 #[.string ⟨#[]⟩] w fun e w' => e = .returned (.int .i64 2166136261) ∧ Below w.heap.size w w' :=
  sum_any ⟨#[]⟩ w (by decide)

set_option maxRecDepth 100000 in
set_option maxHeartbeats 400000 in
theorem awake3 (w : World) : Calls Try.prog 20 #[] w fun e w' => e = .returned (.bool true) ∧ Below w.heap.size w w' := by
  go_enter Try.func20, Try.ntmps20
  go_wp2_with fail
  refine (get_c1 _).mono ?_
  rintro e w' ⟨rfl, rfl⟩
  go_wp2_with fail
  refine (get_c2 _).mono ?_
  rintro e w' ⟨rfl, rfl⟩
  go_wp2_with fail
  refine (put_c1 _).mono ?_
  rintro e w1 ⟨rfl, b1⟩
  go_wp2_with fail
  refine (put_c2 _).mono ?_
  rintro e w2 ⟨rfl, b2⟩
  go_wp2_with fail
  refine (put_c3 _).mono ?_
  rintro e w3 ⟨rfl, b3⟩
  go_wp2_with fail
  refine (sum_c1 _).mono ?_
  rintro e w4 ⟨rfl, b4⟩
  go_wp2_with fail
  go_ret
  exact ⟨rfl, ((b1.trans (b2.mono b1.size)).trans (b3.mono (Nat.le_trans b1.size b2.size))).trans (b4.mono (Nat.le_trans b1.size (Nat.le_trans b2.size b3.size)))⟩
end Go.Proofs.Ytmbphpocbajlmaa
