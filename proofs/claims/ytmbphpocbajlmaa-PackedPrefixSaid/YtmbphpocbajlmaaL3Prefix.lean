/-
  The walks of PackedPrefix.
-/
import Derived.Test.YtmbphpocbajlmaaL3Int
import Derived.Lib.Strings
namespace Go.Proofs.Ytmbphpocbajlmaa
open Go.RowKit ND
set_option maxRecDepth 100000 in
set_option maxHeartbeats 400000 in
theorem PackedPrefix_walk (W : World) (v : Int) (hv : -9223372036854775808 ≤ v ∧ v ≤ 9223372036854775807) (sh : Int) (_hsh : -9223372036854775808 ≤ sh ∧ sh ≤ 9223372036854775807) (cut : Int) (_hcut : -9223372036854775808 ≤ cut ∧ cut ≤ 9223372036854775807) :
    Calls Try.prog 5 #[.int .i64 v, .int .i64 sh, .int .i64 cut] W fun e W' => e = .returned (.bool true) ∧ Below W.heap.size W W' := by
  go_enter Try.func5, Try.ntmps5
  go_wp2_with fail
  refine (pick_any _ _ _ (by decide) (by decide)).mono ?_
  rintro e w' ⟨rfl, rfl⟩
  have hp := pick_in sh (n := 64) (by decide)
  go_wp2_with fail
  have hx := shr_in sh hv
  rw [show v / 2 ^ (pick sh 64).toNat = shr v sh from rfl]
  generalize shr v sh = x at *
  refine (putInt_any ⟨#[]⟩ x _ (by decide) hx.1 hx.2).mono ?_
  rintro e w1 ⟨rfl, b1⟩
  have hl := encU_len 9 (zz x)
  obtain ⟨s, hs⟩ : ∃ s : ByteArray, s = ⟨(putInt (⟨#[]⟩ : ByteArray).data.toList x).toArray⟩ := ⟨_, rfl⟩
  rw [← hs]
  have hsl : s.data.toList = encU 9 (zz x) := by rw [hs]; simp [putInt]
  have hsz : s.size = (encU 9 (zz x)).length := by
    show s.data.size = _
    rw [← Array.length_toList, hsl]
  have HS := Lib.hid hsl; clear hsl hs
  have hz0 : 1 ≤ s.size := by omega
  have hz2 : s.size ≤ 10 := by omega
  have HZ := Lib.hid hsz; clear hsz hl
  have hne : ((s.size : Int) == 0) = false := beq_eq_false_iff_ne.2 (by omega)
  go_wp2_with fail
  refine (pick_any cut s.size _ (by omega) (by omega)).mono ?_
  rintro e w' ⟨rfl, rfl⟩
  have hq := pick_in cut (n := s.size) (by omega)
  obtain ⟨k, hk⟩ := Int.eq_ofNat_of_zero_le hq.1
  rw [hk] at hq ⊢
  clear hk
  go_wp2_with fail
  have hr : tri (getInt (s.extract 0 k).data.toList 0) = .tuple #[.int .i64 0, .int .i64 0, .int .i64 5] := by
    have e : (s.extract 0 k).data.toList = (encU 9 (zz x)).take k := by rw [Lib.extract_data, HS.out]; simp
    have hz := zz_lt hx.1 hx.2
    rw [e]
    unfold getInt
    rw [if_neg (by omega)]
    have := getU_short 9 (zz x) 0 0 k rfl (by simpa using hz) (by have := HZ.out; omega)
    simp only [Int.toNat_zero, List.drop_zero]
    rw [this]
    rfl
  refine (getInt_any (s.extract 0 k) _ _ (by unfold maxLen; simp; omega)).mono ?_
  rintro e w2 ⟨rfl, rfl⟩
  rw [hr]
  clear hr
  go_wp2_with fail
  refine (awake3 _).mono ?_
  rintro e w3 ⟨rfl, b3⟩
  go_wp2_with fail
  go_ret
  exact ⟨by simp, below_next b1 b3⟩
end Go.Proofs.Ytmbphpocbajlmaa
