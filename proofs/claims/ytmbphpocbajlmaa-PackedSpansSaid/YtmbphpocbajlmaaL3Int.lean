/-
  The walks of PackedInt and its like.
-/
import Derived.Test.YtmbphpocbajlmaaL3Awake
namespace Go.Proofs.Ytmbphpocbajlmaa
open Go.RowKit ND
/-- What the laws make of a number and a shift. -/
def shr (v sh : Int) : Int := v / 2 ^ (pick sh 64).toNat
theorem shr_in {v : Int} (sh : Int) (hv : -9223372036854775808 ≤ v ∧ v ≤ 9223372036854775807) : -9223372036854775808 ≤ shr v sh ∧ shr v sh ≤ 9223372036854775807 := by
  unfold shr
  have hp : (0 : Int) < 2 ^ (pick sh 64).toNat := Int.pow_pos (by decide)
  by_cases h : 0 ≤ v
  · have h1 := Int.ediv_nonneg h (Int.le_of_lt hp)
    have h2 := Int.ediv_le_self (2 ^ (pick sh 64).toNat) h
    constructor <;> omega
  · have h1 : v / 2 ^ (pick sh 64).toNat < 0 := Int.ediv_neg_of_neg_of_pos (by omega) hp
    have h2 : v ≤ v / 2 ^ (pick sh 64).toNat := by
      rw [Int.le_ediv_iff_mul_le hp]
      have h3 := Int.mul_le_mul_of_nonneg_left (c := -v) (show (1 : Int) ≤ 2 ^ (pick sh 64).toNat by omega) (by omega)
      simp only [Int.neg_mul, Int.mul_one] at h3
      omega
    omega

set_option maxRecDepth 100000 in
set_option maxHeartbeats 400000 in
theorem PackedInt_walk (W : World) (b : ByteArray) (hb : b.size ≤ 140737488351232) (t : ByteArray) (ht : t.size ≤ 140737488351232) (v : Int) (hv : -9223372036854775808 ≤ v ∧ v ≤ 9223372036854775807) (sh : Int) (_hsh : -9223372036854775808 ≤ sh ∧ sh ≤ 9223372036854775807) :
    Calls Try.prog 3 #[.string b, .string t, .int .i64 v, .int .i64 sh] W fun e W' => e = .returned (.bool true) ∧ Below W.heap.size W W' := by
  go_enter Try.func3, Try.ntmps3
  go_wp2_with fail
  refine (pick_any _ _ _ (by decide) (by decide)).mono ?_
  rintro e w' ⟨rfl, rfl⟩
  have hp := pick_in sh (n := 64) (by decide)
  go_wp2_with fail
  have hx := shr_in sh hv
  rw [show v / 2 ^ (pick sh 64).toNat = shr v sh from rfl]
  generalize shr v sh = x at *
  refine (putInt_any b x _ (by omega) hx.1 hx.2).mono ?_
  rintro e w1 ⟨rfl, b1⟩
  have hl := encU_len 9 (zz x)
  have hr := getInt_putInt b.data.toList t.data.toList x hx.1 hx.2
  obtain ⟨s, hs⟩ : ∃ s : ByteArray, s = ⟨(putInt b.data.toList x).toArray⟩ := ⟨_, rfl⟩
  rw [← hs]
  have hsl : s.data.toList = putInt b.data.toList x := by rw [hs]
  have hsz : s.size = b.size + (encU 9 (zz x)).length := by
    show s.data.size = b.data.size + _
    rw [← Array.length_toList, hsl, putInt, List.length_append, Array.length_toList]
  rw [← hsl] at hr
  have HR := Lib.hid hr; clear hr
  have hz1 : b.size < s.size := by omega
  have hz2 : s.size ≤ b.size + 10 := by omega
  clear hs hsl hsz hl
  have hadd := fun w => run_string_add_sum (P := Try.prog) w s t (by omega)
  go_wp2_with fail
  clear hadd
  have hap : (s ++ t).data.toList = s.data.toList ++ t.data.toList := by simp
  refine (getInt_any (s ++ t) _ _ (by unfold maxLen; simp; omega)).mono ?_
  rintro e w2 ⟨rfl, rfl⟩
  have hR : tri (getInt (s ++ t).data.toList b.size) = .tuple #[.int .i64 x, .int .i64 s.size, .int .i64 0] := by
    have h := HR.out
    rw [Array.length_toList, Array.length_toList] at h
    rw [hap, show ((b.size : Nat) : Int) = ((b.data.size : Nat) : Int) from rfl, h]
    rfl
  rw [hR]
  clear hR hap HR
  go_wp2_with fail
  refine (awake3 _).mono ?_
  rintro e w3 ⟨rfl, b3⟩
  go_wp2_with fail
  go_ret
  exact ⟨by simp, below_next b1 b3⟩
end Go.Proofs.Ytmbphpocbajlmaa
