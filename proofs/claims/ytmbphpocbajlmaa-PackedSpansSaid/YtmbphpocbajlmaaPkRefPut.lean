/-
  The walk through the document's PutInt.
-/
import Derived.Test.YtmbphpocbajlmaaPkPut
import Derived.Test.YtmbphpocbajlmaaBase
namespace Go.Proofs.Ytmbphpocbajlmaa
open Go.RowKit ND

theorem zz_pos {v : Int} (h : 0 ≤ v) : v * 2 = (zz v : Int) := by
  unfold zz; rw [if_pos h]; omega
theorem zz_neg {v : Int} (h : v < 0) (h0 : -9223372036854775808 ≤ v) : bits .xor .u64 IntKind.u64.max (IntKind.u64.wrap (IntKind.u64.wrap v * 2)) = (zz v : Int) := by
  have hz := zz_lt h0 (by omega)
  rw [IntKind.wrap_u64, IntKind.wrap_u64]
  have e2 : v % 18446744073709551616 * 2 % 18446744073709551616 = ((18446744073709551615 - zz v : Nat) : Int) := by unfold zz; rw [if_neg (by omega)]; omega
  have e3 : IntKind.u64.max = ((18446744073709551615 : Nat) : Int) := by decide +kernel
  rw [e2, e3, u64_xor_nat _ _ (by omega) (by omega)]
  have hx : ∀ (a : Nat), a < 18446744073709551616 → 18446744073709551615 ^^^ a = 18446744073709551615 - a := by
    intro a ha
    have hb : (BitVec.allOnes 64 ^^^ BitVec.ofNat 64 a).toNat = 18446744073709551615 ^^^ a := by
      rw [BitVec.toNat_xor, BitVec.toNat_ofNat, Nat.mod_eq_of_lt (by omega)]
      have : (BitVec.allOnes 64).toNat = 18446744073709551615 := by decide +kernel
      rw [this]
    rw [← hb, BitVec.allOnes_xor, BitVec.toNat_not, BitVec.toNat_ofNat, Nat.mod_eq_of_lt (by omega)]
  rw [hx _ (by omega)]
  omega

theorem put_last {acc : ByteArray} {x : UInt8} {R : List UInt8} (h : acc.data.toList ++ [x] = R) : acc ++ (⟨#[x]⟩ : ByteArray) = ⟨R.toArray⟩ := by
  rw [← h]
  apply ByteArray.ext
  apply Array.ext'
  simp [ByteArray.data_append]
theorem size_more {acc : ByteArray} {x : UInt8} {m : Nat} (g : Nat) (h : acc.size + (g + 1) ≤ m) : acc.size + (⟨#[x]⟩ : ByteArray).size + g ≤ m := by
  have : (⟨#[x]⟩ : ByteArray).size = 1 := rfl
  omega
theorem shift7 {n g : Nat} (hf : g + 1 ≤ 9) (hB : n * 2 ^ (7 * (9 - (g + 1))) < 18446744073709551616) : n / 128 * 2 ^ (7 * (9 - g)) < 18446744073709551616 := by
  have e : 7 * (9 - g) = 7 * (9 - (g + 1) + 1) := by omega
  rw [e, pow7]
  have : n / 128 * (128 * 2 ^ (7 * (9 - (g + 1)))) = n / 128 * 128 * 2 ^ (7 * (9 - (g + 1))) := (Nat.mul_assoc _ _ _).symm
  rw [this]
  exact Nat.lt_of_le_of_lt (Nat.mul_le_mul_right _ (by omega)) hB

set_option maxRecDepth 100000 in
set_option maxHeartbeats 1000000 in
theorem refPutInt_any (b : ByteArray) (v : Int) (w : World) (hs : b.size ≤ 140737488355318) (h0 : -9223372036854775808 ≤ v) (h1 : v ≤ 9223372036854775807) :
    Calls Try.prog 32 #[.string b, .int .i64 v] w fun e w' => e = .returned (.string ⟨(putInt b.data.toList v).toArray⟩) ∧ Below w.heap.size w w' := by
  have hzl := zz_lt h0 h1
  obtain ⟨R, hR⟩ : ∃ R, putInt b.data.toList v = R := ⟨_, rfl⟩
  rw [hR]
  have HR : Hid (b.data.toList ++ encU 9 (zz v) = R) := hR
  clear hR
  have hcase : v < 0 ∨ 0 ≤ v := by omega
  rcases hcase with hv | hv
  · have HZ := Lib.hid (zz_neg hv h0)
    go_enter Try.func32, Try.ntmps32
    go_wp2_with fail
    rw [HZ.out]
    clear HZ
    go_loopw [0, 5] (fun out u wr => ∃ (f n : Nat) (acc : ByteArray), u = .int .u64 n ∧ out = .string acc ∧ n < 18446744073709551616 ∧ f ≤ 9 ∧ Hid (n * 2 ^ (7 * (9 - f)) < 18446744073709551616) ∧
        Hid (acc.data.toList ++ encU f n = R) ∧ acc.size + f ≤ b.size + 9 ∧ Below w.heap.size w wr) (fun _ u _ => (intOf u).toNat)
    case atStart => exact ⟨9, zz v, b, rfl, rfl, hzl, by omega, Lib.hid (by simpa using hzl), HR, by omega, Below.refl _ _⟩
    case round =>
      obtain ⟨f, n, acc, rfl, rfl, hn, hf, HB, HU, hlen, hbel⟩ := hrel
      by_cases hge : 128 ≤ n
      · have hf0 : f ≠ 0 := by
          intro h; subst h
          have := HB.out; omega
        have hcv := conv_one (P := Try.prog) wr 30 9 5 ((n : Int) % 128 + 128) Try.underlying30 Try.underlying5 Try.underlying9 (by omega) (by omega)
        rw [show ((n : Int) % 128 + 128).toNat = n % 128 + 128 by omega] at hcv
        go_wp2_with fail
        go_roundw
        case rel =>
          obtain ⟨g, rfl⟩ : ∃ g, f = g + 1 := ⟨f - 1, by omega⟩
          refine ⟨g, n / 128, _, by go_num, rfl, by omega, by omega, Lib.hid ?_, Lib.hid ?_, ?_, hbel.alloc hbel.size _⟩
          · exact shift7 hf HB.out
          · have h := HU.out
            rw [encU_succ, if_neg (by omega)] at h
            rw [← h]; simp [ByteArray.data_append]
          · rw [ByteArray.size_append]
            exact size_more g hlen
        case measure => simp [intOf]; omega
      · have hcv := conv_one (P := Try.prog) wr 30 9 5 (n : Int) Try.underlying30 Try.underlying5 Try.underlying9 (by omega) (by omega)
        rw [show (n : Int).toNat = n by omega] at hcv
        have HX : Hid (acc ++ (⟨#[UInt8.ofNat n]⟩ : ByteArray) = ⟨R.toArray⟩) := by
          refine Lib.hid (put_last ?_)
          have h := HU.out
          cases f with
          | zero => exact h
          | succ f => rw [encU_succ, if_pos (by omega)] at h; exact h
        go_wp2_with fail
        go_ret
        rw [HX.out]
        exact ⟨rfl, hbel.alloc hbel.size _⟩
  · have HZ := Lib.hid (zz_pos hv)
    go_enter Try.func32, Try.ntmps32
    go_wp2_with fail
    rw [HZ.out]
    clear HZ
    go_loopw [0, 5] (fun out u wr => ∃ (f n : Nat) (acc : ByteArray), u = .int .u64 n ∧ out = .string acc ∧ n < 18446744073709551616 ∧ f ≤ 9 ∧ Hid (n * 2 ^ (7 * (9 - f)) < 18446744073709551616) ∧
        Hid (acc.data.toList ++ encU f n = R) ∧ acc.size + f ≤ b.size + 9 ∧ Below w.heap.size w wr) (fun _ u _ => (intOf u).toNat)
    case atStart => exact ⟨9, zz v, b, rfl, rfl, hzl, by omega, Lib.hid (by simpa using hzl), HR, by omega, Below.refl _ _⟩
    case round =>
      obtain ⟨f, n, acc, rfl, rfl, hn, hf, HB, HU, hlen, hbel⟩ := hrel
      by_cases hge : 128 ≤ n
      · have hf0 : f ≠ 0 := by
          intro h; subst h
          have := HB.out; omega
        have hcv := conv_one (P := Try.prog) wr 30 9 5 ((n : Int) % 128 + 128) Try.underlying30 Try.underlying5 Try.underlying9 (by omega) (by omega)
        rw [show ((n : Int) % 128 + 128).toNat = n % 128 + 128 by omega] at hcv
        go_wp2_with fail
        go_roundw
        case rel =>
          obtain ⟨g, rfl⟩ : ∃ g, f = g + 1 := ⟨f - 1, by omega⟩
          refine ⟨g, n / 128, _, by go_num, rfl, by omega, by omega, Lib.hid ?_, Lib.hid ?_, ?_, hbel.alloc hbel.size _⟩
          · exact shift7 hf HB.out
          · have h := HU.out
            rw [encU_succ, if_neg (by omega)] at h
            rw [← h]; simp [ByteArray.data_append]
          · rw [ByteArray.size_append]
            exact size_more g hlen
        case measure => simp [intOf]; omega
      · have hcv := conv_one (P := Try.prog) wr 30 9 5 (n : Int) Try.underlying30 Try.underlying5 Try.underlying9 (by omega) (by omega)
        rw [show (n : Int).toNat = n by omega] at hcv
        have HX : Hid (acc ++ (⟨#[UInt8.ofNat n]⟩ : ByteArray) = ⟨R.toArray⟩) := by
          refine Lib.hid (put_last ?_)
          have h := HU.out
          cases f with
          | zero => exact h
          | succ f => rw [encU_succ, if_pos (by omega)] at h; exact h
        go_wp2_with fail
        go_ret
        rw [HX.out]
        exact ⟨rfl, hbel.alloc hbel.size _⟩
end Go.Proofs.Ytmbphpocbajlmaa
