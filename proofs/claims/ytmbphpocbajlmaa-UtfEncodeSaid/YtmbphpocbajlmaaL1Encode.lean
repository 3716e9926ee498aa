/-
  The walk of UtfEncode.
-/
import Derived.Test.YtmbphpocbajlmaaL1Awake
import Derived.Test.YtmbphpocbajlmaaL3Int
namespace Go.Proofs.Ytmbphpocbajlmaa
open Go.RowKit ND

set_option maxRecDepth 100000 in
set_option maxHeartbeats 1000000 in
theorem UtfEncode_walk (W : World) (v : Value) (xs : List Int) (hv : Ints W W.heap.size .i64 v xs) (_hx : ∀ x ∈ xs, -9223372036854775808 ≤ x ∧ x ≤ 9223372036854775807) (_hl : xs.length * 8 ≤ 140737488351232)
    (c : Int) (hc : -9223372036854775808 ≤ c ∧ c ≤ 9223372036854775807) (sh : Int) (_hsh : -9223372036854775808 ≤ sh ∧ sh ≤ 9223372036854775807) :
    Calls Try.prog 10 #[v, .int .i64 c, .int .i64 sh] W fun e W' => e = .returned (.bool true) ∧ Below W.heap.size W W' := by
  have HV := Lib.hid hv; clear hv
  go_enter Try.func10, Try.ntmps10
  go_wp2_with fail
  refine (pick_any _ _ _ (by decide) (by decide)).mono ?_
  rintro e w' ⟨rfl, rfl⟩
  have hp := pick_in sh (n := 64) (by decide)
  go_wp2_with fail
  have hx := shr_in sh hc
  rw [show c / 2 ^ (pick sh 64).toNat = shr c sh from rfl]
  generalize shr c sh = x at *
  have h1 := Lib.hid (enc_any v xs W HV.out)
  have h2 := Lib.hid (fun w1 (hb : Below W.heap.size W w1) => refEnc_any v xs w1 (HV.out.later hb))
  have h3 := Lib.hid (fun w1 => enc_any (.slice (some ⟨w1.heap.size, 0, none⟩) 1 1) [x] (w1.alloc (.cells #[.int .i64 x] 3)) ((ints_new w1 3 [x] 1 _ rfl (by decide) rfl).more (by simp)))
  have h4 := Lib.hid (fun w1 => refEnc_any (.slice (some ⟨w1.heap.size, 0, none⟩) 1 1) [x] (w1.alloc (.cells #[.int .i64 x] 3)) ((ints_new w1 3 [x] 1 _ rfl (by decide) rfl).more (by simp)))
  generalize encodeL xs = r at *
  generalize encodeL [x] = q at *
  obtain ⟨bs, e1⟩ := r
  obtain ⟨cs, e2⟩ := q
  refine h1.out.mono ?_
  rintro e w1 ⟨rfl, b1⟩
  go_wp2_with fail
  refine (h2.out _ b1).mono ?_
  rintro e w2 ⟨rfl, b2⟩
  have B2 := below_next b1 b2
  clear b1 b2
  go_wp2_with fail
  refine (h3.out _).mono ?_
  rintro e w3 ⟨rfl, b3⟩
  have B3 := below_next B2 (below_next ((Below.refl _ w2).alloc (Nat.le_refl _) _) b3)
  clear B2 b3
  go_wp2_with fail
  refine (h4.out _).mono ?_
  rintro e w4 ⟨rfl, b4⟩
  have B4 := below_next B3 (below_next ((Below.refl _ w3).alloc (Nat.le_refl _) _) b4)
  clear B3 b4
  simp only
  generalize (⟨bs.toArray⟩ : ByteArray) = S at *
  generalize (⟨cs.toArray⟩ : ByteArray) = T at *
  go_wp2_with fail
  refine (awake1 _).mono ?_
  rintro e w5 ⟨rfl, b5⟩
  go_wp2_with (first | (go_at_call 35; refine (length_any _ _).mono ?_; rintro e w' ⟨rfl, rfl⟩) | (go_at_call 36; refine (refLength_any _ _).mono ?_; rintro e w' ⟨rfl, rfl⟩))
  go_ret
  exact ⟨by simp, below_next B4 b5⟩
end Go.Proofs.Ytmbphpocbajlmaa
