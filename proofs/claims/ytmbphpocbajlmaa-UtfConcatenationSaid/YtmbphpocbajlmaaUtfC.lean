/-
  The walks through the reference's one and first.
-/
import Derived.Test.YtmbphpocbajlmaaUtfB
import Derived.Lib.Strings
namespace Go.Proofs.Ytmbphpocbajlmaa
open Go.RowKit ND

theorem enc_bv_1 {n : Nat} (h : n < 128) : [Value.int .u8 (n : Int)] = (encN n).map bv := by
  have e : encN n = [UInt8.ofNat n] := by unfold encN; rw [if_pos h]
  rw [e, List.map_cons, List.map_nil, ← bv_of (by omega) rfl]
theorem enc_bv_2 {n : Nat} (h : 128 ≤ n) (h' : n < 2048) : [Value.int .u8 (192 + (n : Int) / 64), .int .u8 (128 + (n : Int) % 64)] = (encN n).map bv := by
  rw [encN_2 h h', List.map_cons, List.map_cons, List.map_nil, ← bv_of (x := 192 + (n : Int) / 64) (by omega) (by omega), ← bv_of (x := 128 + (n : Int) % 64) (by omega) (by omega)]
theorem enc_bv_3 {n : Nat} (h : 2048 ≤ n) (h' : n < 65536) : [Value.int .u8 (224 + (n : Int) / 4096), .int .u8 (128 + (n : Int) / 64 % 64), .int .u8 (128 + (n : Int) % 64)] = (encN n).map bv := by
  rw [encN_3 h h', List.map_cons, List.map_cons, List.map_cons, List.map_nil, ← bv_of (x := 224 + (n : Int) / 4096) (by omega) (by omega), ← bv_of (x := 128 + (n : Int) / 64 % 64) (by omega) (by omega), ← bv_of (x := 128 + (n : Int) % 64) (by omega) (by omega)]
theorem enc_bv_4 {n : Nat} (h : 65536 ≤ n) (h' : n ≤ 1114111) : [Value.int .u8 (240 + (n : Int) / 262144), .int .u8 (128 + (n : Int) / 4096 % 64), .int .u8 (128 + (n : Int) / 64 % 64), .int .u8 (128 + (n : Int) % 64)] = (encN n).map bv := by
  rw [encN_4 h, List.map_cons, List.map_cons, List.map_cons, List.map_cons, List.map_nil, ← bv_of (x := 240 + (n : Int) / 262144) (by omega) (by omega), ← bv_of (x := 128 + (n : Int) / 4096 % 64) (by omega) (by omega), ← bv_of (x := 128 + (n : Int) / 64 % 64) (by omega) (by omega), ← bv_of (x := 128 + (n : Int) % 64) (by omega) (by omega)]

set_option maxRecDepth 100000 in
set_option maxHeartbeats 400000 in
theorem one_1 (n : Nat) (w : World) (h : n < 128) (hsc : scalarB n = true) :
    Calls Try.prog 44 #[.int .i64 n] w fun e w' => e = .returned (.string ⟨(encN n).toArray⟩) ∧ Below w.heap.size w w' := by
  have hlen := Lib.hid (fun w => refLength_any n w)
  have e : lenC n = 1 := by rw [lenC_yes hsc, if_pos (by omega)]
  rw [e] at hlen
  have hl : (encN n).length = 1 := by have := (lenC_encC hsc).1; rw [e] at this; simpa [encC] using this
  have hcv := conv_new (P := Try.prog) w 30 9 5 (encN n) _ 1 Try.underlying30 Try.underlying5 Try.underlying9 (enc_bv_1 h) hl
  clear e hsc hl
  go_enter Try.func44, Try.ntmps44
  go_wp2_with (go_at_call 36; refine (hlen.out _).mono ?_; rintro e w' ⟨rfl, rfl⟩)
  go_ret
  exact ⟨rfl, (Below.refl _ _).alloc (Nat.le_refl _) _⟩

set_option maxRecDepth 100000 in
set_option maxHeartbeats 400000 in
theorem one_2 (n : Nat) (w : World) (h : 128 ≤ n) (h' : n < 2048) (hsc : scalarB n = true) :
    Calls Try.prog 44 #[.int .i64 n] w fun e w' => e = .returned (.string ⟨(encN n).toArray⟩) ∧ Below w.heap.size w w' := by
  have hlen := Lib.hid (fun w => refLength_any n w)
  have e : lenC n = 2 := by rw [lenC_yes hsc, if_neg (by omega), if_pos (by omega)]
  rw [e] at hlen
  have hl : (encN n).length = 2 := by have := (lenC_encC hsc).1; rw [e] at this; simpa [encC] using this
  have hcv := conv_new (P := Try.prog) w 30 9 5 (encN n) _ 2 Try.underlying30 Try.underlying5 Try.underlying9 (enc_bv_2 h h') hl
  clear e hsc hl
  go_enter Try.func44, Try.ntmps44
  go_wp2_with (go_at_call 36; refine (hlen.out _).mono ?_; rintro e w' ⟨rfl, rfl⟩)
  go_ret
  exact ⟨rfl, (Below.refl _ _).alloc (Nat.le_refl _) _⟩

set_option maxRecDepth 100000 in
set_option maxHeartbeats 400000 in
theorem one_3 (n : Nat) (w : World) (h : 2048 ≤ n) (h' : n < 65536) (hsc : scalarB n = true) :
    Calls Try.prog 44 #[.int .i64 n] w fun e w' => e = .returned (.string ⟨(encN n).toArray⟩) ∧ Below w.heap.size w w' := by
  have hlen := Lib.hid (fun w => refLength_any n w)
  have e : lenC n = 3 := by rw [lenC_yes hsc, if_neg (by omega), if_neg (by omega), if_pos (by omega)]
  rw [e] at hlen
  have hl : (encN n).length = 3 := by have := (lenC_encC hsc).1; rw [e] at this; simpa [encC] using this
  have hcv := conv_new (P := Try.prog) w 30 9 5 (encN n) _ 3 Try.underlying30 Try.underlying5 Try.underlying9 (enc_bv_3 h h') hl
  clear e hsc hl
  go_enter Try.func44, Try.ntmps44
  go_wp2_with (go_at_call 36; refine (hlen.out _).mono ?_; rintro e w' ⟨rfl, rfl⟩)
  go_ret
  exact ⟨rfl, (Below.refl _ _).alloc (Nat.le_refl _) _⟩

set_option maxRecDepth 100000 in
set_option maxHeartbeats 400000 in
theorem one_4 (n : Nat) (w : World) (h : 65536 ≤ n) (h' : n ≤ 1114111) (hsc : scalarB n = true) :
    Calls Try.prog 44 #[.int .i64 n] w fun e w' => e = .returned (.string ⟨(encN n).toArray⟩) ∧ Below w.heap.size w w' := by
  have hlen := Lib.hid (fun w => refLength_any n w)
  have e : lenC n = 4 := by rw [lenC_yes hsc, if_neg (by omega), if_neg (by omega), if_neg (by omega)]
  rw [e] at hlen
  have hl : (encN n).length = 4 := by have := (lenC_encC hsc).1; rw [e] at this; simpa [encC] using this
  have hcv := conv_new (P := Try.prog) w 30 9 5 (encN n) _ 4 Try.underlying30 Try.underlying5 Try.underlying9 (enc_bv_4 h h') hl
  clear e hsc hl
  go_enter Try.func44, Try.ntmps44
  go_wp2_with (go_at_call 36; refine (hlen.out _).mono ?_; rintro e w' ⟨rfl, rfl⟩)
  go_ret
  exact ⟨rfl, (Below.refl _ _).alloc (Nat.le_refl _) _⟩

theorem one_any (c : Int) (w : World) (hsc : scalarB c = true) :
    Calls Try.prog 44 #[.int .i64 c] w fun e w' => e = .returned (.string ⟨(encC c).toArray⟩) ∧ Below w.heap.size w w' := by
  have hs := (scalarB_iff _).1 hsc
  obtain ⟨n, rfl⟩ := Int.eq_ofNat_of_zero_le hs.1
  rw [encC, Int.toNat_natCast]
  by_cases h1 : n < 128
  · exact one_1 n w h1 hsc
  · by_cases h2 : n < 2048
    · exact one_2 n w (by omega) h2 hsc
    · by_cases h3 : n < 65536
      · exact one_3 n w (by omega) h3 hsc
      · exact one_4 n w (by omega) (by omega) hsc
end Go.Proofs.Ytmbphpocbajlmaa
