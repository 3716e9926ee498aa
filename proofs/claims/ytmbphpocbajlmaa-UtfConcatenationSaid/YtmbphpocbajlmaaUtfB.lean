/-
  The walks through utf.put and the reference's one: the bytes of a scalar value.
-/
import Derived.Test.YtmbphpocbajlmaaUtfA
import Derived.Test.YtmbphpocbajlmaaPkPut
namespace Go.Proofs.Ytmbphpocbajlmaa
open Go.RowKit ND

theorem ofInt_i64 (a : Nat) (ha : a < 9223372036854775808) : (BitVec.ofInt 64 (a : Int)).toNat = a := by
  rw [BitVec.ofInt_natCast, BitVec.toNat_ofNat]; exact Nat.mod_eq_of_lt (by omega)
theorem i64_and_nat (a b : Nat) (ha : a < 9223372036854775808) (hb : b < 9223372036854775808) : bits .and .i64 (a : Int) (b : Int) = ((a &&& b : Nat) : Int) := by
  have hx : a &&& b < 2 ^ 63 := Nat.and_lt_two_pow _ (by omega)
  show IntKind.i64.wrap ((BitVec.ofInt 64 (a : Int) &&& BitVec.ofInt 64 (b : Int)).toNat : Int) = _
  rw [BitVec.toNat_and, ofInt_i64 a ha, ofInt_i64 b hb, IntKind.wrap_i64]
  omega
theorem i64_or_nat (a b : Nat) (ha : a < 9223372036854775808) (hb : b < 9223372036854775808) : bits .or .i64 (a : Int) (b : Int) = ((a ||| b : Nat) : Int) := by
  have hx : a ||| b < 2 ^ 63 := Nat.or_lt_two_pow (by omega) (by omega)
  show IntKind.i64.wrap ((BitVec.ofInt 64 (a : Int) ||| BitVec.ofInt 64 (b : Int)).toNat : Int) = _
  rw [BitVec.toNat_or, ofInt_i64 a ha, ofInt_i64 b hb, IntKind.wrap_i64]
  omega

theorem bv_of {x : Int} {n : Nat} (hn : n < 256) (h : x = (n : Int)) : Value.int .u8 x = bv (UInt8.ofNat n) := by
  unfold bv; rw [u8_ofNat_toNat hn, h]
theorem low6 {m : Nat} (hm : m < 9223372036854775808) : bits .or .i64 128 (bits .and .i64 (m : Int) 63) % 256 = ((128 + m % 64 : Nat) : Int) := by
  have e1 : bits .and .i64 (m : Int) 63 = ((m % 64 : Nat) : Int) := by
    have h := i64_and_nat m 63 hm (by omega)
    rw [nat_mask6] at h
    exact h
  have e2 : bits .or .i64 128 ((m % 64 : Nat) : Int) = ((128 + m % 64 : Nat) : Int) := by
    have h := i64_or_nat 128 (m % 64) (by omega) (by omega)
    rw [nat_join 6 128 (m % 64) (by decide) (by omega)] at h
    exact h
  rw [e1, e2]; omega
theorem hi5 {m : Nat} (hm : m < 32) : bits .or .i64 192 (m : Int) % 256 = ((192 + m : Nat) : Int) := by
  have h := i64_or_nat 192 m (by omega) (by omega)
  rw [nat_join 5 192 m (by decide) (by omega)] at h
  have e : ((192 : Nat) : Int) = 192 := rfl
  rw [e] at h
  rw [h]; omega
theorem hi4 {m : Nat} (hm : m < 16) : bits .or .i64 224 (m : Int) % 256 = ((224 + m : Nat) : Int) := by
  have h := i64_or_nat 224 m (by omega) (by omega)
  rw [nat_join 4 224 m (by decide) (by omega)] at h
  have e : ((224 : Nat) : Int) = 224 := rfl
  rw [e] at h
  rw [h]; omega
theorem hi3 {m : Nat} (hm : m < 8) : bits .or .i64 240 (m : Int) % 256 = ((240 + m : Nat) : Int) := by
  have h := i64_or_nat 240 m (by omega) (by omega)
  rw [nat_join 3 240 m (by decide) (by omega)] at h
  have e : ((240 : Nat) : Int) = 240 := rfl
  rw [e] at h
  rw [h]; omega

/-- What stands behind an append to a row of the call's own. -/
theorem put_end {w w1 : World} {base : Nat} {v v' : Value} {acc : List UInt8} {o : Obj} {l : List UInt8} {e : TypeId} {k : Nat} {news : List Value} (hown : w.ownsRow base e 1 v acc.length (acc.map bv)) (hB : base ≤ w.heap.size)
    (h1 : w1.ownsRow base e 1 v' (acc.length + k) (acc.map bv ++ news)) (hl : k = l.length) (hn : news = l.map bv) (hg : (w.alloc o).grownBy w1 v.ownBlock) :
    w1.ownsRow base e 1 v' (acc ++ l).length ((acc ++ l).map bv) ∧ Below base w w1 := by
  subst hl; subst hn
  refine ⟨by simpa using h1, ?_⟩
  exact ((Below.refl base w).alloc hB o).grown hg (by simp; omega) (fun k hk => (hown.lt k hk).1)

theorem encN_2 {n : Nat} (h1 : 128 ≤ n) (h2 : n < 2048) : encN n = [UInt8.ofNat (192 + n / 64), UInt8.ofNat (128 + n % 64)] := by
  unfold encN; rw [if_neg (by omega), if_pos h2]
theorem encN_3 {n : Nat} (h1 : 2048 ≤ n) (h2 : n < 65536) : encN n = [UInt8.ofNat (224 + n / 4096), UInt8.ofNat (128 + n / 64 % 64), UInt8.ofNat (128 + n % 64)] := by
  unfold encN; rw [if_neg (by omega), if_neg (by omega), if_pos h2]
theorem encN_4 {n : Nat} (h1 : 65536 ≤ n) : encN n = [UInt8.ofNat (240 + n / 262144), UInt8.ofNat (128 + n / 4096 % 64), UInt8.ofNat (128 + n / 64 % 64), UInt8.ofNat (128 + n % 64)] := by
  unfold encN; rw [if_neg (by omega), if_neg (by omega), if_neg (by omega)]

set_option maxRecDepth 100000 in
set_option maxHeartbeats 400000 in
theorem put_1 (n : Nat) (w : World) (base : Nat) (v : Value) (acc : List UInt8) (h : n < 128) (hown : w.ownsRow base 5 1 v acc.length (acc.map bv)) (hB : base ≤ w.heap.size) (hl : acc.length ≤ 1000000) :
    Calls Try.prog 56 #[v, .int .i64 n] w fun e w' => ∃ v', e = .returned v' ∧ w'.ownsRow base 5 1 v' (acc ++ encN n).length ((acc ++ encN n).map bv) ∧ Below base w w' := by
  have hsc : scalarB n = true := (scalarB_iff _).2 (by omega)
  obtain ⟨i0, hi, hz0, hz1, hz2⟩ := info_parts Try.infoU8
  have hlen := Lib.hid (fun w => length_any n w)
  have e : lenC n = 1 := by rw [lenC_yes hsc, if_pos (by omega)]
  rw [e] at hlen
  clear e hsc
  have HO := Lib.hid hown
  go_enter Try.func56, Try.ntmps56
  go_wp2_with (first | (go_at_call 35; refine (hlen.out _).mono ?_; rintro e w' ⟨rfl, rfl⟩) | (at_builtin; refine wpList_append_own _ rfl _ _ 30 rfl base 5 i0 (.int .u8 0) 1 1 Try.underlying30 hi hz0 hz1 hz2 rfl (by decide) _ _ _ rfl (hown.alloc _) ⟨w.heap.size, 0, none⟩ 1 1 [.int .u8 (n : Int)] rfl rfl (cell_one_new _ _ _) ?c1 ?c2 ?c3 ?c4 ?_))
  case c1 => intro u hu; simp at hu; subst hu; rfl
  case c2 => unfold maxLen; omega
  case c3 => omega
  case c4 => simp; omega
  intro v' w1 hown1 hgrow _
  have hE := put_end (l := [UInt8.ofNat n]) HO.out hB hown1 rfl (by rw [List.map_cons, List.map_nil, ← bv_of (by omega) rfl]) hgrow
  clear hown1 hgrow hown
  have e : encN n = [UInt8.ofNat n] := by unfold encN; rw [if_pos h]
  rw [← e] at hE
  clear e
  have HE := Lib.hid hE; clear hE
  go_wp2
  go_ret
  exact ⟨v', rfl, HE.out⟩

set_option maxRecDepth 100000 in
set_option maxHeartbeats 400000 in
theorem put_2 (n : Nat) (w : World) (base : Nat) (v : Value) (acc : List UInt8) (h : 128 ≤ n) (h' : n < 2048) (hown : w.ownsRow base 5 1 v acc.length (acc.map bv)) (hB : base ≤ w.heap.size) (hl : acc.length ≤ 1000000) :
    Calls Try.prog 56 #[v, .int .i64 n] w fun e w' => ∃ v', e = .returned v' ∧ w'.ownsRow base 5 1 v' (acc ++ encN n).length ((acc ++ encN n).map bv) ∧ Below base w w' := by
  have hsc : scalarB n = true := (scalarB_iff _).2 (by omega)
  obtain ⟨i0, hi, hz0, hz1, hz2⟩ := info_parts Try.infoU8
  have hlen := Lib.hid (fun w => length_any n w)
  have e : lenC n = 2 := by rw [lenC_yes hsc, if_neg (by omega), if_pos (by omega)]
  rw [e] at hlen
  clear e hsc
  have HO := Lib.hid hown
  go_enter Try.func56, Try.ntmps56
  go_wp2_with (first | (go_at_call 35; refine (hlen.out _).mono ?_; rintro e w' ⟨rfl, rfl⟩) | (at_builtin; refine wpList_append_own _ rfl _ _ 30 rfl base 5 i0 (.int .u8 0) 1 1 Try.underlying30 hi hz0 hz1 hz2 rfl (by decide) _ _ _ rfl (hown.alloc _) ⟨w.heap.size, 0, none⟩ 2 2 [.int .u8 (bits .or .i64 192 ((n : Int) / 64) % 256), .int .u8 (bits .or .i64 128 (bits .and .i64 (n : Int) 63) % 256)] rfl rfl (cells_new _ _ _) ?c1 ?c2 ?c3 ?c4 ?_))
  case c1 => intro u hu; simp at hu; rcases hu with rfl | rfl <;> rfl
  case c2 => unfold maxLen; omega
  case c3 => omega
  case c4 => simp; omega
  intro v' w1 hown1 hgrow _
  have hE := put_end (l := encN n) HO.out hB hown1 (by rw [encN_2 h h']; rfl) (by rw [encN_2 h h', List.map_cons, List.map_cons, List.map_nil, ← bv_of (by omega) (hi5 (m := n / 64) (by omega)), ← bv_of (by omega) (low6 (m := n) (by omega))]; rfl) hgrow
  clear hown1 hgrow hown
  have HE := Lib.hid hE; clear hE
  go_wp2
  go_ret
  exact ⟨v', rfl, HE.out⟩

set_option maxRecDepth 100000 in
set_option maxHeartbeats 400000 in
theorem put_3 (n : Nat) (w : World) (base : Nat) (v : Value) (acc : List UInt8) (h : 2048 ≤ n) (h' : n < 65536) (hsc : scalarB n = true) (hown : w.ownsRow base 5 1 v acc.length (acc.map bv)) (hB : base ≤ w.heap.size) (hl : acc.length ≤ 1000000) :
    Calls Try.prog 56 #[v, .int .i64 n] w fun e w' => ∃ v', e = .returned v' ∧ w'.ownsRow base 5 1 v' (acc ++ encN n).length ((acc ++ encN n).map bv) ∧ Below base w w' := by
  obtain ⟨i0, hi, hz0, hz1, hz2⟩ := info_parts Try.infoU8
  have hlen := Lib.hid (fun w => length_any n w)
  have e : lenC n = 3 := by rw [lenC_yes hsc, if_neg (by omega), if_neg (by omega), if_pos (by omega)]
  rw [e] at hlen
  clear e hsc
  have HO := Lib.hid hown
  go_enter Try.func56, Try.ntmps56
  go_wp2_with (first | (go_at_call 35; refine (hlen.out _).mono ?_; rintro e w' ⟨rfl, rfl⟩) | (at_builtin; refine wpList_append_own _ rfl _ _ 30 rfl base 5 i0 (.int .u8 0) 1 1 Try.underlying30 hi hz0 hz1 hz2 rfl (by decide) _ _ _ rfl (hown.alloc _) ⟨w.heap.size, 0, none⟩ 3 3 [.int .u8 (bits .or .i64 224 ((n : Int) / 4096) % 256), .int .u8 (bits .or .i64 128 (bits .and .i64 ((n : Int) / 64) 63) % 256), .int .u8 (bits .or .i64 128 (bits .and .i64 (n : Int) 63) % 256)] rfl rfl (cells_new _ _ _) ?c1 ?c2 ?c3 ?c4 ?_))
  case c1 => intro u hu; simp at hu; rcases hu with rfl | rfl | rfl <;> rfl
  case c2 => unfold maxLen; omega
  case c3 => omega
  case c4 => simp; omega
  intro v' w1 hown1 hgrow _
  have hE := put_end (l := encN n) HO.out hB hown1 (by rw [encN_3 h h']; rfl) (by rw [encN_3 h h', List.map_cons, List.map_cons, List.map_cons, List.map_nil, ← bv_of (by omega) (hi4 (m := n / 4096) (by omega)), ← bv_of (by omega) (low6 (m := n / 64) (by omega)), ← bv_of (by omega) (low6 (m := n) (by omega))]; rfl) hgrow
  clear hown1 hgrow hown
  have HE := Lib.hid hE; clear hE
  go_wp2
  go_ret
  exact ⟨v', rfl, HE.out⟩

set_option maxRecDepth 100000 in
set_option maxHeartbeats 400000 in
theorem put_4 (n : Nat) (w : World) (base : Nat) (v : Value) (acc : List UInt8) (h : 65536 ≤ n) (hsc : scalarB n = true) (hown : w.ownsRow base 5 1 v acc.length (acc.map bv)) (hB : base ≤ w.heap.size) (hl : acc.length ≤ 1000000) :
    Calls Try.prog 56 #[v, .int .i64 n] w fun e w' => ∃ v', e = .returned v' ∧ w'.ownsRow base 5 1 v' (acc ++ encN n).length ((acc ++ encN n).map bv) ∧ Below base w w' := by
  have hs := (scalarB_iff _).1 hsc
  obtain ⟨i0, hi, hz0, hz1, hz2⟩ := info_parts Try.infoU8
  have hlen := Lib.hid (fun w => length_any n w)
  have e : lenC n = 4 := by rw [lenC_yes hsc, if_neg (by omega), if_neg (by omega), if_neg (by omega)]
  rw [e] at hlen
  clear e hsc
  have HO := Lib.hid hown
  go_enter Try.func56, Try.ntmps56
  go_wp2_with (first | (go_at_call 35; refine (hlen.out _).mono ?_; rintro e w' ⟨rfl, rfl⟩) | (at_builtin; refine wpList_append_own _ rfl _ _ 30 rfl base 5 i0 (.int .u8 0) 1 1 Try.underlying30 hi hz0 hz1 hz2 rfl (by decide) _ _ _ rfl (hown.alloc _) ⟨w.heap.size, 0, none⟩ 4 4 [.int .u8 (bits .or .i64 240 ((n : Int) / 262144) % 256), .int .u8 (bits .or .i64 128 (bits .and .i64 ((n : Int) / 4096) 63) % 256), .int .u8 (bits .or .i64 128 (bits .and .i64 ((n : Int) / 64) 63) % 256), .int .u8 (bits .or .i64 128 (bits .and .i64 (n : Int) 63) % 256)] rfl rfl (cells_new _ _ _) ?c1 ?c2 ?c3 ?c4 ?_))
  case c1 => intro u hu; simp at hu; rcases hu with rfl | rfl | rfl | rfl <;> rfl
  case c2 => unfold maxLen; omega
  case c3 => omega
  case c4 => simp; omega
  intro v' w1 hown1 hgrow _
  have hE := put_end (l := encN n) HO.out hB hown1 (by rw [encN_4 h]; rfl) (by rw [encN_4 h, List.map_cons, List.map_cons, List.map_cons, List.map_cons, List.map_nil, ← bv_of (by omega) (hi3 (m := n / 262144) (by omega)), ← bv_of (by omega) (low6 (m := n / 4096) (by omega)), ← bv_of (by omega) (low6 (m := n / 64) (by omega)), ← bv_of (by omega) (low6 (m := n) (by omega))]; rfl) hgrow
  clear hown1 hgrow hown
  have HE := Lib.hid hE; clear hE
  go_wp2
  go_ret
  exact ⟨v', rfl, HE.out⟩

theorem put_any (c : Int) (w : World) (base : Nat) (v : Value) (acc : List UInt8) (hsc : scalarB c = true) (hown : w.ownsRow base 5 1 v acc.length (acc.map bv)) (hB : base ≤ w.heap.size) (hl : acc.length ≤ 1000000) :
    Calls Try.prog 56 #[v, .int .i64 c] w fun e w' => ∃ v', e = .returned v' ∧ w'.ownsRow base 5 1 v' (acc ++ encC c).length ((acc ++ encC c).map bv) ∧ Below base w w' := by
  have hs := (scalarB_iff _).1 hsc
  obtain ⟨n, rfl⟩ := Int.eq_ofNat_of_zero_le hs.1
  rw [encC, Int.toNat_natCast]
  by_cases h1 : n < 128
  · exact put_1 n w base v acc h1 hown hB hl
  · by_cases h2 : n < 2048
    · exact put_2 n w base v acc (by omega) h2 hown hB hl
    · by_cases h3 : n < 65536
      · exact put_3 n w base v acc (by omega) h3 hsc hown hB hl
      · exact put_4 n w base v acc (by omega) hsc hown hB hl
end Go.Proofs.Ytmbphpocbajlmaa
