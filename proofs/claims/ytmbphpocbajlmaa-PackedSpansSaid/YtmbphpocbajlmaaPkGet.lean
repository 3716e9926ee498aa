/-
  The walk through packed.GetInt: it returns what the plain getInt says.
-/
import Derived.Test.YtmbphpocbajlmaaPkPlain
import Derived.Test.YtmbphpocbajlmaaProg
import Derived.WalkKit
import Derived.WalkSpells
import Derived.WalkLawsBesides
import Derived.Lib.Hide
namespace Go.Proofs.Ytmbphpocbajlmaa
open Go.RowKit ND

theorem bytes_drop (s : ByteArray) (i : Nat) (h : i < s.size) : s.data.toList.drop i = s[i] :: s.data.toList.drop (i + 1) := by
  rw [List.drop_eq_getElem_cons (by simpa using h)]; rfl
theorem bytes_drop_nil (s : ByteArray) (i : Nat) (h : s.size ≤ i) : s.data.toList.drop i = [] := by
  apply List.drop_of_length_le; simpa using h

theorem bound7 {k n c : Nat} (hk : k ≤ 9) (hn : n < 2 ^ (7 * k)) (hc : c < 256) (h9 : k = 9 → c ≤ 1) :
    c % 128 * 2 ^ (7 * k) + n < 18446744073709551616 ∧ (k ≤ 8 → n + c % 128 * 2 ^ (7 * k) < 2 ^ (7 * (k + 1))) := by
  have hs : c % 128 * 2 ^ (7 * k) + 2 ^ (7 * k) = (c % 128 + 1) * 2 ^ (7 * k) := by rw [Nat.add_mul]; omega
  constructor
  · rcases Nat.lt_or_ge k 9 with h | h
    · have h1 : (c % 128 + 1) * 2 ^ (7 * k) ≤ 128 * 2 ^ 56 := Nat.mul_le_mul (by omega) (Nat.pow_le_pow_right (by omega) (by omega))
      have h2 : 128 * 2 ^ 56 < 18446744073709551616 := by decide
      exact Nat.lt_of_lt_of_le (by omega) (Nat.le_of_lt (Nat.lt_of_le_of_lt h1 h2))
    · obtain rfl : k = 9 := by omega
      have := h9 rfl
      have h1 : (c % 128 + 1) * 2 ^ (7 * 9) ≤ 2 * 2 ^ (7 * 9) := Nat.mul_le_mul_right _ (by omega)
      have h2 : 2 * 2 ^ (7 * 9) = 18446744073709551616 := by decide
      rw [h2] at h1
      exact Nat.lt_of_lt_of_le (by omega) h1
  · intro h
    have h1 : (c % 128 + 1) * 2 ^ (7 * k) ≤ 128 * 2 ^ (7 * k) := Nat.mul_le_mul_right _ (by omega)
    rw [pow7]; omega

theorem u64_add7 {k n c : Nat} (hk : k ≤ 9) (hn : n < 2 ^ (7 * k)) (hc : c < 256) (h9 : k = 9 → c ≤ 1) :
    bits .or .u64 (n : Int) (IntKind.u64.wrap (IntKind.u64.wrap (bits .and .u8 (c : Int) 127) * 2 ^ (7 * k))) = ((n + c % 128 * 2 ^ (7 * k) : Nat) : Int) := by
  have hb := (bound7 hk hn hc h9).1
  have e1 : bits .and .u8 (c : Int) 127 = ((c % 128 : Nat) : Int) := by
    have := u8_and_nat c 127 hc (by omega)
    rw [nat_mask7] at this
    exact this
  have e2 : IntKind.u64.wrap ((c % 128 : Nat) : Int) = ((c % 128 : Nat) : Int) := by
    rw [IntKind.wrap_u64]; omega
  have e3 : ((c % 128 : Nat) : Int) * 2 ^ (7 * k) = ((c % 128 * 2 ^ (7 * k) : Nat) : Int) := by
    rw [Int.natCast_mul, Int.natCast_pow]; rfl
  rw [e1, e2, e3, IntKind.wrap_u64]
  generalize hm : c % 128 * 2 ^ (7 * k) = m at *
  have e4 : ((m : Nat) : Int) % 18446744073709551616 = (m : Int) := by omega
  rw [e4, u64_or_nat n m (by omega) (by omega), Nat.or_comm, nat_join (7 * k) m n (by rw [← hm]; simp) hn, Nat.add_comm]

theorem i64_unzz {u : Nat} (h : u < 18446744073709551616) : bits .xor .i64 (wrap64 ((u : Int) / 2)) (wrap64 (-wrap64 (bits .and .u64 (u : Int) 1))) = unzz u := by
  have e1 : bits .and .u64 (u : Int) 1 = ((u % 2 : Nat) : Int) := by
    have := u64_and_nat u 1 h (by omega)
    rw [nat_mask1] at this
    exact this
  have e2 : wrap64 ((u : Int) / 2) = ((u / 2 : Nat) : Int) := by
    rw [IntWalk.wrap64_in _ ⟨by omega, by omega⟩]; omega
  rw [e1, e2]
  have hx : ∀ (a b : Int), bits .xor .i64 a b = IntKind.i64.wrap ((BitVec.ofInt 64 a ^^^ BitVec.ofInt 64 b).toNat : Int) := fun _ _ => rfl
  have ha : (BitVec.ofInt 64 ((u / 2 : Nat) : Int)) = BitVec.ofNat 64 (u / 2) := BitVec.ofInt_natCast ..
  unfold unzz
  by_cases h2 : u % 2 = 0
  · rw [if_pos h2, h2]
    have e3 : wrap64 (-wrap64 ((0 : Nat) : Int)) = 0 := by decide +kernel
    rw [e3, hx, ha]
    have : BitVec.ofInt 64 0 = 0#64 := by decide
    rw [this, BitVec.xor_zero, BitVec.toNat_ofNat, IntKind.wrap_i64, Nat.mod_eq_of_lt (by omega)]
    omega
  · have h1 : u % 2 = 1 := by omega
    rw [if_neg h2, h1]
    have e3 : wrap64 (-wrap64 ((1 : Nat) : Int)) = -1 := by decide +kernel
    rw [e3, hx, ha]
    have : BitVec.ofInt 64 (-1) = BitVec.allOnes 64 := by decide
    rw [this, BitVec.xor_allOnes, BitVec.toNat_not, BitVec.toNat_ofNat, IntKind.wrap_i64, Nat.mod_eq_of_lt (by omega)]
    omega

def tri (r : Int × Int × Int) : Value := .tuple #[.int .i64 r.1, .int .i64 r.2.1, .int .i64 r.2.2]

theorem getU_nil' {p k n : Nat} {R : Nat × Nat × Nat} {l : List UInt8} (hl : l = []) (h : getU l k n = R) : ((0 : Int), (p : Int), (5 : Int)) = finU p R := by
  subst hl; subst h; simp [getU, finU]
theorem getU_nine {p k n : Nat} {R : Nat × Nat × Nat} {c : UInt8} {l : List UInt8} (h : getU (c :: l) k n = R) (h9 : k = 9) (hc : 1 < c.toNat) : ((0 : Int), (p : Int), (4 : Int)) = finU p R := by
  subst h; rw [getU, if_pos ⟨h9, hc⟩]; simp [finU]
theorem getU_more {k n : Nat} {R : Nat × Nat × Nat} {c : UInt8} {l : List UInt8} (h : getU (c :: l) k n = R) (h9 : k ≠ 9) (hc : 128 ≤ c.toNat) :
    getU l (k + 1) (n + c.toNat % 128 * 2 ^ (7 * k)) = R := by
  subst h; rw [getU, if_neg (by omega), if_pos hc]
theorem getU_zero {p k n : Nat} {R : Nat × Nat × Nat} {c : UInt8} {l : List UInt8} (h : getU (c :: l) k n = R) (hk : 0 < k) (hc : c.toNat = 0) : ((0 : Int), (p : Int), (4 : Int)) = finU p R := by
  subst h; rw [getU, if_neg (by omega), if_neg (by omega), if_pos ⟨hc, hk⟩]; simp [finU]
theorem getU_last {p k n : Nat} {R : Nat × Nat × Nat} {c : UInt8} {l : List UInt8} (h : getU (c :: l) k n = R) (h9 : k = 9 → c.toNat ≤ 1) (hc : c.toNat < 128) (hz : c.toNat = 0 → ¬ 0 < k) :
    (unzz (n + c.toNat % 128 * 2 ^ (7 * k)), (p : Int) + k + 1, (0 : Int)) = finU p R := by
  subst h; rw [getU, if_neg (by omega), if_neg (by omega), if_neg (fun ⟨a, b⟩ => hz a b)]
  simp [finU]; omega

theorem tri_ret {r : Int × Int × Int} {a b c : Int} (h : (a, b, c) = r) : Ending.returned (.tuple #[.int .i64 a, .int .i64 b, .int .i64 c]) = .returned (tri r) := by
  subst h; rfl

set_option maxRecDepth 100000 in
set_option maxHeartbeats 400000 in
theorem getInt_in (s : ByteArray) (p : Nat) (w : World) (hs : s.size ≤ maxLen) (h1 : p ≤ s.size) :
    Calls Try.prog 19 #[.string s, .int .i64 p] w fun e w' => e = .returned (tri (getInt s.data.toList p)) ∧ w = w' := by
  unfold maxLen at hs
  have hfin : getInt s.data.toList p = finU p (getU (s.data.toList.drop p) 0 0) := by
    unfold getInt; rw [if_neg (by simp; omega)]; rfl
  rw [hfin]
  clear hfin
  obtain ⟨R, hR⟩ : ∃ R, getU (s.data.toList.drop p) 0 0 = R := ⟨_, rfl⟩
  rw [hR]
  have HR := Lib.hid hR; clear hR
  have hd1 : decide (s.size < p) = false := by simp; omega
  have hd2 : decide ((p : Int) < 0) = false := by simp
  go_enter Try.func19, Try.ntmps19
  go_wp2
  go_loop [7, 8] (fun u i => ∃ (k : Nat) (n : Nat), k ≤ 9 ∧ p + k ≤ s.size ∧ Hid (n < 2 ^ (7 * k)) ∧ Hid (getU (s.data.toList.drop (p + k)) k n = R) ∧ i = .int .i64 k ∧ u = .int .u64 n) (fun _ i => (10 - intOf i).toNat)
  case atStart => exact ⟨0, 0, by omega, by omega, Lib.hid (by decide), HR, rfl, rfl⟩
  case round =>
    obtain ⟨k, n, hk, hn, HB, HU, rfl, rfl⟩ := hrel
    clear HR
    by_cases hlt : p + k < s.size
    · have hd := bytes_drop s (p + k) hlt
      have HU' : Hid (getU (s[p + k] :: s.data.toList.drop (p + k + 1)) k n = R) := by rw [← hd]; exact HU
      clear hd HU
      have hc := s[p + k].toNat_lt
      rcases show (9 ≤ k ∧ 1 < s[p + k].toNat) ∨ (k < 9 ∧ 128 ≤ s[p + k].toNat) ∨ (s[p + k].toNat < 1 ∧ 0 < k ∧ s[p + k].toNat < 128) ∨ ((9 ≤ k → s[p + k].toNat ≤ 1) ∧ s[p + k].toNat < 128 ∧ (s[p + k].toNat < 1 → k < 1)) by omega with ⟨h9, hb⟩ | ⟨h9, hb⟩ | ⟨h0, hb, hb'⟩ | ⟨h9, hb, h0⟩
      · go_wp2
        go_ret3; exact ⟨tri_ret (getU_nine HU'.out (by omega) (by omega)), rfl⟩
      · go_wp2
        go_round
        case rel => exact ⟨k + 1, n + s[p + k].toNat % 128 * 2 ^ (7 * k), by omega, by omega, Lib.hid ((bound7 hk HB.out hc (by omega)).2 (by omega)), Lib.hid (getU_more HU'.out (by omega) hb), by go_num, by rw [u64_add7 hk HB.out hc (by omega)]⟩
        case measure => simp [intOf]; omega
      · go_wp2
        all_goals
          go_ret3
          exact ⟨tri_ret (getU_zero HU'.out (by omega) (by omega)), rfl⟩
      · rcases show (9 ≤ k ∧ s[p + k].toNat ≤ 1 ∧ 0 < s[p + k].toNat) ∨ (k < 9 ∧ 0 < s[p + k].toNat) ∨ (k < 1 ∧ s[p + k].toNat < 1) by omega with ⟨a1, a2, a3⟩ | ⟨a1, a3⟩ | ⟨a1, a3⟩
        · have hb9 : ((k : Int) == 9) = true := by simp; omega
          have hb0 : ((s[p + k].toNat : Int) == 0) = false := by simp; omega
          go_wp2
          go_ret3
          rw [u64_add7 hk HB.out hc (by omega), i64_unzz (by have := (bound7 hk HB.out hc (by omega)).1; omega)]
          exact ⟨tri_ret (getU_last HU'.out (by omega) (by omega) (by omega)), rfl⟩
        · have hb9 : ((k : Int) == 9) = false := by simp; omega
          have hb0 : ((s[p + k].toNat : Int) == 0) = false := by simp; omega
          go_wp2
          go_ret3
          rw [u64_add7 hk HB.out hc (by omega), i64_unzz (by have := (bound7 hk HB.out hc (by omega)).1; omega)]
          exact ⟨tri_ret (getU_last HU'.out (by omega) (by omega) (by omega)), rfl⟩
        · have hb9 : ((k : Int) == 9) = false := by simp; omega
          have hb0 : ((s[p + k].toNat : Int) == 0) = true := by simp; omega
          go_wp2
          go_ret3
          rw [u64_add7 hk HB.out hc (by omega), i64_unzz (by have := (bound7 hk HB.out hc (by omega)).1; omega)]
          exact ⟨tri_ret (getU_last HU'.out (by omega) (by omega) (by omega)), rfl⟩
    · go_wp2
      go_ret3
      exact ⟨tri_ret (getU_nil' (bytes_drop_nil s _ (by omega)) HU.out), rfl⟩

set_option maxRecDepth 100000 in
set_option maxHeartbeats 400000 in
theorem getInt_any (s : ByteArray) (at_ : Int) (w : World) (hs : s.size ≤ maxLen) :
    Calls Try.prog 19 #[.string s, .int .i64 at_] w fun e w' => e = .returned (tri (getInt s.data.toList at_)) ∧ w = w' := by
  by_cases h : at_ < 0 ∨ (s.size : Int) < at_
  · have hg : getInt s.data.toList at_ = (0, at_, 3) := by
      unfold getInt; rw [if_pos (by simpa using h)]
    rw [hg]
    unfold maxLen at hs
    rcases h with h | h
    all_goals
      go_enter Try.func19, Try.ntmps19
      go_wp2
      go_ret3
      exact ⟨rfl, rfl⟩
  · obtain ⟨p, rfl⟩ := Int.eq_ofNat_of_zero_le (show 0 ≤ at_ by omega)
    exact getInt_in s p w hs (by omega)
end Go.Proofs.Ytmbphpocbajlmaa
