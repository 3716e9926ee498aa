/-
  The walk through the reference's GetInt: it returns what the plain getInt says.
-/
import Derived.Test.YtmbphpocbajlmaaPkGet
namespace Go.Proofs.Ytmbphpocbajlmaa
open Go.RowKit ND

theorem half_in {u : Nat} (h : u < 18446744073709551616) : wrap64 ((u : Int) / 2) = ((u / 2 : Nat) : Int) := by
  rw [IntWalk.wrap64_in _ ⟨by omega, by omega⟩]; omega
theorem i64_odd {u : Nat} (h : u < 18446744073709551616) (hp : u % 2 = 1) : bits .xor .i64 (-1) (wrap64 ((u : Int) / 2)) = unzz u := by
  rw [half_in h]
  have hx : ∀ (a b : Int), bits .xor .i64 a b = IntKind.i64.wrap ((BitVec.ofInt 64 a ^^^ BitVec.ofInt 64 b).toNat : Int) := fun _ _ => rfl
  have ha : (BitVec.ofInt 64 ((u / 2 : Nat) : Int)) = BitVec.ofNat 64 (u / 2) := BitVec.ofInt_natCast ..
  have hm : BitVec.ofInt 64 (-1) = BitVec.allOnes 64 := by decide
  rw [hx, ha, hm, BitVec.xor_comm, BitVec.xor_allOnes, BitVec.toNat_not, BitVec.toNat_ofNat, IntKind.wrap_i64, Nat.mod_eq_of_lt (by omega)]
  unfold unzz
  rw [if_neg (by omega)]
  omega
theorem i64_even {u : Nat} (h : u < 18446744073709551616) (hp : u % 2 = 0) : wrap64 ((u : Int) / 2) = unzz u := by
  rw [half_in h]; unfold unzz; rw [if_pos hp]

set_option maxRecDepth 100000 in
set_option maxHeartbeats 400000 in
theorem refGetInt_in (s : ByteArray) (p : Nat) (w : World) (hs : s.size ≤ maxLen) (h1 : p ≤ s.size) :
    Calls Try.prog 59 #[.string s, .int .i64 p] w fun e w' => e = .returned (tri (getInt s.data.toList p)) ∧ w = w' := by
  unfold maxLen at hs
  have hfin : getInt s.data.toList p = finU p (getU (s.data.toList.drop p) 0 0) := by
    unfold getInt; rw [if_neg (by simp; omega)]; rfl
  rw [hfin]
  clear hfin
  obtain ⟨R, hR⟩ : ∃ R, getU (s.data.toList.drop p) 0 0 = R := ⟨_, rfl⟩
  rw [hR]
  have HR := Lib.hid hR; clear hR
  have hd1 : decide (s.size < p) = false := by simp; omega
  have hd2 : decide ((p : Int) < 0) = false := by simp
  go_enter Try.func59, Try.ntmps59
  go_wp2
  go_loop [7, 8] (fun u i => ∃ (k : Nat) (n : Nat), k ≤ 9 ∧ p + k ≤ s.size ∧ Hid (n < 2 ^ (7 * k)) ∧ Hid (getU (s.data.toList.drop (p + k)) k n = R) ∧ i = .int .i64 k ∧ u = .int .u64 n) (fun _ i => (10 - intOf i).toNat)
  case atStart => exact ⟨0, 0, by omega, by omega, Lib.hid (by decide), HR, rfl, rfl⟩
  case round =>
    obtain ⟨k, n, hk, hn, HB, HU, rfl, rfl⟩ := hrel
    clear HR
    by_cases hlt : p + k < s.size
    · have hd := bytes_drop s (p + k) hlt
      have HU' : Hid (getU (s[p + k] :: s.data.toList.drop (p + k + 1)) k n = R) := by rw [← hd]; exact HU
      clear hd HU
      have hc := s[p + k].toNat_lt
      rcases show (9 ≤ k ∧ 1 < s[p + k].toNat) ∨ (k < 9 ∧ 128 ≤ s[p + k].toNat) ∨ (s[p + k].toNat < 1 ∧ 0 < k ∧ s[p + k].toNat < 128) ∨ ((9 ≤ k → s[p + k].toNat ≤ 1) ∧ s[p + k].toNat < 128 ∧ (s[p + k].toNat < 1 → k < 1)) by omega with ⟨h9, hb⟩ | ⟨h9, hb⟩ | ⟨h0, hb, hb'⟩ | ⟨h9, hb, h0⟩
      · go_wp2
        go_ret3; exact ⟨tri_ret (getU_nine HU'.out (by omega) (by omega)), rfl⟩
      · go_wp2
        go_round
        case rel => exact ⟨k + 1, n + s[p + k].toNat % 128 * 2 ^ (7 * k), by omega, by omega, Lib.hid ((bound7 hk HB.out hc (by omega)).2 (by omega)), Lib.hid (getU_more HU'.out (by omega) hb), by go_num, by rw [u64_add7 hk HB.out hc (by omega)]⟩
        case measure => simp [intOf]; omega
      · go_wp2
        all_goals
          go_ret3
          exact ⟨tri_ret (getU_zero HU'.out (by omega) (by omega)), rfl⟩
      · have hu := u64_add7 hk HB.out hc (by omega)
        have HL := Lib.hid (getU_last (p := p) HU'.out (by omega) (by omega) (by omega))
        have hlim := (bound7 hk HB.out hc (by omega)).1
        generalize hMe : n + s[p + k].toNat % 128 * 2 ^ (7 * k) = M at hu HL
        have HMl : Hid (M < 18446744073709551616) := Lib.hid (by omega)
        clear hMe hlim HB
        have hand : bits .and .u64 (M : Int) 1 = ((M % 2 : Nat) : Int) := by
          have := u64_and_nat M 1 HMl.out (by omega)
          rw [nat_mask1] at this
          exact this
        by_cases hpar : M % 2 = 1
        · have hb1 : (bits .and .u64 (M : Int) 1 == 1) = true := by rw [beq_iff_eq, hand, hpar]; rfl
          have HP := Lib.hid hpar
          clear hpar hand
          rcases show (9 ≤ k ∧ s[p + k].toNat ≤ 1 ∧ 0 < s[p + k].toNat) ∨ (k < 9 ∧ 0 < s[p + k].toNat) ∨ (k < 1 ∧ s[p + k].toNat < 1) by omega with ⟨a1, a2, a3⟩ | ⟨a1, a3⟩ | ⟨a1, a3⟩
          · have hb9 : ((k : Int) == 9) = true := by simp; omega
            have hb0 : ((s[p + k].toNat : Int) == 0) = false := by simp; omega
            go_wp2
            all_goals
              go_ret3
              refine ⟨tri_ret ?_, rfl⟩
              rw [← HL.out, ← i64_odd HMl.out HP.out]
              try rfl
          · have hb9 : ((k : Int) == 9) = false := by simp; omega
            have hb0 : ((s[p + k].toNat : Int) == 0) = false := by simp; omega
            go_wp2
            all_goals
              go_ret3
              refine ⟨tri_ret ?_, rfl⟩
              rw [← HL.out, ← i64_odd HMl.out HP.out]
              try rfl
          · have hb9 : ((k : Int) == 9) = false := by simp; omega
            have hb0 : ((s[p + k].toNat : Int) == 0) = true := by simp; omega
            go_wp2
            all_goals
              go_ret3
              refine ⟨tri_ret ?_, rfl⟩
              rw [← HL.out, ← i64_odd HMl.out HP.out]
              try rfl
        · have hpar' : M % 2 = 0 := by omega
          have hb1 : (bits .and .u64 (M : Int) 1 == 1) = false := by rw [beq_eq_false_iff_ne, hand, hpar']; decide
          have HP := Lib.hid hpar'
          clear hpar hpar' hand
          rcases show (9 ≤ k ∧ s[p + k].toNat ≤ 1 ∧ 0 < s[p + k].toNat) ∨ (k < 9 ∧ 0 < s[p + k].toNat) ∨ (k < 1 ∧ s[p + k].toNat < 1) by omega with ⟨a1, a2, a3⟩ | ⟨a1, a3⟩ | ⟨a1, a3⟩
          · have hb9 : ((k : Int) == 9) = true := by simp; omega
            have hb0 : ((s[p + k].toNat : Int) == 0) = false := by simp; omega
            go_wp2
            all_goals
              go_ret3
              refine ⟨tri_ret ?_, rfl⟩
              rw [← HL.out, ← i64_even HMl.out HP.out]
              try rfl
          · have hb9 : ((k : Int) == 9) = false := by simp; omega
            have hb0 : ((s[p + k].toNat : Int) == 0) = false := by simp; omega
            go_wp2
            all_goals
              go_ret3
              refine ⟨tri_ret ?_, rfl⟩
              rw [← HL.out, ← i64_even HMl.out HP.out]
              try rfl
          · have hb9 : ((k : Int) == 9) = false := by simp; omega
            have hb0 : ((s[p + k].toNat : Int) == 0) = true := by simp; omega
            go_wp2
            all_goals
              go_ret3
              refine ⟨tri_ret ?_, rfl⟩
              rw [← HL.out, ← i64_even HMl.out HP.out]
              try rfl
    · go_wp2
      go_ret3
      exact ⟨tri_ret (getU_nil' (bytes_drop_nil s _ (by omega)) HU.out), rfl⟩

set_option maxRecDepth 100000 in
set_option maxHeartbeats 400000 in
theorem refGetInt_any (s : ByteArray) (at_ : Int) (w : World) (hs : s.size ≤ maxLen) :
    Calls Try.prog 59 #[.string s, .int .i64 at_] w fun e w' => e = .returned (tri (getInt s.data.toList at_)) ∧ w = w' := by
  by_cases h : at_ < 0 ∨ (s.size : Int) < at_
  · have hg : getInt s.data.toList at_ = (0, at_, 3) := by
      unfold getInt; rw [if_pos (by simpa using h)]
    rw [hg]
    unfold maxLen at hs
    rcases h with h | h
    all_goals
      go_enter Try.func59, Try.ntmps59
      go_wp2
      go_ret3
      exact ⟨rfl, rfl⟩
  · obtain ⟨p, rfl⟩ := Int.eq_ofNat_of_zero_le (show 0 ≤ at_ by omega)
    exact refGetInt_in s p w hs (by omega)
end Go.Proofs.Ytmbphpocbajlmaa
