/-
  The walk of PackedSum.
-/
import Derived.Test.YtmbphpocbajlmaaL3Int
import Derived.Test.YtmbphpocbajlmaaQuiet
import Derived.Lib.Strings
namespace Go.Proofs.Ytmbphpocbajlmaa
open Go.RowKit ND

theorem xor_inj {a b c : Nat} (h : a ^^^ c = b ^^^ c) : a = b := by
  have := congrArg (· ^^^ c) h
  simpa [Nat.xor_assoc] using this
theorem xor_inj' {a b c : Nat} (h : c ^^^ a = c ^^^ b) : a = b := by
  rw [Nat.xor_comm c a, Nat.xor_comm c b] at h
  exact xor_inj h
/-- The factor has an inverse modulo 2^32. -/
theorem mul_inj {x y : Nat} (hx : x < 4294967296) (hy : y < 4294967296) (h : x * 16777619 % 4294967296 = y * 16777619 % 4294967296) : x = y := by
  have e : 16777619 * 899433627 % 4294967296 = 1 := by decide
  have h1 : (x * 16777619 * 899433627) % 4294967296 = (y * 16777619 * 899433627) % 4294967296 := by
    rw [Nat.mul_mod (x * 16777619), Nat.mul_mod (y * 16777619), h]
  rw [Nat.mul_assoc, Nat.mul_assoc, Nat.mul_mod x, Nat.mul_mod y, e, Nat.mul_one, Nat.mul_one, Nat.mod_mod, Nat.mod_mod, Nat.mod_eq_of_lt hx, Nat.mod_eq_of_lt hy] at h1
  exact h1
theorem xor_lt32 {x : Nat} (c : UInt8) (hx : x < 4294967296) : x ^^^ c.toNat < 4294967296 := by
  have := c.toNat_lt
  exact Nat.xor_lt_two_pow (n := 32) hx (by omega)
theorem sumStep_inj {x y : Nat} (c : UInt8) (hx : x < 4294967296) (hy : y < 4294967296) (h : sumStep x c = sumStep y c) : x = y := by
  unfold sumStep at h
  exact xor_inj (mul_inj (xor_lt32 c hx) (xor_lt32 c hy) h)
theorem sumStep_inj' {x : Nat} (c d : UInt8) (hx : x < 4294967296) (h : sumStep x c = sumStep x d) : c = d := by
  unfold sumStep at h
  have := xor_inj' (mul_inj (xor_lt32 c hx) (xor_lt32 d hx) h)
  exact UInt8.toNat_inj.1 this
theorem foldl_inj (l : List UInt8) : ∀ {x y : Nat}, x < 4294967296 → y < 4294967296 → l.foldl sumStep x = l.foldl sumStep y → x = y := by
  induction l with
  | nil => intro x y _ _ h; exact h
  | cons c l ih => intro x y hx hy h; exact sumStep_inj c hx hy (ih (sumStep_lt _ _) (sumStep_lt _ _) h)
theorem sumL_change (l r : List UInt8) (c d : UInt8) : (sumL (l ++ c :: r) == sumL (l ++ d :: r)) = (d == c) := by
  rw [Bool.eq_iff_iff]
  simp only [beq_iff_eq]
  constructor
  · intro h
    unfold sumL at h
    rw [List.foldl_append, List.foldl_append, List.foldl_cons, List.foldl_cons] at h
    exact (sumStep_inj' c d (sumL_lt l) (foldl_inj r (sumStep_lt _ _) (sumStep_lt _ _) h)).symm
  · rintro rfl; rfl

theorem sum_change_at (s : ByteArray) (k : Nat) (b : Int) (hk : k < s.size) (h0 : 0 ≤ b) (h1 : b < 256) :
    ((((sumL s.data.toList : Nat) : Int) == ((sumL (s.extract 0 k ++ ⟨#[UInt8.ofNat b.toNat]⟩ ++ s.extract (k + 1) s.size).data.toList : Nat) : Int)) == (b == (s[k].toNat : Int))) = true := by
  have e1 : (s.extract 0 k ++ ⟨#[UInt8.ofNat b.toNat]⟩ ++ s.extract (k + 1) s.size).data.toList = s.data.toList.take k ++ UInt8.ofNat b.toNat :: s.data.toList.drop (k + 1) := by
    rw [ByteArray.data_append, Array.toList_append, ByteArray.data_append, Array.toList_append, Lib.extract_data, Lib.extract_data]
    have hl : s.data.toList.length = s.size := by rw [Array.length_toList]; rfl
    have e : (s.data.toList.drop (k + 1)).take (s.size - (k + 1)) = s.data.toList.drop (k + 1) := List.take_of_length_le (by rw [List.length_drop, hl]; omega)
    rw [e]
    simp
  have e2 : s.data.toList = s.data.toList.take k ++ s[k] :: s.data.toList.drop (k + 1) := by
    rw [← bytes_drop s k hk, List.take_append_drop]
  have h := sumL_change (s.data.toList.take k) (s.data.toList.drop (k + 1)) s[k] (UInt8.ofNat b.toNat)
  rw [← e2, ← e1] at h
  have h3 : ∀ a c : Nat, ((a : Int) == (c : Int)) = (a == c) := fun a c => by
    rw [Bool.eq_iff_iff, beq_iff_eq, beq_iff_eq]; omega
  rw [h3, h]
  have h4 : (UInt8.ofNat b.toNat == s[k]) = (b == (s[k].toNat : Int)) := by
    rw [Bool.eq_iff_iff, beq_iff_eq, beq_iff_eq]
    constructor
    · intro e
      rw [← e, u8_ofNat_toNat (by omega)]; omega
    · intro e
      apply UInt8.toNat_inj.1
      rw [u8_ofNat_toNat (by omega)]; omega
  rw [h4]
  simp

set_option maxRecDepth 100000 in
set_option maxHeartbeats 400000 in
theorem PackedSum_walk (W : World) (s : ByteArray) (hs : s.size ≤ 140737488351232) (p : Int) (_hp : -9223372036854775808 ≤ p ∧ p ≤ 9223372036854775807) (v : Int) (_hv : -9223372036854775808 ≤ v ∧ v ≤ 9223372036854775807) :
    Calls Try.prog 6 #[.string s, .int .i64 p, .int .i64 v] W fun e W' => e = .returned (.bool true) ∧ Below W.heap.size W W' := by
  by_cases h0 : s.size < 1
  · have hne : ((s.size : Int) == 0) = true := beq_iff_eq.2 (by omega)
    go_enter Try.func6, Try.ntmps6
    go_wp2_with fail
    refine (awake3 _).mono ?_
    rintro e w3 ⟨rfl, b3⟩
    go_wp2_with fail
    go_ret
    exact ⟨by simp, b3⟩
  · have hne : ((s.size : Int) == 0) = false := beq_eq_false_iff_ne.2 (by omega)
    go_enter Try.func6, Try.ntmps6
    go_wp2_with fail
    refine (pick_any p s.size _ (by omega) (by omega)).mono ?_
    rintro e w' ⟨rfl, rfl⟩
    have hq := pick_in p (n := s.size) (by omega)
    obtain ⟨k, hk⟩ := Int.eq_ofNat_of_zero_le hq.1
    rw [hk] at hq ⊢
    clear hk
    go_wp2_with fail
    refine (pick_any v 256 _ (by omega) (by omega)).mono ?_
    rintro e w' ⟨rfl, rfl⟩
    have hr := pick_in v (n := 256) (by omega)
    generalize pick v 256 = b at *
    have hcv : (convert 30 9 (.slice (some ⟨W.heap.size, 0, none⟩) 1 1)).run Try.prog (W.alloc (.cells #[.int .u8 b] 5)).drew = .ok (.string ⟨#[UInt8.ofNat b.toNat]⟩) (W.alloc (.cells #[.int .u8 b] 5)).drew :=
      conv_one (P := Try.prog) W.drew 30 9 5 b Try.underlying30 Try.underlying5 Try.underlying9 hr.1 (by omega)
    have hk0 : (0 : Int) ≤ (k : Int) := by omega
    have hk1 : (k : Int) ≤ (s.size : Int) := by omega
    go_wp2_with fail
    have hkn : k < s.size := by omega
    have hkm : (k : Int) < (s.size : Int) := by omega
    have HK := Lib.hid (sum_change_at s k b hkn hr.1 hr.2)
    go_region
    clear hcv
    obtain ⟨t, ht⟩ : ∃ t : ByteArray, t = s.extract 0 k ++ ⟨#[UInt8.ofNat b.toNat]⟩ ++ s.extract (k + 1) s.size := ⟨_, rfl⟩
    rw [← ht]
    have HE : Hid (((((sumL s.data.toList : Nat) : Int) == ((sumL t.data.toList : Nat) : Int)) == (b == (s[k].toNat : Int))) = true) := by
      rw [ht]; exact HK.out
    have hts : t.size ≤ maxLen := by
      rw [ht]; unfold maxLen
      rw [ByteArray.size_append, ByteArray.size_append, ByteArray.size_extract, ByteArray.size_extract]
      show _ + 1 + _ ≤ _
      omega
    clear HK ht
    have hS := Lib.hid (fun W => sum_any s W (by unfold maxLen; omega))
    have hT := Lib.hid (fun W => sum_any t W hts)
    have hx := sumL_lt s.data.toList
    generalize sumL s.data.toList = x at *
    generalize sumL t.data.toList = y at *
    clear hts
    go_wp2_with fail
    refine (hS.out _).mono ?_
    rintro e w1 ⟨rfl, b1⟩
    go_wp2_with fail
    have d1 : decide ((x : Int) < 4294967296) = true := by simp; omega
    have d2 : decide ((0 : Int) ≤ (x : Int)) = true := by simp
    clear hx
    refine wp_region_quiet_below (by kernel_rfl) (by kernel_rfl) ?_
    repeat (quiet_step (first | exact quiet_b awake3 | exact quiet_b hT.out))
    refine wpQuiet_nil ?_
    rintro _ ⟨⟨dq, osq⟩, rfl⟩
    go_wp2_with fail
    go_ret
    refine ⟨by first | rfl | (show Ending.returned (.bool _) = _; rw [HE.out]), ?_⟩
    have b0 : Below W.heap.size W (W.alloc (.cells #[.int .u8 b] 5)).drew := ((Below.refl _ W).alloc (Nat.le_refl _) _).drew
    exact below_next b0 (below_next b1 (below_regrown _ dq osq))
end Go.Proofs.Ytmbphpocbajlmaa
