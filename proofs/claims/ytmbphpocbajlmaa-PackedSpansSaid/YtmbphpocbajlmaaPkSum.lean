/-
  The walk through packed.Sum and the reference's: both fold the bytes by one step.
-/
import Derived.Test.YtmbphpocbajlmaaPkPut
namespace Go.Proofs.Ytmbphpocbajlmaa
open Go.RowKit ND

def sumStep (x : Nat) (c : UInt8) : Nat := (x ^^^ c.toNat) * 16777619 % 4294967296
def sumL (l : List UInt8) : Nat := l.foldl sumStep 2166136261

theorem sumStep_lt (x : Nat) (c : UInt8) : sumStep x c < 4294967296 := Nat.mod_lt _ (by decide)
theorem foldl_lt (l : List UInt8) (x : Nat) (hx : x < 4294967296) : l.foldl sumStep x < 4294967296 := by
  induction l generalizing x with
  | nil => exact hx
  | cons c l ih => exact ih _ (sumStep_lt _ _)
theorem sumL_lt (l : List UInt8) : sumL l < 4294967296 := foldl_lt l _ (by decide)

theorem sumStep_cast (x : Nat) (c : UInt8) : ((x ^^^ c.toNat : Nat) : Int) * 16777619 % 4294967296 = ((sumStep x c : Nat) : Int) := by
  rw [sumStep]
  simp only [Int.natCast_emod, Int.natCast_mul, Int.cast_ofNat_Int]
theorem xor_bits {x : Nat} (c : UInt8) (hx : x < 4294967296) : bits .xor .u32 (x : Int) (c.toNat : Int) = ((x ^^^ c.toNat : Nat) : Int) := by
  have hc := c.toNat_lt
  exact u32_xor_nat _ _ hx (by omega)
theorem byte_mod (c : UInt8) : (c.toNat : Int) % 4294967296 = (c.toNat : Int) := by
  have hc := c.toNat_lt
  omega
theorem bits_byte (c : UInt8) (x : Int) : bits .xor .u32 x ((c.toNat : Int) % 4294967296) = bits .xor .u32 x (c.toNat : Int) := by
  rw [byte_mod]
theorem sumStep_of {x : Nat} (c : UInt8) {z : Int} (h : z = ((x ^^^ c.toNat : Nat) : Int)) : z * 16777619 % 4294967296 = (sumStep x c : Int) := by
  subst h; exact sumStep_cast x c
theorem sumStep_bits {x : Nat} (c : UInt8) (hx : x < 4294967296) : bits .xor .u32 (x : Int) ((c.toNat : Int) % 4294967296) * 16777619 % 4294967296 = (sumStep x c : Int) := by
  have h : bits .xor .u32 (x : Int) ((c.toNat : Int) % 4294967296) = ((x ^^^ c.toNat : Nat) : Int) := (bits_byte c _).trans (xor_bits c hx)
  exact sumStep_of c h

theorem take_snoc (s : ByteArray) (k : Nat) (h : k < s.size) : s.data.toList.take (k + 1) = s.data.toList.take k ++ [s[k]] := by
  rw [List.take_succ_eq_append_getElem (by simpa using h)]; rfl
theorem sumL_snoc (s : ByteArray) (k : Nat) (h : k < s.size) : sumL (s.data.toList.take (k + 1)) = sumStep (sumL (s.data.toList.take k)) s[k] := by
  rw [take_snoc s k h]; unfold sumL; rw [List.foldl_append, List.foldl_cons, List.foldl_nil]

/-- What a conversion of a string to bytes leaves. -/
theorem conv_bytes {P : Program} (w : World) (src dst e : TypeId) (s : ByteArray) (hs : P.underlying src = some .string) (hd : P.underlying dst = some (.slice e)) (he : P.underlying e = some (.int .u8)) :
    ∃ W cap, (convert src dst (.string s)).run P w = .ok (.slice (some ⟨w.heap.size, 0, none⟩) s.size cap) W ∧ (∀ k (h : k < s.size), W.cell? ⟨w.heap.size, k, none⟩ = some (bv s[k])) ∧ Below w.heap.size w W ∧ s.size ≤ cap := by
  refine ⟨_, _, run_bytes_of_string w src dst e s hs hd he, fun k hk => ?_, ((Below.refl _ w).drew).alloc (Nat.le_refl _) _, grownCap_ge _ _ _ _⟩
  have h := cell_of_row (w.drew.alloc (.cells (bytesRow s (grownCap w s.size 0 e)) e ((bytesRow s (grownCap w s.size 0 e)).size, (bytesRow s (grownCap w s.size 0 e)).size + 1))) w.heap.size k _ _ _ (heap_alloc_new w.drew _)
  rw [h, bytesRow_at s _ k hk]
  rfl

set_option maxRecDepth 100000 in
set_option maxHeartbeats 400000 in
theorem sum_any (s : ByteArray) (w : World) (hs : s.size ≤ maxLen) :
    Calls Try.prog 21 #[.string s] w fun e w' => e = .returned (.int .i64 (sumL s.data.toList : Int)) ∧ Below w.heap.size w w' := by
  obtain ⟨W, cap, hcv, hcells, hbel, hcap⟩ := conv_bytes (P := Try.prog) w 9 30 5 s Try.underlying9 Try.underlying30 Try.underlying5
  have HC := Lib.hid hcells; clear hcells
  unfold maxLen at hs
  go_enter Try.func21, Try.ntmps21
  go_wp2
  clear hcv
  go_loop [3, 9] (fun x i => ∃ (k n : Nat), k ≤ s.size ∧ i = .int .i64 k ∧ x = .int .u32 n ∧ n < 4294967296 ∧ Hid (n = sumL (s.data.toList.take k))) (fun _ i => s.size - (intOf i).toNat)
  case atStart => exact ⟨0, 2166136261, by omega, rfl, rfl, by omega, Lib.hid (by simp [sumL])⟩
  case round =>
    obtain ⟨k, n, hk, rfl, rfl, hn, HN⟩ := hrel
    by_cases hlt : k < s.size
    · have hc := HC.out k hlt
      unfold bv at hc
      go_wp2
      go_round
      case rel => exact ⟨k + 1, sumStep n s[k], by omega, by go_num, by rw [sumStep_bits _ hn], sumStep_lt _ _, Lib.hid (by rw [sumL_snoc s k hlt, ← HN.out])⟩
      case measure => simp [intOf]; omega
    · go_wp2
      go_ret
      refine ⟨?_, hbel⟩
      have h := HN.out
      rw [List.take_of_length_le (by simp; omega)] at h
      rw [← h]
      first | rfl | go_num

set_option maxRecDepth 100000 in
set_option maxHeartbeats 400000 in
theorem refSum_any (s : ByteArray) (w : World) (hs : s.size ≤ maxLen) :
    Calls Try.prog 33 #[.string s] w fun e w' => e = .returned (.int .i64 (sumL s.data.toList : Int)) ∧ w = w' := by
  unfold maxLen at hs
  go_enter Try.func33, Try.ntmps33
  go_wp2
  go_loop [3, 4] (fun x i => ∃ (k n : Nat), k ≤ s.size ∧ i = .int .i64 k ∧ x = .int .u32 n ∧ n < 4294967296 ∧ Hid (n = sumL (s.data.toList.take k))) (fun _ i => s.size - (intOf i).toNat)
  case atStart => exact ⟨0, 2166136261, by omega, rfl, rfl, by omega, Lib.hid (by simp [sumL])⟩
  case round =>
    obtain ⟨k, n, hk, rfl, rfl, hn, HN⟩ := hrel
    by_cases hlt : k < s.size
    · go_wp2
      go_round
      case rel => exact ⟨k + 1, sumStep n s[k], by omega, by go_num, by rw [sumStep_bits _ hn], sumStep_lt _ _, Lib.hid (by rw [sumL_snoc s k hlt, ← HN.out])⟩
      case measure => simp [intOf]; omega
    · go_wp2
      go_ret
      refine ⟨?_, rfl⟩
      have h := HN.out
      rw [List.take_of_length_le (by simp; omega)] at h
      rw [← h]
      first | rfl | go_num
end Go.Proofs.Ytmbphpocbajlmaa
