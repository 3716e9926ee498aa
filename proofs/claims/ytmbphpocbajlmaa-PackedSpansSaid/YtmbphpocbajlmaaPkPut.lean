/-
  The walk through packed.PutInt: it returns what the plain putInt says.
-/
import Derived.Test.YtmbphpocbajlmaaPkPlain
import Derived.Test.YtmbphpocbajlmaaOwnT
import Derived.Test.YtmbphpocbajlmaaProg
import Derived.WalkKit
import Derived.WalkSpells
import Derived.WalkLawsBesides
import Derived.Lib.Hide
namespace Go.Proofs.Ytmbphpocbajlmaa
open Go.RowKit ND

theorem Try.infoU8 : (Try.prog.info? 5).map (fun i => (i.zero, i.size, i.bytes)) = some (some (.int .u8 0), 1, 1) := by kernel_rfl

/-- A byte as a value of the model. -/
def bv (c : UInt8) : Value := .int .u8 (c.toNat : Int)

theorem zz_bits {v : Int} (h0 : -9223372036854775808 ≤ v) (h1 : v ≤ 9223372036854775807) :
    bits .xor .u64 (IntKind.u64.wrap (IntKind.u64.wrap v * 2)) (IntKind.u64.wrap (v / 9223372036854775808)) = (zz v : Int) := by
  rw [IntKind.wrap_u64, IntKind.wrap_u64, IntKind.wrap_u64]
  by_cases h : 0 ≤ v
  · have e1 : v / 9223372036854775808 = 0 := by omega
    have e2 : v % 18446744073709551616 * 2 % 18446744073709551616 = ((zz v : Nat) : Int) := by unfold zz; rw [if_pos h]; omega
    have e3 : (0 : Int) % 18446744073709551616 = ((0 : Nat) : Int) := by omega
    rw [e1, e2, e3, u64_xor_nat _ _ (zz_lt h0 h1) (by omega), Nat.xor_zero]
  · have e1 : v / 9223372036854775808 = -1 := by omega
    have e2 : v % 18446744073709551616 * 2 % 18446744073709551616 = ((18446744073709551615 - zz v : Nat) : Int) := by unfold zz; rw [if_neg h]; omega
    have e3 : (-1 : Int) % 18446744073709551616 = ((18446744073709551615 : Nat) : Int) := by omega
    have hz := zz_lt h0 h1
    rw [e1, e2, e3, u64_xor_nat _ _ (by omega) (by omega)]
    have hx : ∀ (a : Nat), a < 18446744073709551616 → a ^^^ 18446744073709551615 = 18446744073709551615 - a := by
      intro a ha
      have hb : (BitVec.ofNat 64 a ^^^ BitVec.allOnes 64).toNat = a ^^^ 18446744073709551615 := by
        rw [BitVec.toNat_xor, BitVec.toNat_ofNat, Nat.mod_eq_of_lt (by omega)]
        have : (BitVec.allOnes 64).toNat = 18446744073709551615 := by decide +kernel
        rw [this]
      rw [← hb, BitVec.xor_allOnes, BitVec.toNat_not, BitVec.toNat_ofNat, Nat.mod_eq_of_lt (by omega)]
    rw [hx _ (by omega)]
    omega

theorem u8_low {n : Nat} (h : n < 128) : Value.int .u8 (n : Int) = bv (UInt8.ofNat n) := by
  unfold bv; rw [u8_ofNat_toNat (by omega)]
theorem u8_high (n : Nat) : bits .or .u8 (IntKind.u8.wrap (n : Int)) 128 = (((UInt8.ofNat (n % 128 + 128)).toNat : Nat) : Int) := by
  rw [IntKind.wrap_u8, u8_ofNat_toNat (by omega)]
  have e : (n : Int) % 256 = ((n % 256 : Nat) : Int) := by omega
  rw [e]
  have h := u8_or_nat (n % 256) 128 (by omega) (by omega)
  have h' : n % 256 ||| 128 = n % 128 + 128 := by
    have hall : ∀ m : Fin 256, m.val ||| 128 = m.val % 128 + 128 := by decide +kernel
    have := hall ⟨n % 256, by omega⟩
    simp only at this
    omega
  rw [h'] at h
  exact h

theorem ownsT_bytes (w : World) (B : Nat) (e : TypeId) (s : ByteArray) (cap : Nat) (hB : B ≤ w.heap.size) (h1 : s.size ≤ cap) (h2 : cap ≤ maxLen) :
    ownsT (w.alloc (.cells (bytesRow s cap) e ((bytesRow s cap).size, (bytesRow s cap).size + 1))) B e 1 (.slice (some ⟨w.heap.size, 0, none⟩) s.size cap) s.data.toList.length (s.data.toList.map bv) := by
  have hl : s.data.toList.length = s.size := by simp
  have hsz : (bytesRow s cap).size = cap := by unfold bytesRow; simp; omega
  refine ⟨by simp, .inr ⟨w.heap.size, cap, bytesRow s cap, _, by rw [hl], hB, heap_alloc_new w _, .inr (Nat.le_refl _), by omega, h2, by omega, ?_⟩⟩
  rw [hl, Nat.mul_one]
  unfold bytesRow
  rw [Array.toList_append, List.take_append_of_le_length (by simp)]
  rw [List.take_of_length_le (by simp)]
  simp only [Array.toList_map]
  rfl

/-- The bytes of an owned row, as a string. -/
theorem bytes_of_ownsT {w : World} {P : Program} {B : Nat} {e : TypeId} {v : Value} {l : List UInt8} (src dst : TypeId) (h : ownsT w B e 1 v l.length (l.map bv)) (hs : P.underlying src = some (.slice e)) (he : P.underlying e = some (.int .u8)) (hd : P.underlying dst = some .string) :
    (convert src dst v).run P w = .ok (.string ⟨l.toArray⟩) w := by
  rcases h.2 with ⟨rfl, hn⟩ | ⟨g, cap, cur, fz, rfl, hb, hgg, _⟩
  · have : l = [] := List.eq_nil_of_length_eq_zero hn
    subst this
    rw [run_convert_bytes_string w src dst e none 0 0 hs he hd]; rfl
  · refine run_convert_bytes_back w src dst e _ cap l hs he hd (fun j hj => ?_)
    exact ownsT_cells h (g := g) rfl j _ (by simp [hj, bv])

/-- A string of the bytes that a new block holds. -/
theorem conv_new {P : Program} (w : World) (src dst e : TypeId) (l : List UInt8) (cells : List Value) (n : Nat) (hs : P.underlying src = some (.slice e)) (he : P.underlying e = some (.int .u8)) (hd : P.underlying dst = some .string) (hc : cells = l.map bv) (hn : l.length = n) :
    (convert src dst (.slice (some ⟨w.heap.size, 0, none⟩) n n)).run P (w.alloc (.cells cells.toArray e)) = .ok (.string ⟨l.toArray⟩) (w.alloc (.cells cells.toArray e)) := by
  subst hn; subst hc
  refine run_convert_bytes_back _ src dst e _ _ l hs he hd (fun j hj => ?_)
  have hadd : (⟨w.heap.size, 0, none⟩ : Addr).add j = ⟨w.heap.size, j, none⟩ := by unfold Addr.add; split <;> simp_all
  rw [hadd, cell_of_row (w.alloc (.cells (l.map bv).toArray e)) w.heap.size j _ _ _ (heap_alloc_new w _)]
  simp [hj, bv]

set_option maxRecDepth 100000 in
set_option maxHeartbeats 400000 in
theorem putInt_any (b : ByteArray) (v : Int) (w : World) (hs : b.size ≤ 140737488355318) (h0 : -9223372036854775808 ≤ v) (h1 : v ≤ 9223372036854775807) :
    Calls Try.prog 18 #[.string b, .int .i64 v] w fun e w' => e = .returned (.string ⟨(putInt b.data.toList v).toArray⟩) ∧ Below w.heap.size w w' := by
  obtain ⟨i0, hi, hz0, hz1, hz2⟩ := info_parts Try.infoU8
  have hcv := fun w => run_bytes_of_string (P := Try.prog) w 9 30 5 b Try.underlying9 Try.underlying30 Try.underlying5
  have HZ := Lib.hid (zz_bits h0 h1)
  have hzl := zz_lt h0 h1
  obtain ⟨R, hR⟩ : ∃ R, putInt b.data.toList v = R := ⟨_, rfl⟩
  rw [hR]
  have HR : Hid (b.data.toList ++ encU 9 (zz v) = R) := hR
  clear hR
  go_enter Try.func18, Try.ntmps18
  go_wp2
  rw [HZ.out]
  clear HZ hcv
  go_loopw [5, 6] (fun u out wr => ∃ (f n : Nat) (acc : List UInt8), u = .int .u64 n ∧ ownsT wr w.heap.size 5 1 out acc.length (acc.map bv) ∧ n < 18446744073709551616 ∧ f ≤ 9 ∧ Hid (n * 2 ^ (7 * (9 - f)) < 18446744073709551616) ∧
      Hid (acc ++ encU f n = R) ∧ acc.length + f ≤ b.size + 9 ∧ Below w.heap.size w wr) (fun u _ _ => (intOf u).toNat)
  case atStart =>
    refine ⟨9, zz v, b.data.toList, rfl, ?_, hzl, by omega, Lib.hid (by simpa using hzl), HR, by simp, ?_⟩
    · exact ownsT_bytes w.drew w.heap.size _ b _ (Nat.le_refl _) (grownCap_ge _ _ _ _) (grownCap_le_maxLen _ _ _ _ (by unfold maxLen; omega))
    · exact ((Below.refl _ w).drew).alloc (Nat.le_refl _) _
  case round =>
    obtain ⟨f, n, acc, rfl, hown, hn, hf, HB, HU, hlen, hbel⟩ := hrel
    by_cases hge : 128 ≤ n
    · have hf0 : f ≠ 0 := by
        intro h; subst h
        have := HB.out; omega
      go_wp2_with (at_builtin; refine wpList_append_ownT _ rfl _ _ 30 rfl w.heap.size 5 i0 (.int .u8 0) 1 1 Try.underlying30 hi hz0 hz1 hz2 rfl (by decide) _ _ _ rfl (ownsT_alloc hown _) ⟨wr.heap.size, 0, none⟩ 1 1 [.int .u8 (bits .or .u8 (IntKind.u8.wrap (n : Int)) 128)] rfl rfl (cell_one_new _ _ _) ?c2 ?c3 ?c4 ?c5 ?_)
      case c2 => intro u hu; simp at hu; subst hu; rfl
      case c3 => unfold maxLen; omega
      case c4 => omega
      case c5 => have := hbel.size; simp; omega
      · intro v' w1 hown1 hgrow
        have hbel1 : Below w.heap.size w w1 := (hbel.alloc hbel.size _).grown hgrow (by have := hbel.size; simp; omega) (fun k hk => (ownsT_lt hown k hk).1)
        clear hgrow hown hbel
        go_wp2
        go_roundw
        case rel =>
          obtain ⟨g, rfl⟩ : ∃ g, f = g + 1 := ⟨f - 1, by omega⟩
          refine ⟨g, n / 128, acc ++ [UInt8.ofNat (n % 128 + 128)], by go_num, ?_, by omega, by omega, Lib.hid ?_, Lib.hid ?_, by simp; omega, hbel1⟩
          · rw [u8_high] at hown1
            simpa [bv] using hown1
          · have hB := HB.out
            have e : 7 * (9 - g) = 7 * (9 - (g + 1) + 1) := by omega
            rw [e, pow7]
            have : n / 128 * (128 * 2 ^ (7 * (9 - (g + 1)))) = n / 128 * 128 * 2 ^ (7 * (9 - (g + 1))) := (Nat.mul_assoc _ _ _).symm
            rw [this]
            exact Nat.lt_of_le_of_lt (Nat.mul_le_mul_right _ (by omega)) hB
          · have h := HU.out
            rw [encU_succ, if_neg (by omega)] at h
            rw [← h]; simp
        case measure => simp [intOf]; omega
    · go_wp2_with (at_builtin; refine wpList_append_ownT _ rfl _ _ 30 rfl w.heap.size 5 i0 (.int .u8 0) 1 1 Try.underlying30 hi hz0 hz1 hz2 rfl (by decide) _ _ _ rfl (ownsT_alloc hown _) ⟨wr.heap.size, 0, none⟩ 1 1 [.int .u8 (n : Int)] rfl rfl (cell_one_new _ _ _) ?d2 ?d3 ?d4 ?d5 ?_)
      case d2 => intro u hu; simp at hu; subst hu; rfl
      case d3 => unfold maxLen; omega
      case d4 => omega
      case d5 => have := hbel.size; simp; omega
      · intro v' w1 hown1 hgrow
        have hbel1 : Below w.heap.size w w1 := (hbel.alloc hbel.size _).grown hgrow (by have := hbel.size; simp; omega) (fun k hk => (ownsT_lt hown k hk).1)
        clear hgrow hown hbel
        rw [u8_low (by omega)] at hown1
        have hcv : (convert 30 9 v').run Try.prog w1 = .ok (.string ⟨(acc ++ [UInt8.ofNat n]).toArray⟩) w1 :=
          bytes_of_ownsT (B := w.heap.size) _ _ (by simpa [bv] using hown1) Try.underlying30 Try.underlying5 Try.underlying9
        have hR : acc ++ [UInt8.ofNat n] = R := by
          have h := HU.out
          cases f with
          | zero => exact h
          | succ f => rw [encU_succ, if_pos (by omega)] at h; exact h
        rw [hR] at hcv
        clear hR hown1 HU
        go_wp2
        go_ret
        exact ⟨rfl, hbel1⟩
end Go.Proofs.Ytmbphpocbajlmaa
