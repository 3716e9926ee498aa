/-
  The walk of PackedSpans.
-/
import Derived.Test.YtmbphpocbajlmaaKeepSpans
import Derived.Test.YtmbphpocbajlmaaSameSpans
import Derived.Test.YtmbphpocbajlmaaPutSpans
import Derived.Test.YtmbphpocbajlmaaL3Int
namespace Go.Proofs.Ytmbphpocbajlmaa
open Go.RowKit ND

theorem nums_len (l : List Sp) : ∀ last, (nums last l).length = 3 * l.length := by
  induction l with
  | nil => intro _; rfl
  | cons s r ih => intro _; simp only [nums, List.length_cons, ih]; omega
theorem putAll_len3 (ds : List Int) : ∀ l : List UInt8, (putAll l ds).length ≤ l.length + 10 * ds.length := by
  induction ds with
  | nil => intro l; simp [putAll]
  | cons d ds ih =>
    intro l
    have h1 := ih (putInt l d)
    have h2 := putInt_len l d
    rw [putAll_cons, List.length_cons]
    omega

set_option maxRecDepth 100000 in
set_option maxHeartbeats 1000000 in
theorem PackedSpans_walk (W : World) (b : ByteArray) (hb : b.size ≤ 140737488351232) (t : ByteArray) (ht : t.size ≤ 140737488351232) (v : Value) (xs : List Int) (hv : Ints W W.heap.size .i64 v xs) (_hx : ∀ x ∈ xs, -9223372036854775808 ≤ x ∧ x ≤ 9223372036854775807) (_hl : xs.length * 8 ≤ 140737488351232) :
    Calls Try.prog 16 #[.string b, .string t, v] W fun e W' => e = .returned (.bool true) ∧ Below W.heap.size W W' := by
  have hm := Lib.hid (keepSpans_any W v xs hv)
  clear _hx _hl hv
  go_enter Try.func16, Try.ntmps16
  go_wp2_with fail
  refine hm.out.mono ?_
  rintro e w1 ⟨v1, acc, rfl, hI1, hl1, hck, hft, b1⟩
  clear hm
  obtain ⟨hp, hg⟩ := getSpans_putSpans b.data.toList t.data.toList acc hck hft
  obtain ⟨S, hS⟩ : ∃ S : ByteArray, S = ⟨(putSpans b.data.toList acc).1.toArray⟩ := ⟨_, rfl⟩
  have hSl : S.data.toList = (putSpans b.data.toList acc).1 := by rw [hS]
  have hSs : S.size ≤ b.size + 200 := by
    rw [← sz_list, hSl, hp]
    have h1 := putAll_len3 (nums 0 acc) (putInt b.data.toList (acc.length : Int))
    have h2 := putInt_len b.data.toList (acc.length : Int)
    rw [nums_len] at h1
    rw [sz_list] at h2
    simp only
    omega
  have hp2 : putSpans b.data.toList acc = (S.data.toList, 0) := by rw [hSl, hp]
  have hap : (S ++ t).data.toList = S.data.toList ++ t.data.toList := by simp
  rw [← hSl, ← hap, sz_list, sz_list] at hg
  have hG := Lib.hid (fun w => getSpans_any (S ++ t) (b.size : Int) w (by rw [ByteArray.size_append]; unfold maxLen; omega))
  rw [hg] at hG
  have HCK := Lib.hid hck
  have HP2 := Lib.hid hp2
  clear hS hSl hp hp2 hg hap hck hft
  have hadd := fun w => run_string_add_sum (P := Try.prog) w S t (by omega)
  have hP := Lib.hid (fun w (h : Spans w w.heap.size v1 acc) => putSpans_any b v1 acc w h (by omega))
  rw [HP2.out] at hP
  clear HP2
  go_wp2_with fail
  refine (hP.out _ hI1).mono ?_
  rintro e w2 ⟨rfl, b2⟩
  have HI2 := Lib.hid (hI1.later b2)
  have B2 := below_next b1 b2
  clear hP hI1 b1 b2
  go_wp2_with fail
  refine (hG.out _).mono ?_
  rintro e w3 ⟨v3, rfl, hv3, b3⟩
  have HI3 := Lib.hid (HI2.out.later b3)
  have HV3 := Lib.hid hv3
  have B3 := below_next B2 b3
  clear hG HI2 hv3 B2 b3
  go_wp2_with fail
  refine (awake3 _).mono ?_
  rintro e w4 ⟨rfl, b4⟩
  have HI4 := Lib.hid (HI3.out.later b4)
  have HV4 := Lib.hid (HV3.out.later b4)
  have B4 := below_next B3 b4
  clear HI3 HV3 B3 b4
  go_wp2_with fail
  refine (sameSpans_any _ _ acc acc w4 HV4.out HI4.out).mono ?_
  rintro e w5 ⟨rfl, b5⟩
  have B5 := below_next B4 b5
  clear HI4 HV4 B4 b5
  go_wp2_with fail
  go_ret
  exact ⟨by simp, B5⟩
end Go.Proofs.Ytmbphpocbajlmaa
