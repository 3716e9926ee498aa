/-
  The walk of UtfConcatenation.
-/
import Derived.Test.YtmbphpocbajlmaaL1Awake
import Derived.Test.YtmbphpocbajlmaaPointsL
import Derived.Test.YtmbphpocbajlmaaAppend
namespace Go.Proofs.Ytmbphpocbajlmaa
open Go.RowKit ND


theorem Ints.grownB {w w' : World} {B : Nat} {k : IntKind} {v : Value} {xs : List Int} {row : Option Nat} (h : Ints w B k v xs) (hg : w.grownBy w' row) (hB : B ≤ w.heap.size) (hr : ∀ g, row = some g → B ≤ g) : Ints w' B k v xs :=
  h.keep fun p hp => World.cell?_of_block (hg.block p.block (by omega) (fun e => by have := hr _ e.symm; omega))

/-- What Encode makes of scalar values, and what Decode makes of that. -/
theorem enc_string (ys : List Int) (h : ys.length ≤ 1000) (hs : ∀ c ∈ ys, scalarB c = true) : ∃ S : ByteArray, encodeL ys = (S.data.toList, 0) ∧ S.data.toList = encAll ys ∧ S.size ≤ 4 * ys.length ∧ decodeL S.data.toList = (ys, 0, 0) := by
  refine ⟨⟨(encAll ys).toArray⟩, encodeL_ok (by omega) hs, rfl, ?_, ?_⟩
  · have := encAll_len ys
    rw [← size_list]; exact this
  · show decodeL (encAll ys) = _
    have hl := encAll_len ys
    rw [decodeL_ok (by omega) (by rw [scanL_all ys hs]; exact Nat.le_refl _), scanL_all ys hs]
theorem enc_both {a b : ByteArray} {ys zs : List Int} (ha : a.data.toList = encAll ys) (hb : b.data.toList = encAll zs) (h : ys.length + zs.length ≤ 1000) (hs : ∀ c ∈ ys, scalarB c = true) (ht : ∀ c ∈ zs, scalarB c = true) :
    decodeL (a ++ b).data.toList = (ys ++ zs, 0, 0) := by
  have e : (a ++ b).data.toList = encAll (ys ++ zs) := by
    rw [show (a ++ b).data.toList = a.data.toList ++ b.data.toList by simp, ha, hb]; simp [encAll]
  have hall : ∀ c ∈ ys ++ zs, scalarB c = true := fun c hc => (List.mem_append.1 hc).elim (hs c) (ht c)
  rw [e]
  have hl := encAll_len (ys ++ zs)
  rw [List.length_append] at hl
  rw [decodeL_ok (by omega) (by rw [scanL_all _ hall]; exact Nat.le_refl _), scanL_all _ hall]

set_option maxRecDepth 100000 in
set_option maxHeartbeats 1000000 in
theorem UtfConcatenation_walk (W : World) (v : Value) (xs : List Int) (hv : Ints W W.heap.size .i64 v xs) (_hx : ∀ x ∈ xs, -9223372036854775808 ≤ x ∧ x ≤ 9223372036854775807) (_hl : xs.length * 8 ≤ 140737488351232)
    (u : Value) (ms : List Int) (hu : Ints W W.heap.size .i64 u ms) (_hm : ∀ x ∈ ms, -9223372036854775808 ≤ x ∧ x ≤ 9223372036854775807) (_hk : ms.length * 8 ≤ 140737488351232) :
    Calls Try.prog 7 #[v, u] W fun e W' => e = .returned (.bool true) ∧ Below W.heap.size W W' := by
  obtain ⟨i0, hi, hz0, hz1, hz2⟩ := info_parts Try.infoInt2
  clear _hx _hl _hm
  have HU := Lib.hid hu; clear hu
  go_enter Try.func7, Try.ntmps7
  go_wp2_with fail
  refine (points_any W v xs hv).mono ?_
  rintro e w1 ⟨v1, ys, rfl, hI1, hl1, hs1, b1⟩
  clear hv
  obtain ⟨S, hS1, hS2, hS3, hS4⟩ := enc_string ys (by omega) hs1
  have HE := Lib.hid (fun w (h : Ints w w.heap.size .i64 v1 ys) => refEnc_any v1 ys w h)
  rw [hS1] at HE
  have HS1 := Lib.hid hs1
  have HS2 := Lib.hid hS2
  have HS4 := Lib.hid hS4
  clear hs1 hS1 hS2 hS4
  go_wp2_with fail
  refine (HE.out _ hI1).mono ?_
  rintro e w2 ⟨rfl, b2⟩
  have B2 := below_next b1 b2
  have hu2 := HU.out.later B2
  clear hI1 b1 b2 HE HU
  go_wp2_with fail
  refine (points_any w2 u ms hu2).mono ?_
  rintro e w3 ⟨v3, zs, rfl, hI3, hl3, hs3, b3⟩
  have B3 := below_next B2 b3
  clear hu2 B2 b3
  obtain ⟨T, hT1, hT2, hT3, hT4⟩ := enc_string zs (by omega) hs3
  have hboth := enc_both HS2.out hT2 (by omega) HS1.out hs3
  have HE := Lib.hid (fun w (h : Ints w w.heap.size .i64 v3 zs) => refEnc_any v3 zs w h)
  rw [hT1] at HE
  have HD1 := Lib.hid (fun w => dec_any S w)
  have HD2 := Lib.hid (fun w => dec_any T w)
  have HD3 := Lib.hid (fun w => dec_any (S ++ T) w)
  rw [HS4.out] at HD1
  rw [hT4] at HD2
  rw [hboth] at HD3
  have hadd := fun w => run_string_add_sum (P := Try.prog) w S T (by omega)
  clear hs3 hT1 hT2 hT4 hboth HS1 HS2 HS4
  go_wp2_with fail
  refine (HE.out _ hI3).mono ?_
  rintro e w4 ⟨rfl, b4⟩
  have B4 := below_next B3 b4
  clear HE hI3 B3 b4
  go_wp2_with fail
  refine (HD1.out _).mono ?_
  rintro e w5 ⟨x5, rfl, h5, b5⟩
  have B5 := below_next B4 b5
  have HX5 := Lib.hid h5
  clear HD1 B4 b5 h5
  go_wp2_with fail
  refine (HD2.out _).mono ?_
  rintro e w6 ⟨x6, rfl, h6, b6⟩
  have B6 := below_next B5 b6
  have HX6 := Lib.hid (HX5.out.later b6)
  have HY6 := Lib.hid h6
  clear HD2 B5 b6 h6 HX5
  go_wp2_with fail
  refine (HD3.out _).mono ?_
  rintro e w7 ⟨x7, rfl, h7, b7⟩
  have B7 := below_next B6 b7
  have HX7 := Lib.hid (HX6.out.later b7)
  have HY7 := Lib.hid (HY6.out.later b7)
  have HZ7 := Lib.hid h7
  clear HD3 B6 b7 h7 HX6 HY6
  go_wp2_with fail
  refine (awake1 _).mono ?_
  rintro e w8 ⟨rfl, b8⟩
  have B8 := below_next B7 b8
  have HX8 := Lib.hid (HX7.out.later b8)
  have HY8 := Lib.hid (HY7.out.later b8)
  have HZ8 := Lib.hid (HZ7.out.later b8)
  clear B7 b8 HX7 HY7 HZ7
  go_wp2_with (first
    | (at_builtin
       refine wpList_append_ints (by rfl) (.const (.slice none 0 0)) (.tmp 65) rfl Try.underlying35 hi hz0 hz1 hz2 w8.heap.size w8.heap.size (.slice none 0 0) [] _ ys rfl (World.ownsRow_nil _ _ _ _) rfl HX8.out (by simp; omega) (Nat.le_refl _) ?_
       intro v9 w9 hown9 hg9
       have HO9 := Lib.hid hown9
       have HY9 := Lib.hid (HY8.out.grownB hg9 (Nat.le_refl _) (by simp [Value.ownBlock]))
       have HZ9 := Lib.hid (HZ8.out.grownB hg9 (Nat.le_refl _) (by simp [Value.ownBlock]))
       have B9 := B8.grown hg9 B8.size (by simp [Value.ownBlock])
       have hs9 : w8.heap.size ≤ w9.heap.size := hg9.size
       clear hown9 hg9 HY8 HZ8)
    | (at_builtin
       refine wpList_append_ints (by rfl) (.tmp 66) (.tmp 67) rfl Try.underlying35 hi hz0 hz1 hz2 w8.heap.size w8.heap.size v9 ([] ++ ys) _ zs rfl HO9.out rfl HY9.out (by simp; omega) hs9 ?_
       intro v10 w10 hown10 hg10
       have hb9 : ∀ k, v9.ownBlock = some k → w8.heap.size ≤ k := fun k hk => (HO9.out.lt k hk).1
       have HZ10 := Lib.hid (HZ9.out.grownB hg10 hs9 hb9)
       have HO10 := Lib.hid (Ints.of_own hown10)
       have B10 := B9.grown hg10 B9.size (fun k hk => by have := hb9 k hk; have := B8.size; omega)
       have hs10 := Nat.le_trans hs9 hg10.size
       clear hown10 hg10 HY9 HZ9 HO9 hb9 B8 B9))
  refine (same_any _ _ (ys ++ zs) ([] ++ ys ++ zs) w10 (HZ10.out.more hs10) HO10.out).mono ?_
  rintro e w11 ⟨rfl, b11⟩
  go_wp2_with fail
  go_ret
  exact ⟨by simp, below_next B10 b11⟩
end Go.Proofs.Ytmbphpocbajlmaa
