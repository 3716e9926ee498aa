/-
  The walk of PackedPut.
-/
import Derived.Test.YtmbphpocbajlmaaRefPutSpans
import Derived.Test.YtmbphpocbajlmaaL3Int
import Derived.Test.YtmbphpocbajlmaaPkSum
namespace Go.Proofs.Ytmbphpocbajlmaa
open Go.RowKit ND

set_option maxRecDepth 100000 in
set_option maxHeartbeats 1000000 in
theorem PackedPut_walk (W : World) (b : ByteArray) (hb : b.size ≤ 1048576) (v : Int) (hv : -9223372036854775808 ≤ v ∧ v ≤ 9223372036854775807) (l : Value) (xs : List Int) (hl : Ints W W.heap.size .i64 l xs) (_hx : ∀ x ∈ xs, -9223372036854775808 ≤ x ∧ x ≤ 9223372036854775807) (hxl : xs.length ≤ 1048576)
    (x : Value) (ss : List Sp) (hs : Spans W W.heap.size x ss) (_hsl : ss.length ≤ 1048576) (sh : Int) (_hsh : -9223372036854775808 ≤ sh ∧ sh ≤ 9223372036854775807) :
    Calls Try.prog 9 #[.string b, .int .i64 v, l, x, .int .i64 sh] W fun e W' => e = .returned (.bool true) ∧ Below W.heap.size W W' := by
  have h1 := Lib.hid (fun w (h : Ints w w.heap.size .i64 l xs) => putList_any b l xs w h (by omega))
  have h2 := Lib.hid (fun w (h : Ints w w.heap.size .i64 l xs) => refPutList_any b l xs w h (by omega))
  have h3 := Lib.hid (fun w (h : Spans w w.heap.size x ss) => putSpans_any b x ss w h (by omega))
  have h4 := Lib.hid (fun w (h : Spans w w.heap.size x ss) => refPutSpans_any b x ss w h (by omega))
  have h5 := Lib.hid (fun w => putInt_any b v w (by omega) hv.1 hv.2)
  have h6 := Lib.hid (fun w => refPutInt_any b v w (by omega) hv.1 hv.2)
  have h7 := Lib.hid (fun w => putInt_any ⟨#[]⟩ (shr v sh) w (by decide) (shr_in sh hv).1 (shr_in sh hv).2)
  have h8 := Lib.hid (fun w => refPutInt_any ⟨#[]⟩ (shr v sh) w (by decide) (shr_in sh hv).1 (shr_in sh hv).2)
  have h9 := Lib.hid (fun w => sum_any b w (by unfold maxLen; omega))
  have h10 := Lib.hid (fun w => refSum_any b w (by unfold maxLen; omega))
  generalize putList b.data.toList xs = r1 at *
  generalize putSpans b.data.toList ss = r2 at *
  obtain ⟨p1, e1⟩ := r1
  obtain ⟨p2, e2⟩ := r2
  generalize putInt b.data.toList v = r3 at *
  generalize sumL b.data.toList = r4 at *
  generalize hr5 : putInt (⟨#[]⟩ : ByteArray).data.toList (shr v sh) = r5 at *
  clear hr5 _hx hxl _hsl hb
  have HL := Lib.hid hl
  have HS := Lib.hid hs
  clear hl hs
  go_enter Try.func9, Try.ntmps9
  go_wp2_with fail
  refine (pick_any _ _ _ (by decide) (by decide)).mono ?_
  rintro e w' ⟨rfl, rfl⟩
  have hp := pick_in sh (n := 64) (by decide)
  go_wp2_with fail
  rw [show v / 2 ^ (pick sh 64).toNat = shr v sh from rfl]
  generalize shr v sh = y at *
  clear hp hv
  refine (h1.out _ HL.out).mono ?_
  rintro e w1 ⟨rfl, b1⟩
  have HL1 := Lib.hid (HL.out.later b1)
  have HS1 := Lib.hid (HS.out.later b1)
  clear h1 HL HS
  go_wp2_with fail
  refine (h2.out _ HL1.out).mono ?_
  rintro e w2 ⟨rfl, b2⟩
  have B2 := below_next b1 b2
  have HS2 := Lib.hid (HS1.out.later b2)
  clear h2 HL1 HS1 b1 b2
  go_wp2_with fail
  refine (h3.out _ HS2.out).mono ?_
  rintro e w3 ⟨rfl, b3⟩
  have B3 := below_next B2 b3
  have HS3 := Lib.hid (HS2.out.later b3)
  clear h3 HS2 B2 b3
  go_wp2_with fail
  refine (h4.out _ HS3.out).mono ?_
  rintro e w4 ⟨rfl, b4⟩
  have B4 := below_next B3 b4
  clear h4 HS3 B3 b4
  go_wp2_with fail
  refine (awake3 _).mono ?_
  rintro e w5 ⟨rfl, b5⟩
  have B5 := below_next B4 b5
  go_wp2_with fail
  refine (h5.out _).mono ?_
  rintro e w6 ⟨rfl, b6⟩
  have B6 := below_next B5 b6
  go_wp2_with fail
  refine (h6.out _).mono ?_
  rintro e w7 ⟨rfl, b7⟩
  have B7 := below_next B6 b7
  clear B4 B5 B6 b5 b6 b7
  go_wp2_with fail
  refine (h7.out _).mono ?_
  rintro e w8 ⟨rfl, b8⟩
  have B8 := below_next B7 b8
  go_wp2_with fail
  refine (h8.out _).mono ?_
  rintro e w9 ⟨rfl, b9⟩
  have B9 := below_next B8 b9
  go_wp2_with fail
  refine (h9.out _).mono ?_
  rintro e w10 ⟨rfl, b10⟩
  have B10 := below_next B9 b10
  go_wp2_with fail
  refine (h10.out _).mono ?_
  rintro e w11 ⟨rfl, rfl⟩
  go_wp2_with fail
  go_ret
  exact ⟨by simp, B10⟩
end Go.Proofs.Ytmbphpocbajlmaa
