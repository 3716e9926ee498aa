/-
  The walk of UtfWhole.
-/
import Derived.Test.YtmbphpocbajlmaaL1Awake
namespace Go.Proofs.Ytmbphpocbajlmaa
open Go.RowKit ND

theorem encAll_ge (cs : List Int) (h : ∀ c ∈ cs, scalarB c = true) : cs.length ≤ (encAll cs).length := by
  induction cs with
  | nil => simp
  | cons c cs ih =>
    have h1 := lenC_encC (h c (by simp))
    have h2 := ih (fun x hx => h x (by simp [hx]))
    simp only [encAll, List.flatMap_cons, List.length_append, List.length_cons] at h2 ⊢
    omega
theorem scan_len (l : List UInt8) : (scanL l).1.length ≤ (scanL l).2 ∧ (scanL l).2 ≤ l.length := by
  obtain ⟨h1, h2, h3⟩ := scanL_le l.length l (Nat.le_refl _)
  have h4 := encAll_ge _ h3
  rw [h2, List.length_take] at h4
  exact ⟨by omega, h1⟩
theorem whole_ok {l : List UInt8} (h : l.length ≤ 4096) (h2 : l.length ≤ (scanL l).2) : encodeL (scanL l).1 = (l, 0) := by
  obtain ⟨a1, a2, a3⟩ := scanL_le l.length l (Nat.le_refl _)
  have hl := scan_len l
  rw [encodeL_ok (by omega) a3, a2, List.take_of_length_le h2]
theorem whole_bad {l : List UInt8} (h : l.length ≤ 4096) : decodeL (l.take (scanL l).2) = ((scanL l).1, 0, 0) ∧ encodeL (scanL l).1 = (l.take (scanL l).2, 0) := by
  obtain ⟨a1, a2, a3⟩ := scanL_le l.length l (Nat.le_refl _)
  have hl := scan_len l
  have hs : scanL (l.take (scanL l).2) = ((scanL l).1, (scanL l).2) := by
    rw [← a2, scanL_all _ a3, a2, List.length_take]; congr 1; omega
  refine ⟨?_, by rw [encodeL_ok (by omega) a3, a2]⟩
  rw [decodeL_ok (by rw [List.length_take]; omega) (by rw [hs, List.length_take]; simp only; omega), hs]
theorem string_of {l : List UInt8} {t : ByteArray} (h : l = t.data.toList) : (⟨l.toArray⟩ : ByteArray).toList = t.toList := by
  rw [Lib.toList_data, Lib.toList_data, h]

set_option maxRecDepth 100000 in
set_option maxHeartbeats 2000000 in
theorem UtfWhole_walk (W : World) (s : ByteArray) (hs : s.size ≤ 140737488351232) (v : Value) (xs : List Int) (hv : Ints W W.heap.size .u8 v xs) (hx : ∀ x ∈ xs, 0 ≤ x ∧ x ≤ 255) (_hl : xs.length * 1 ≤ 140737488351232) :
    Calls Try.prog 13 #[.string s, v] W fun e W' => e = .returned (.bool true) ∧ Below W.heap.size W W' := by
  obtain ⟨A, c, rfl, hc1, hc2, _, hcell⟩ := hv
  have HC := Lib.hid hcell; clear hcell
  have HX := Lib.hid hx; clear hx
  have hc2' : c ≤ 9223372036854775807 := by unfold maxLen at hc2; omega
  clear hc2
  go_enter Try.func13, Try.ntmps13
  go_wp2_with fail
  go_loopw [5, 6] (fun t i wr => ∃ (k : Nat) (u : ByteArray), k ≤ xs.length ∧ k ≤ 20 ∧ i = .int .i64 k ∧ t = .string u ∧ u.size ≤ s.size + k ∧ Below W.heap.size W wr) (fun _ i _ => xs.length - (intOf i).toNat)
  case atStart => exact ⟨0, s, by omega, by omega, rfl, rfl, by omega, Below.refl _ _⟩
  case round =>
    obtain ⟨k, u, hk, hk2, rfl, rfl, hu, hbel⟩ := hrel
    by_cases hlt : k < xs.length ∧ k < 20
    · obtain ⟨hlt, hlt2⟩ := hlt
      obtain ⟨x, hxk, hxm⟩ := get_of hlt
      obtain ⟨ad, rfl, hb, hce⟩ := HC.out k x hxk
      have hxr := HX.out x hxm
      have hce' := (hbel.cell (p := ad.add k) (by rw [block_of_add]; exact hb)).trans hce
      clear hce hxk hxm
      have hcv := conv_one (P := Try.prog) wr 30 9 5 x Try.underlying30 Try.underlying5 Try.underlying9 hxr.1 hxr.2
      go_wp2_with fail
      go_roundw
      case rel => exact ⟨k + 1, _, by omega, by omega, by go_num, rfl, by rw [ByteArray.size_append]; exact (show _ ≤ (s.size + k) + 1 from Nat.add_le_add hu (Nat.le_refl 1)), hbel.alloc hbel.size _⟩
      case measure => simp [intOf]; omega
    · have hd : (k < xs.length ∧ 20 ≤ k) ∨ xs.length ≤ k := by omega
      clear hlt
      by_cases hbig : 4096 < u.size
      · rcases hd with ⟨hd, hd'⟩ | hd
        all_goals
          go_wp2_with fail
          refine (awake1 _).mono ?_
          rintro e w1 ⟨rfl, b1⟩
          go_wp2_with fail
          go_ret
          exact ⟨by simp, below_next hbel b1⟩
      · have hul := size_list u
        have hsmall : u.data.toList.length ≤ 4096 := by omega
        have hval := Lib.hid (fun w => decValid_any u w (by omega))
        by_cases hok : u.size ≤ (scanL u.data.toList).2
        · have hdec := Lib.hid (fun w => dec_any u w)
          rw [decodeL_ok hsmall (by omega)] at hdec
          have hw := whole_ok hsmall (by omega)
          have hle := (scan_len u.data.toList).2
          have hb : ((((scanL u.data.toList).2 : Nat) : Int) == (u.size : Int)) = true := beq_iff_eq.2 (by omega)
          rw [hb] at hval
          have henc := Lib.hid (fun v w hv => enc_any v (scanL u.data.toList).1 w hv)
          rw [hw] at henc
          have hst := string_of (l := u.data.toList) (t := u) rfl
          generalize (⟨u.data.toList.toArray⟩ : ByteArray) = S at *
          have hst2 : (S.toList == u.toList) = true := beq_iff_eq.2 hst
          generalize (scanL u.data.toList).1 = cs at *
          clear hst hw hle hb hul hsmall hok
          rcases hd with ⟨hd, hd'⟩ | hd
          all_goals
            go_wp2_with fail
            refine (hdec.out _).mono ?_
            rintro e w1 ⟨v1, rfl, hv1, b1⟩
            have HV1 := Lib.hid hv1; clear hv1
            go_wp2_with fail
            refine (henc.out v1 w1 HV1.out).mono ?_
            rintro e w2 ⟨rfl, b2⟩
            have B2 := below_next hbel (below_next b1 b2)
            clear b1 b2 HV1
            go_wp2_with fail
            refine (awake1 _).mono ?_
            rintro e w3 ⟨rfl, b3⟩
            have B3 := below_next B2 b3
            clear B2 b3
            go_wp2_with fail
            refine (hval.out _).mono ?_
            rintro e w4 ⟨rfl, b4⟩
            go_wp2_with fail
            go_ret
            exact ⟨by simp, below_next B3 b4⟩
        · have hdec := Lib.hid (fun w => dec_any u w)
          rw [decodeL_bad hsmall (by omega)] at hdec
          have hw := whole_bad hsmall
          have hlt : (scanL u.data.toList).2 < u.size := by omega
          have hb : ((((scanL u.data.toList).2 : Nat) : Int) == (u.size : Int)) = false := beq_eq_false_iff_ne.2 (by omega)
          rw [hb] at hval
          have henc := Lib.hid (fun v w hv => enc_any v (scanL u.data.toList).1 w hv)
          have hdec2 := Lib.hid (fun w => dec_any (u.extract 0 (scanL u.data.toList).2) w)
          have hx : (u.extract 0 (scanL u.data.toList).2).data.toList = u.data.toList.take (scanL u.data.toList).2 := by rw [Lib.extract_data]; simp
          rw [hx, hw.1] at hdec2
          rw [hw.2] at henc
          have hst := string_of hx.symm
          generalize (⟨(u.data.toList.take (scanL u.data.toList).2).toArray⟩ : ByteArray) = S at *
          generalize (scanL u.data.toList).1 = cs at *
          generalize (scanL u.data.toList).2 = p at *
          have hst2 : (S.toList == (u.extract 0 p).toList) = true := beq_iff_eq.2 hst
          have HS3 : Hid (u.data.toList.take p = (u.extract 0 p).toList) := Lib.hid (by rw [Lib.toList_data, hx])
          clear hst hw hb hul hsmall hok hx
          rcases hd with ⟨hd, hd'⟩ | hd
          all_goals
            go_wp2_with fail
            refine (hdec.out _).mono ?_
            rintro e w1 ⟨v1, rfl, hv1, b1⟩
            have B1 := below_next hbel b1
            clear hv1 b1 hbel
            go_wp2_with fail
            refine (hval.out _).mono ?_
            rintro e w2 ⟨rfl, b2⟩
            have B2 := below_next B1 b2
            clear B1 b2
            go_wp2_with fail
            refine (hdec2.out _).mono ?_
            rintro e w3 ⟨v3, rfl, hv3, b3⟩
            have HV3 := Lib.hid hv3; clear hv3
            have B3 := below_next B2 b3
            clear B2 b3
            go_wp2_with fail
            refine (henc.out v3 w3 HV3.out).mono ?_
            rintro e w4 ⟨rfl, b4⟩
            have B4 := below_next B3 b4
            clear B3 b4
            go_wp2_with fail
            refine (awake1 _).mono ?_
            rintro e w5 ⟨rfl, b5⟩
            go_wp2_with fail
            go_ret
            exact ⟨by simp; exact HS3.out, below_next B4 b5⟩
end Go.Proofs.Ytmbphpocbajlmaa
