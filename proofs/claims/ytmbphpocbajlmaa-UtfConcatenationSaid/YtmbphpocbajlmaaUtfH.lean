/-
  The walks through Decode, Valid and Encode, of utf and of the reference.
-/
import Derived.Test.YtmbphpocbajlmaaUtfG
namespace Go.Proofs.Ytmbphpocbajlmaa
open Go.RowKit ND

/-- What Decode hands back. -/
def RetDec (w : World) (r : List Int × Nat × Nat) (e : Ending) (w' : World) : Prop :=
  ∃ v, e = .returned (.tuple #[v, .int .i64 r.2.1, .int .i64 r.2.2]) ∧ Ints w' w'.heap.size .i64 v r.1 ∧ Below w.heap.size w w'
/-- What Encode hands back. -/
def RetEnc (w : World) (r : List UInt8 × Nat) (e : Ending) (w' : World) : Prop :=
  e = .returned (.tuple #[.string ⟨r.1.toArray⟩, .int .i64 r.2]) ∧ Below w.heap.size w w'

theorem decodeL_full {l : List UInt8} (h : 4096 < l.length) : decodeL l = ([], 0, 7) := by unfold decodeL; rw [if_pos h]
theorem decodeL_bad {l : List UInt8} (h : l.length ≤ 4096) (h2 : (scanL l).2 < l.length) : decodeL l = ([], (scanL l).2, 9) := by unfold decodeL; rw [if_neg (by omega), if_pos h2]
theorem decodeL_ok {l : List UInt8} (h : l.length ≤ 4096) (h2 : l.length ≤ (scanL l).2) : decodeL l = ((scanL l).1, 0, 0) := by unfold decodeL; rw [if_neg (by omega), if_neg (by omega)]
theorem size_list (s : ByteArray) : s.data.toList.length = s.size := by rw [Array.length_toList]; rfl

theorem encAll_snoc (cs : List Int) (c : Int) : encAll (cs ++ [c]) = encAll cs ++ encC c := by simp [encAll]
theorem encAll_len (cs : List Int) : (encAll cs).length ≤ 4 * cs.length := by
  induction cs with
  | nil => simp [encAll]
  | cons c cs ih =>
    have h : (encC c).length ≤ 4 := by unfold encC encN; repeat (first | split | simp)
    simp only [encAll, List.flatMap_cons, List.length_append, List.length_cons] at ih ⊢
    omega
theorem take_snoc_of {xs : List Int} {k : Nat} {x : Int} (h : xs[k]? = some x) : xs.take (k + 1) = xs.take k ++ [x] := by
  obtain ⟨h1, h2⟩ := List.getElem?_eq_some_iff.1 h
  rw [List.take_succ_eq_append_getElem h1, h2]
theorem encodeL_full {cs : List Int} (h : 4096 < cs.length) : encodeL cs = ([], 7) := by unfold encodeL; rw [if_pos h]
theorem encodeL_ok {cs : List Int} (h : cs.length ≤ 4096) (h2 : ∀ c ∈ cs, scalarB c = true) : encodeL cs = (encAll cs, 0) := by
  unfold encodeL; rw [if_neg (by omega), if_pos (List.all_eq_true.2 h2)]
theorem encodeL_bad {cs : List Int} {k : Nat} {x : Int} (h : cs.length ≤ 4096) (h1 : cs[k]? = some x) (h2 : scalarB x = false) : encodeL cs = ([], 3) := by
  unfold encodeL
  rw [if_neg (by omega), if_neg]
  intro h3
  have := List.all_eq_true.1 h3 x (List.mem_of_getElem? h1)
  rw [h2] at this
  cases this

set_option maxRecDepth 100000 in
set_option maxHeartbeats 400000 in
theorem dec_any (s : ByteArray) (w : World) : Calls Try.prog 24 #[.string s] w (RetDec w (decodeL s.data.toList)) := by
  have hsl := size_list s
  by_cases h : 4096 < s.size
  · rw [decodeL_full (by omega)]
    clear hsl
    go_enter Try.func24, Try.ntmps24
    go_wp2_with fail
    go_ret3
    exact ⟨_, rfl, Ints.none_, Below.refl _ _⟩
  · have hsc := Lib.hid (fun W => scan_any s W (by omega))
    by_cases h2 : (scanL s.data.toList).2 < s.size
    · rw [decodeL_bad (by omega) (by omega)]
      generalize (scanL s.data.toList).2 = k at *
      generalize (scanL s.data.toList).1 = cs at *
      clear hsl
      go_enter Try.func24, Try.ntmps24
      go_wp2_with fail
      refine (hsc.out _).mono ?_
      rintro e w1 ⟨v, rfl, _, b1⟩
      go_wp2_with fail
      go_ret3
      exact ⟨_, rfl, Ints.none_, b1⟩
    · rw [decodeL_ok (by omega) (by omega)]
      generalize (scanL s.data.toList).2 = k at *
      generalize (scanL s.data.toList).1 = cs at *
      clear hsl
      go_enter Try.func24, Try.ntmps24
      go_wp2_with fail
      refine (hsc.out _).mono ?_
      rintro e w1 ⟨v, rfl, hv, b1⟩
      have HV := Lib.hid hv; clear hv
      go_wp2_with fail
      go_ret3
      exact ⟨_, rfl, HV.out, b1⟩

set_option maxRecDepth 100000 in
set_option maxHeartbeats 400000 in
theorem decValid_any (s : ByteArray) (w : World) (hs : s.size ≤ 2097152) : Calls Try.prog 39 #[.string s] w fun e w' => e = .returned (.bool ((((scanL s.data.toList).2 : Nat) : Int) == (s.size : Int))) ∧ Below w.heap.size w w' := by
  have hsc := Lib.hid (fun W => scan_any s W hs)
  generalize (scanL s.data.toList).2 = k at *
  generalize (scanL s.data.toList).1 = cs at *
  go_enter Try.func39, Try.ntmps39
  go_wp2_with fail
  refine (hsc.out _).mono ?_
  rintro e w1 ⟨v, rfl, hv, b1⟩
  clear hv
  go_wp2_with fail
  go_ret
  exact ⟨by first | rfl | simp, b1⟩

set_option maxRecDepth 100000 in
set_option maxHeartbeats 400000 in
theorem refDec_any (s : ByteArray) (w : World) : Calls Try.prog 49 #[.string s] w (RetDec w (decodeL s.data.toList)) := by
  have hsl := size_list s
  by_cases h : 4096 < s.size
  · rw [decodeL_full (by omega)]
    clear hsl
    go_enter Try.func49, Try.ntmps49
    go_wp2_with fail
    go_ret3
    exact ⟨_, rfl, Ints.none_, Below.refl _ _⟩
  · have hsc := Lib.hid (fun W => refDecode0_any s W (by omega))
    by_cases h2 : (scanL s.data.toList).2 < s.size
    · rw [decodeL_bad (by omega) (by omega)]
      generalize (scanL s.data.toList).2 = k at *
      generalize (scanL s.data.toList).1 = cs at *
      clear hsl
      go_enter Try.func49, Try.ntmps49
      go_wp2_with fail
      refine (hsc.out _).mono ?_
      rintro e w1 ⟨v, rfl, _, b1⟩
      go_wp2_with fail
      go_ret3
      exact ⟨_, rfl, Ints.none_, b1⟩
    · rw [decodeL_ok (by omega) (by omega)]
      generalize (scanL s.data.toList).2 = k at *
      generalize (scanL s.data.toList).1 = cs at *
      clear hsl
      go_enter Try.func49, Try.ntmps49
      go_wp2_with fail
      refine (hsc.out _).mono ?_
      rintro e w1 ⟨v, rfl, hv, b1⟩
      have HV := Lib.hid hv; clear hv
      go_wp2_with fail
      go_ret3
      exact ⟨_, rfl, HV.out, b1⟩

set_option maxRecDepth 100000 in
set_option maxHeartbeats 400000 in
theorem refDecValid_any (s : ByteArray) (w : World) (hs : s.size ≤ 2097152) : Calls Try.prog 50 #[.string s] w fun e w' => e = .returned (.bool ((((scanL s.data.toList).2 : Nat) : Int) == (s.size : Int))) ∧ Below w.heap.size w w' := by
  have hsc := Lib.hid (fun W => refDecode0_any s W hs)
  generalize (scanL s.data.toList).2 = k at *
  generalize (scanL s.data.toList).1 = cs at *
  go_enter Try.func50, Try.ntmps50
  go_wp2_with fail
  refine (hsc.out _).mono ?_
  rintro e w1 ⟨v, rfl, hv, b1⟩
  clear hv
  go_wp2_with fail
  go_ret
  exact ⟨by first | rfl | simp, b1⟩

set_option maxRecDepth 100000 in
set_option maxHeartbeats 1000000 in
theorem enc_any (v : Value) (xs : List Int) (w : World) (hv : Ints w w.heap.size .i64 v xs) : Calls Try.prog 34 #[v] w (RetEnc w (encodeL xs)) := by
  obtain ⟨A, c, rfl, hc1, hc2, _, hcell⟩ := hv
  have HC := Lib.hid hcell; clear hcell
  have hc2' : c ≤ 9223372036854775807 := by unfold maxLen at hc2; omega
  clear hc2
  by_cases h : 4096 < xs.length
  · rw [encodeL_full h]
    go_enter Try.func34, Try.ntmps34
    go_wp2_with fail
    go_ret2
    exact ⟨rfl, Below.refl _ _⟩
  · have hl : xs.length ≤ 4096 := by omega
    clear h
    go_enter Try.func34, Try.ntmps34
    go_wp2_with fail
    go_loopw [4, 12] (fun b i wr => ∃ (k : Nat), k ≤ xs.length ∧ i = .int .i64 k ∧ wr.ownsRow w.heap.size 5 1 b (encAll (xs.take k)).length ((encAll (xs.take k)).map bv) ∧
        Hid (∀ x ∈ xs.take k, scalarB x = true) ∧ Below w.heap.size w wr) (fun _ i _ => xs.length - (intOf i).toNat)
    case atStart => exact ⟨0, by omega, rfl, World.ownsRow_nil _ _ _ _, Lib.hid (by simp), Below.refl _ _⟩
    case round =>
      obtain ⟨k, hk, rfl, hown, HS, hbel⟩ := hrel
      by_cases hlt : k < xs.length
      · obtain ⟨x, hxk, hxm⟩ := get_of hlt
        obtain ⟨ad, rfl, hb, hce⟩ := HC.out k x hxk
        have hce' := (hbel.cell (p := ad.add k) (by rw [block_of_add]; exact hb)).trans hce
        have HXK := Lib.hid hxk
        clear hce hxk hxm hb
        cases hsx : scalarB x
        · have hsc := Lib.hid (fun W => scalar_any x W)
          rw [hsx] at hsc
          have HX := Lib.hid (encodeL_bad hl HXK.out hsx)
          clear hsx
          go_wp2_with (go_at_call 55; refine (hsc.out _).mono ?_; rintro e w1 ⟨rfl, rfl⟩)
          go_ret2
          rw [HX.out]
          exact ⟨rfl, hbel⟩
        · have hsc := Lib.hid (fun W => scalar_any x W)
          rw [hsx] at hsc
          have HSX := Lib.hid hsx
          clear hsx
          go_wp2_with fail
          refine (hsc.out _).mono ?_
          rintro e w1 ⟨rfl, rfl⟩
          go_wp2_with fail
          have hel := encAll_len (xs.take k)
          rw [List.length_take] at hel
          refine (put_any x _ w.heap.size _ (encAll (xs.take k)) HSX.out hown hbel.size (by omega)).mono ?_
          rintro e w1 ⟨v', rfl, hown', b1⟩
          have hbel1 := hbel.trans b1
          clear hown hbel b1 hel
          have e1 : encAll (xs.take (k + 1)) = encAll (xs.take k) ++ encC x := by rw [take_snoc_of HXK.out, encAll_snoc]
          rw [← e1] at hown'
          clear e1
          go_wp2_with fail
          go_roundw
          case rel =>
            refine ⟨k + 1, by omega, by go_num, hown', Lib.hid ?_, hbel1⟩
            intro y hy
            rw [take_snoc_of HXK.out, List.mem_append, List.mem_singleton] at hy
            rcases hy with hy | rfl
            · exact HS.out y hy
            · exact HSX.out
          case measure => simp [intOf]; omega
      · obtain rfl : k = xs.length := by omega
        rw [List.take_length] at hown HS
        have HX := Lib.hid (encodeL_ok hl HS.out)
        have hcv := bytes_of_ownsT (P := Try.prog) 30 9 (ownsT_of hown) Try.underlying30 Try.underlying5 Try.underlying9
        clear hown
        go_wp2_with fail
        go_ret2
        rw [HX.out]
        exact ⟨rfl, hbel⟩

set_option maxRecDepth 100000 in
set_option maxHeartbeats 1000000 in
theorem refEnc_any (v : Value) (xs : List Int) (w : World) (hv : Ints w w.heap.size .i64 v xs) : Calls Try.prog 22 #[v] w (RetEnc w (encodeL xs)) := by
  obtain ⟨A, c, rfl, hc1, hc2, _, hcell⟩ := hv
  have HC := Lib.hid hcell; clear hcell
  have hc2' : c ≤ 9223372036854775807 := by unfold maxLen at hc2; omega
  clear hc2
  by_cases h : 4096 < xs.length
  · rw [encodeL_full h]
    go_enter Try.func22, Try.ntmps22
    go_wp2_with fail
    go_ret2
    exact ⟨rfl, Below.refl _ _⟩
  · have hl : xs.length ≤ 4096 := by omega
    clear h
    go_enter Try.func22, Try.ntmps22
    go_wp2_with fail
    go_loopw [4, 12] (fun b i wr => ∃ (k : Nat) (s : ByteArray), k ≤ xs.length ∧ i = .int .i64 k ∧ b = .string s ∧ s.size ≤ 4 * k ∧ Hid (s.data.toList = encAll (xs.take k)) ∧
        Hid (∀ x ∈ xs.take k, scalarB x = true) ∧ Below w.heap.size w wr) (fun _ i _ => xs.length - (intOf i).toNat)
    case atStart => exact ⟨0, ⟨#[]⟩, by omega, rfl, rfl, by decide, Lib.hid (by simp [encAll]), Lib.hid (by simp), Below.refl _ _⟩
    case round =>
      obtain ⟨k, s, hk, rfl, rfl, hsz, HE, HS, hbel⟩ := hrel
      by_cases hlt : k < xs.length
      · obtain ⟨x, hxk, hxm⟩ := get_of hlt
        obtain ⟨ad, rfl, hb, hce⟩ := HC.out k x hxk
        have hce' := (hbel.cell (p := ad.add k) (by rw [block_of_add]; exact hb)).trans hce
        have HXK := Lib.hid hxk
        clear hce hxk hxm hb
        cases hsx : scalarB x
        · have hsc := Lib.hid (fun W => refScalar_any x W)
          rw [hsx] at hsc
          have HX := Lib.hid (encodeL_bad hl HXK.out hsx)
          clear hsx
          go_wp2_with (go_at_call 37; refine (hsc.out _).mono ?_; rintro e w1 ⟨rfl, rfl⟩)
          go_ret2
          rw [HX.out]
          exact ⟨rfl, hbel⟩
        · have hsc := Lib.hid (fun W => refScalar_any x W)
          rw [hsx] at hsc
          have hone := Lib.hid (fun W => one_any x W hsx)
          have hle := (lenC_encC hsx)
          have hle2 : (encC x).length ≤ 4 := by omega
          have hle3 : (⟨(encC x).toArray⟩ : ByteArray).size ≤ 4 := hle2
          have HD : Hid ((⟨(encC x).toArray⟩ : ByteArray).data.toList = encC x) := Lib.hid (by simp)
          generalize (⟨(encC x).toArray⟩ : ByteArray) = t at *
          have HSX := Lib.hid hsx
          clear hsx hle hle2
          go_wp2_with fail
          refine (hsc.out _).mono ?_
          rintro e w1 ⟨rfl, rfl⟩
          go_wp2_with fail
          refine (hone.out _).mono ?_
          rintro e w1 ⟨rfl, b1⟩
          have hbel1 := below_then hbel (Nat.le_refl _) b1
          clear b1 hbel
          go_wp2_with fail
          go_roundw
          case rel =>
            refine ⟨k + 1, s ++ t, by omega, by go_num, rfl, by rw [ByteArray.size_append]; omega, Lib.hid ?_, Lib.hid ?_, hbel1⟩
            · rw [take_snoc_of HXK.out, encAll_snoc, ByteArray.data_append, Array.toList_append, HE.out, HD.out]
            · intro y hy
              rw [take_snoc_of HXK.out, List.mem_append, List.mem_singleton] at hy
              rcases hy with hy | rfl
              · exact HS.out y hy
              · exact HSX.out
          case measure => simp [intOf]; omega
      · obtain rfl : k = xs.length := by omega
        rw [List.take_length] at HE HS
        have HX := Lib.hid (encodeL_ok hl HS.out)
        go_wp2_with fail
        go_ret2
        rw [HX.out]
        refine ⟨?_, hbel⟩
        rw [← HE.out]
        rfl
end Go.Proofs.Ytmbphpocbajlmaa
