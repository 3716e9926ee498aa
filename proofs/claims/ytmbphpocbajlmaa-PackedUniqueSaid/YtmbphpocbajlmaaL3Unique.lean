/-
  The walk of PackedUnique.
-/
import Derived.Test.YtmbphpocbajlmaaL3Int
import Derived.Lib.Strings
import Derived.Test.YtmbphpocbajlmaaQuiet
namespace Go.Proofs.Ytmbphpocbajlmaa
open Go.RowKit ND

theorem unique_plain (t : List UInt8) (he : (getInt t 0).2.2 = 0) : ∃ n : Nat, getInt t 0 = ((getInt t 0).1, (n : Int), 0) ∧ 0 < n ∧ n ≤ t.length ∧ putInt [] (getInt t 0).1 = t.take n ∧
    -9223372036854775808 ≤ (getInt t 0).1 ∧ (getInt t 0).1 ≤ 9223372036854775807 := by
  have hg : getInt t 0 = finU 0 (getU t 0 0) := by unfold getInt; rw [if_neg (by omega)]; rfl
  rw [hg] at he ⊢
  unfold finU at he ⊢
  by_cases h : (getU t 0 0).1 = 0
  · rw [if_pos h]
    obtain ⟨u, e1, e2, _, e4, e5, e6⟩ := encU_getU t 0 0 (by omega) h
    simp only [Nat.mul_zero, Nat.pow_zero, Nat.mul_one, Nat.zero_add, Nat.sub_zero] at e1 e2 e5 e6
    refine ⟨(getU t 0 0).2.2, by simp, e4, e5, ?_, ?_⟩
    · simp only [putInt, e1, zz_unzz, List.nil_append]
      exact e6.symm
    · simp only [e1]; exact unzz_in e2
  · rw [if_neg h] at he
    simp at he
    exact absurd he h
theorem unique_err (t : List UInt8) (he : (getInt t 0).2.2 ≠ 0) : getInt t 0 = (0, 0, 4) ∨ getInt t 0 = (0, 0, 5) := by
  have hg : getInt t 0 = finU 0 (getU t 0 0) := by unfold getInt; rw [if_neg (by omega)]; rfl
  rw [hg] at he ⊢
  unfold finU at he ⊢
  rcases getU_err t 0 0 with h | h | h
  · rw [if_pos h] at he; simp at he
  · rw [if_neg (by omega), h]; simp
  · rw [if_neg (by omega), h]; simp

set_option maxRecDepth 100000 in
set_option maxHeartbeats 400000 in
theorem PackedUnique_walk (W : World) (s : ByteArray) (hs : s.size ≤ 140737488351232) (v : Value) (xs : List Int) (hv : Ints W W.heap.size .u8 v xs) (hx : ∀ x ∈ xs, 0 ≤ x ∧ x ≤ 255) (hl : xs.length * 1 ≤ 140737488351232) :
    Calls Try.prog 4 #[.string s, v] W fun e W' => e = .returned (.bool true) ∧ Below W.heap.size W W' := by
  obtain ⟨A, c, rfl, hc1, hc2, _, hcell⟩ := hv
  have HC := Lib.hid hcell; clear hcell
  have HX := Lib.hid hx; clear hx
  have hc2' : c ≤ 9223372036854775807 := by unfold maxLen at hc2; omega
  clear hc2
  go_enter Try.func4, Try.ntmps4
  go_wp2_with fail
  go_loopw [5, 6] (fun t i wr => ∃ (k : Nat) (u : ByteArray), k ≤ xs.length ∧ k ≤ 12 ∧ i = .int .i64 k ∧ t = .string u ∧ u.size ≤ k ∧ Below W.heap.size W wr) (fun _ i _ => xs.length - (intOf i).toNat)
  case atStart => exact ⟨0, ⟨#[]⟩, by omega, by omega, rfl, rfl, by decide, Below.refl _ _⟩
  case round =>
    obtain ⟨k, u, hk, hk2, rfl, rfl, hu, hbel⟩ := hrel
    by_cases hlt : k < xs.length ∧ k < 12
    · obtain ⟨hlt, hlt2⟩ := hlt
      obtain ⟨x, hxk, hxm⟩ := get_of hlt
      obtain ⟨ad, rfl, hb, hce⟩ := HC.out k x hxk
      have hxr := HX.out x hxm
      have hce' := (hbel.cell (p := ad.add k) (by rw [block_of_add]; exact hb)).trans hce
      clear hce hxk hxm
      have hcv := conv_one (P := Try.prog) wr 30 9 5 x Try.underlying30 Try.underlying5 Try.underlying9 hxr.1 hxr.2
      go_wp2_with fail
      go_roundw
      case rel => exact ⟨k + 1, _, by omega, by omega, by go_num, rfl, by rw [ByteArray.size_append]; exact Nat.add_le_add hu (Nat.le_refl 1), hbel.alloc hbel.size _⟩
      case measure => simp [intOf]; omega
    · have hd : (k < xs.length ∧ 12 ≤ k) ∨ xs.length ≤ k := by omega
      have hsz : (u ++ s).size ≤ 140737488351244 := by simp; omega
      have HE := Lib.hid (Classical.em ((getInt (u ++ s).data.toList 0).2.2 = 0))
      clear hlt
      rcases hd with ⟨hd, hd'⟩ | hd
      all_goals
        go_wp2_with fail
        generalize u ++ s = t at *
        refine (getInt_any t 0 _ (by unfold maxLen; omega)).mono ?_
        rintro e w' ⟨rfl, rfl⟩
        rcases HE.out with he | he
        · obtain ⟨m, e1, e2, e3, e4, e5, e6⟩ := unique_plain _ he
          rw [e1]
          clear he
          generalize (getInt t.data.toList 0).1 = x at *
          have HP := Lib.hid e4; clear e1 e4
          have hm : m ≤ t.size := by simpa using e3
          clear e3
          unfold tri
          go_wp2_with fail
          have hput : ∀ w, Calls Try.prog 18 #[.string ⟨#[]⟩, .int .i64 x] w fun e w' => e = .returned (.string (t.extract 0 m)) ∧ Below w.heap.size w w' := by
            intro w
            have h := putInt_any ⟨#[]⟩ x w (by decide) e5 e6
            have e : (⟨(putInt (⟨#[]⟩ : ByteArray).data.toList x).toArray⟩ : ByteArray) = t.extract 0 m := by
              apply ByteArray.ext
              apply Array.toList_inj.1
              rw [Lib.extract_data]
              simpa using HP.out
            rw [e] at h
            exact h
          have HPUT := Lib.hid hput; clear hput
          have hm0 : (0 : Int) < (m : Int) := by omega
          have hm1 : (m : Int) ≤ (t.size : Int) := by omega
          have hm2 : (0 : Int) ≤ (m : Int) := by omega
          refine wp_region_quiet_below (by kernel_rfl) (by kernel_rfl) ?_
          repeat (quiet_step (first | exact quiet_b awake3 | exact quiet_b HPUT.out))
          refine wpQuiet_nil ?_
          rintro _ ⟨⟨dq, osq⟩, rfl⟩
          go_wp2_with fail
          go_ret
          exact ⟨by simp, below_next hbel (below_regrown _ dq osq)⟩
        · have hne : ((getInt t.data.toList 0).2.2 == 0) = false := beq_eq_false_iff_ne.2 he
          rcases unique_err _ he with e1 | e1
          all_goals
            rw [e1]
            unfold tri
            clear he hne e1 HE
            go_wp2_with fail
            refine (awake3 _).mono ?_
            rintro e w3 ⟨rfl, b3⟩
            go_wp2_with fail
            go_ret
            exact ⟨by simp, below_next hbel b3⟩
end Go.Proofs.Ytmbphpocbajlmaa
