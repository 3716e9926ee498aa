/-
  The walk through the reference's first.
-/
import Derived.Test.YtmbphpocbajlmaaUtfC
import Derived.Deep.QuietTactic
namespace Go.Proofs.Ytmbphpocbajlmaa
open Go.RowKit ND

theorem byteAt_eq (s : ByteArray) (i : Nat) (h : i < s.size) : byteAt s.data.toList i = (s[i].toNat : Int) := by
  unfold byteAt
  have h' : i < s.data.toList.length := by simpa using h
  rw [List.getD_eq_getElem?_getD, List.getElem?_eq_getElem h']
  rfl

theorem valN_1 (s : ByteArray) (h : 1 ≤ s.size) : valN 1 s.data.toList = (s[0].toNat : Int) := by
  unfold valN
  simp only [Nat.reduceEqDiff, if_true, byteAt_eq s 0 (by omega)]

theorem valN_2 (s : ByteArray) (h : 2 ≤ s.size) : valN 2 s.data.toList = ((s[0].toNat : Int) - (192 : Int)) * (64 : Int) + (s[1].toNat : Int) - (128 : Int) := by
  unfold valN
  simp only [Nat.reduceEqDiff, if_true, if_false, byteAt_eq s 0 (by omega), byteAt_eq s 1 (by omega)]

theorem valN_3 (s : ByteArray) (h : 3 ≤ s.size) : valN 3 s.data.toList = ((s[0].toNat : Int) - (224 : Int)) * (4096 : Int) + ((s[1].toNat : Int) - (128 : Int)) * (64 : Int) + (s[2].toNat : Int) - (128 : Int) := by
  unfold valN
  simp only [Nat.reduceEqDiff, if_true, if_false, byteAt_eq s 0 (by omega), byteAt_eq s 1 (by omega), byteAt_eq s 2 (by omega)]

theorem valN_4 (s : ByteArray) (h : 4 ≤ s.size) : valN 4 s.data.toList = ((s[0].toNat : Int) - (240 : Int)) * (262144 : Int) + ((s[1].toNat : Int) - (128 : Int)) * (4096 : Int) + ((s[2].toNat : Int) - (128 : Int)) * (64 : Int) + (s[3].toNat : Int) - (128 : Int) := by
  unfold valN
  simp only [Nat.reduceEqDiff, if_false, byteAt_eq s 0 (by omega), byteAt_eq s 1 (by omega), byteAt_eq s 2 (by omega), byteAt_eq s 3 (by omega)]

theorem sz_pos {s : ByteArray} {k n : Nat} (_h : n ≤ s.size) (hk : k < n) : k < s.size := by omega

/-- The facts of one round: what the test says, by the spec's own number of bytes. -/
theorem round_facts (s : ByteArray) (k : Nat) (h1 : 1 ≤ k) (E : Int) (hE : valN k s.data.toList = E) :
    (lenC E ≠ k ∧ (firstP s.data.toList).2 ≠ k) ∨ (lenC E = k ∧ scalarB E = true ∧ (⟨(encC E).toArray⟩ : ByteArray).toList ≠ (s.extract 0 k).toList ∧ (firstP s.data.toList).2 ≠ k) ∨
    (lenC E = k ∧ scalarB E = true ∧ (⟨(encC E).toArray⟩ : ByteArray).toList = (s.extract 0 k).toList ∧ (firstP s.data.toList).2 = k ∧ ((firstP s.data.toList).1 : Int) = E) := by
  have ht := ref_test (l := s.data.toList) (n := k) h1
  have hv := ref_val (l := s.data.toList) (n := k) h1
  rw [hE] at ht hv
  have he : (⟨(encC E).toArray⟩ : ByteArray).toList = (s.extract 0 k).toList ↔ encC E = s.data.toList.take k := by
    rw [Lib.toList_data, Lib.toList_data, Lib.extract_data]; simp
  by_cases a : lenC E = k
  · have hs := lenC_pos (c := E) (by omega)
    by_cases b : encC E = s.data.toList.take k
    · exact .inr (.inr ⟨a, hs, he.2 b, ht.1 ⟨a, b⟩, (hv (ht.1 ⟨a, b⟩)).symm⟩)
    · exact .inr (.inl ⟨a, hs, fun h => b (he.1 h), fun h => b (ht.2 h).2⟩)
  · exact .inl ⟨a, fun h => a (ht.2 h).1⟩

set_option maxRecDepth 100000 in
set_option maxHeartbeats 4000000 in
theorem refFirst_any (s : ByteArray) (w : World) (hs : s.size ≤ maxLen) :
    Calls Try.prog 67 #[.string s] w fun e w' => e = .returned (.tuple #[.int .i64 (firstP s.data.toList).1, .int .i64 (firstP s.data.toList).2]) ∧ Below w.heap.size w w' := by
  obtain ⟨F, hF⟩ : ∃ F, F = (firstP s.data.toList).2 := ⟨_, rfl⟩
  have hF4 : F ≤ 4 := by
    rw [hF]
    by_cases h : (firstP s.data.toList).2 = 0
    · omega
    · obtain ⟨a, b, _, _⟩ := firstP_some _ h
      have := lenC_encC a; omega
  have hFl : F ≤ s.size := by
    rw [hF]
    by_cases h : (firstP s.data.toList).2 = 0
    · omega
    · obtain ⟨_, _, c, _⟩ := firstP_some _ h
      simpa using c
  have hF0 : Hid (F = 0 → (firstP s.data.toList).1 = 0) := Lib.hid (fun h => firstP_zero _ (by omega))
  have HF := Lib.hid hF; clear hF
  unfold maxLen at hs
  go_enter Try.func67, Try.ntmps67
  go_wp2_with fail
  go_loopw [4] (fun i wr => ∃ k : Nat, 1 ≤ k ∧ k ≤ 5 ∧ i = .int .i64 k ∧ (F ≤ 0 ∨ k ≤ F) ∧ Below w.heap.size w wr) (fun i _ => (5 - intOf i).toNat)
  case atStart => exact ⟨1, by omega, by omega, rfl, by omega, Below.refl _ _⟩
  case round =>
    obtain ⟨k, hk1, hk5, rfl, hFk, hbel⟩ := hrel
    by_cases hlt : k ≤ 4 ∧ k ≤ s.size
    · obtain ⟨hlt4, hlts⟩ := hlt
      rcases show k = 1 ∨ k = 2 ∨ k = 3 ∨ k = 4 by omega with rfl | rfl | rfl | rfl
      · -- round 1
        have hrf := round_facts s 1 (by omega) _ (valN_1 s hlts)
        have i0 : (0 : Int) < (s.size : Int) := by omega
        have j0 : 0 < s.size := by omega
        have b0 := s[0].toNat_lt
        generalize hE : (s[0].toNat : Int) = E at hrf
        have HE := Lib.hid hE; clear hE
        have HR := Lib.hid hrf; clear hrf
        have hre := HE.out
        go_wp2_with fail
        clear hre HE
        rcases HR.out with ⟨a, b⟩ | ⟨a, c, b, d⟩ | ⟨a, c, b, d, e⟩
        · have hb : (((lenC E : Nat) : Int) == 1) = false := beq_eq_false_iff_ne.2 (by omega)
          have hn : F ≠ 1 := by rw [HF.out]; exact b
          clear a b
          clear b0 HR hF4 hFl hF0
          refine wp_region_quiet_below (by kernel_rfl) (by kernel_rfl) ?_
          repeat (quiet_step (exact quiet_s (refLength_any E)))
          refine wpQuiet_nil ?_
          rintro _ ⟨⟨dq, osq⟩, rfl⟩
          go_wp2_with fail
          go_roundw
          case rel => exact ⟨2, by omega, by omega, by go_num, by omega, below_next hbel (below_regrown _ dq osq)⟩
          case measure => simp [intOf]
        · have hb : (((lenC E : Nat) : Int) == 1) = true := beq_iff_eq.2 (by omega)
          have hn : F ≠ 1 := by rw [HF.out]; exact d
          have hone := Lib.hid (fun W => one_any E W c)
          generalize (⟨(encC E).toArray⟩ : ByteArray) = S at *
          have hs2 : (S.toList == (s.extract 0 1).toList) = false := beq_eq_false_iff_ne.2 b
          clear a b c d
          clear b0 HR hF4 hFl hF0
          refine wp_region_quiet_below (by kernel_rfl) (by kernel_rfl) ?_
          repeat (quiet_step (first | exact quiet_s (refLength_any E) | exact quiet_b hone.out))
          refine wpQuiet_nil ?_
          rintro _ ⟨⟨dq, osq⟩, rfl⟩
          go_wp2_with fail
          go_roundw
          case rel => exact ⟨2, by omega, by omega, by go_num, by omega, below_next hbel (below_regrown _ dq osq)⟩
          case measure => simp [intOf]
        · have hb : (((lenC E : Nat) : Int) == 1) = true := beq_iff_eq.2 (by omega)
          have hone := Lib.hid (fun W => one_any E W c)
          generalize (⟨(encC E).toArray⟩ : ByteArray) = S at *
          have hs2 : (S.toList == (s.extract 0 1).toList) = true := beq_iff_eq.2 b
          have HX := Lib.hid (show ((firstP s.data.toList).1 : Int) = E ∧ (firstP s.data.toList).2 = 1 from ⟨e, d⟩)
          clear a b c d e
          clear b0 HR hF4 hFl hF0
          refine wp_region_quiet_below (by kernel_rfl) (by kernel_rfl) ?_
          repeat (quiet_step (first | exact quiet_s (refLength_any E) | exact quiet_b hone.out))
          refine wpQuiet_nil ?_
          rintro _ ⟨⟨dq, osq⟩, rfl⟩
          go_wp2_with fail
          go_ret2
          exact ⟨by rw [HX.out.1, HX.out.2]; rfl, below_next hbel (below_regrown _ dq osq)⟩
      · -- round 2
        have hrf := round_facts s 2 (by omega) _ (valN_2 s hlts)
        have i0 : (0 : Int) < (s.size : Int) := by omega
        have j0 : 0 < s.size := by omega
        have i1 : (1 : Int) < (s.size : Int) := by omega
        have j1 : 1 < s.size := by omega
        have b0 := s[0].toNat_lt
        have b1 := s[1].toNat_lt
        generalize hE : ((s[0].toNat : Int) - (192 : Int)) * (64 : Int) + (s[1].toNat : Int) - (128 : Int) = E at hrf
        have HE := Lib.hid hE; clear hE
        have HR := Lib.hid hrf; clear hrf
        have hre := HE.out
        go_wp2_with fail
        go_quiet (fail)
        go_wp2_with fail
        clear hre HE
        rcases HR.out with ⟨a, b⟩ | ⟨a, c, b, d⟩ | ⟨a, c, b, d, e⟩
        · have hb : (((lenC E : Nat) : Int) == 2) = false := beq_eq_false_iff_ne.2 (by omega)
          have hn : F ≠ 2 := by rw [HF.out]; exact b
          clear a b
          clear b0 b1 HR hF4 hFl hF0
          refine wp_region_quiet_below (by kernel_rfl) (by kernel_rfl) ?_
          repeat (quiet_step (exact quiet_s (refLength_any E)))
          refine wpQuiet_nil ?_
          rintro _ ⟨⟨dq, osq⟩, rfl⟩
          go_wp2_with fail
          go_roundw
          case rel => exact ⟨3, by omega, by omega, by go_num, by omega, below_next hbel (below_regrown _ dq osq)⟩
          case measure => simp [intOf]
        · have hb : (((lenC E : Nat) : Int) == 2) = true := beq_iff_eq.2 (by omega)
          have hn : F ≠ 2 := by rw [HF.out]; exact d
          have hone := Lib.hid (fun W => one_any E W c)
          generalize (⟨(encC E).toArray⟩ : ByteArray) = S at *
          have hs2 : (S.toList == (s.extract 0 2).toList) = false := beq_eq_false_iff_ne.2 b
          clear a b c d
          clear b0 b1 HR hF4 hFl hF0
          refine wp_region_quiet_below (by kernel_rfl) (by kernel_rfl) ?_
          repeat (quiet_step (first | exact quiet_s (refLength_any E) | exact quiet_b hone.out))
          refine wpQuiet_nil ?_
          rintro _ ⟨⟨dq, osq⟩, rfl⟩
          go_wp2_with fail
          go_roundw
          case rel => exact ⟨3, by omega, by omega, by go_num, by omega, below_next hbel (below_regrown _ dq osq)⟩
          case measure => simp [intOf]
        · have hb : (((lenC E : Nat) : Int) == 2) = true := beq_iff_eq.2 (by omega)
          have hone := Lib.hid (fun W => one_any E W c)
          generalize (⟨(encC E).toArray⟩ : ByteArray) = S at *
          have hs2 : (S.toList == (s.extract 0 2).toList) = true := beq_iff_eq.2 b
          have HX := Lib.hid (show ((firstP s.data.toList).1 : Int) = E ∧ (firstP s.data.toList).2 = 2 from ⟨e, d⟩)
          clear a b c d e
          clear b0 b1 HR hF4 hFl hF0
          refine wp_region_quiet_below (by kernel_rfl) (by kernel_rfl) ?_
          repeat (quiet_step (first | exact quiet_s (refLength_any E) | exact quiet_b hone.out))
          refine wpQuiet_nil ?_
          rintro _ ⟨⟨dq, osq⟩, rfl⟩
          go_wp2_with fail
          go_ret2
          exact ⟨by rw [HX.out.1, HX.out.2]; rfl, below_next hbel (below_regrown _ dq osq)⟩
      · -- round 3
        have hrf := round_facts s 3 (by omega) _ (valN_3 s hlts)
        have i0 : (0 : Int) < (s.size : Int) := by omega
        have j0 : 0 < s.size := by omega
        have i1 : (1 : Int) < (s.size : Int) := by omega
        have j1 : 1 < s.size := by omega
        have i2 : (2 : Int) < (s.size : Int) := by omega
        have j2 : 2 < s.size := by omega
        have b0 := s[0].toNat_lt
        have b1 := s[1].toNat_lt
        have b2 := s[2].toNat_lt
        generalize hE : ((s[0].toNat : Int) - (224 : Int)) * (4096 : Int) + ((s[1].toNat : Int) - (128 : Int)) * (64 : Int) + (s[2].toNat : Int) - (128 : Int) = E at hrf
        have HE := Lib.hid hE; clear hE
        have HR := Lib.hid hrf; clear hrf
        have hre := HE.out
        go_wp2_with fail
        go_quiet (fail)
        go_wp2_with fail
        clear hre HE
        rcases HR.out with ⟨a, b⟩ | ⟨a, c, b, d⟩ | ⟨a, c, b, d, e⟩
        · have hb : (((lenC E : Nat) : Int) == 3) = false := beq_eq_false_iff_ne.2 (by omega)
          have hn : F ≠ 3 := by rw [HF.out]; exact b
          clear a b
          clear b0 b1 b2 HR hF4 hFl hF0
          refine wp_region_quiet_below (by kernel_rfl) (by kernel_rfl) ?_
          repeat (quiet_step (exact quiet_s (refLength_any E)))
          refine wpQuiet_nil ?_
          rintro _ ⟨⟨dq, osq⟩, rfl⟩
          go_wp2_with fail
          go_roundw
          case rel => exact ⟨4, by omega, by omega, by go_num, by omega, below_next hbel (below_regrown _ dq osq)⟩
          case measure => simp [intOf]
        · have hb : (((lenC E : Nat) : Int) == 3) = true := beq_iff_eq.2 (by omega)
          have hn : F ≠ 3 := by rw [HF.out]; exact d
          have hone := Lib.hid (fun W => one_any E W c)
          generalize (⟨(encC E).toArray⟩ : ByteArray) = S at *
          have hs2 : (S.toList == (s.extract 0 3).toList) = false := beq_eq_false_iff_ne.2 b
          clear a b c d
          clear b0 b1 b2 HR hF4 hFl hF0
          refine wp_region_quiet_below (by kernel_rfl) (by kernel_rfl) ?_
          repeat (quiet_step (first | exact quiet_s (refLength_any E) | exact quiet_b hone.out))
          refine wpQuiet_nil ?_
          rintro _ ⟨⟨dq, osq⟩, rfl⟩
          go_wp2_with fail
          go_roundw
          case rel => exact ⟨4, by omega, by omega, by go_num, by omega, below_next hbel (below_regrown _ dq osq)⟩
          case measure => simp [intOf]
        · have hb : (((lenC E : Nat) : Int) == 3) = true := beq_iff_eq.2 (by omega)
          have hone := Lib.hid (fun W => one_any E W c)
          generalize (⟨(encC E).toArray⟩ : ByteArray) = S at *
          have hs2 : (S.toList == (s.extract 0 3).toList) = true := beq_iff_eq.2 b
          have HX := Lib.hid (show ((firstP s.data.toList).1 : Int) = E ∧ (firstP s.data.toList).2 = 3 from ⟨e, d⟩)
          clear a b c d e
          clear b0 b1 b2 HR hF4 hFl hF0
          refine wp_region_quiet_below (by kernel_rfl) (by kernel_rfl) ?_
          repeat (quiet_step (first | exact quiet_s (refLength_any E) | exact quiet_b hone.out))
          refine wpQuiet_nil ?_
          rintro _ ⟨⟨dq, osq⟩, rfl⟩
          go_wp2_with fail
          go_ret2
          exact ⟨by rw [HX.out.1, HX.out.2]; rfl, below_next hbel (below_regrown _ dq osq)⟩
      · -- round 4
        have hrf := round_facts s 4 (by omega) _ (valN_4 s hlts)
        have i0 : (0 : Int) < (s.size : Int) := by omega
        have j0 : 0 < s.size := by omega
        have i1 : (1 : Int) < (s.size : Int) := by omega
        have j1 : 1 < s.size := by omega
        have i2 : (2 : Int) < (s.size : Int) := by omega
        have j2 : 2 < s.size := by omega
        have i3 : (3 : Int) < (s.size : Int) := by omega
        have j3 : 3 < s.size := by omega
        have b0 := s[0].toNat_lt
        have b1 := s[1].toNat_lt
        have b2 := s[2].toNat_lt
        have b3 := s[3].toNat_lt
        generalize hE : ((s[0].toNat : Int) - (240 : Int)) * (262144 : Int) + ((s[1].toNat : Int) - (128 : Int)) * (4096 : Int) + ((s[2].toNat : Int) - (128 : Int)) * (64 : Int) + (s[3].toNat : Int) - (128 : Int) = E at hrf
        have HE := Lib.hid hE; clear hE
        have HR := Lib.hid hrf; clear hrf
        have hre := HE.out
        go_wp2_with fail
        go_quiet (fail)
        go_wp2_with fail
        clear hre HE
        rcases HR.out with ⟨a, b⟩ | ⟨a, c, b, d⟩ | ⟨a, c, b, d, e⟩
        · have hb : (((lenC E : Nat) : Int) == 4) = false := beq_eq_false_iff_ne.2 (by omega)
          have hn : F ≠ 4 := by rw [HF.out]; exact b
          clear a b
          clear b0 b1 b2 b3 HR hF4 hFl hF0
          refine wp_region_quiet_below (by kernel_rfl) (by kernel_rfl) ?_
          repeat (quiet_step (exact quiet_s (refLength_any E)))
          refine wpQuiet_nil ?_
          rintro _ ⟨⟨dq, osq⟩, rfl⟩
          go_wp2_with fail
          go_roundw
          case rel => exact ⟨5, by omega, by omega, by go_num, by omega, below_next hbel (below_regrown _ dq osq)⟩
          case measure => simp [intOf]
        · have hb : (((lenC E : Nat) : Int) == 4) = true := beq_iff_eq.2 (by omega)
          have hn : F ≠ 4 := by rw [HF.out]; exact d
          have hone := Lib.hid (fun W => one_any E W c)
          generalize (⟨(encC E).toArray⟩ : ByteArray) = S at *
          have hs2 : (S.toList == (s.extract 0 4).toList) = false := beq_eq_false_iff_ne.2 b
          clear a b c d
          clear b0 b1 b2 b3 HR hF4 hFl hF0
          refine wp_region_quiet_below (by kernel_rfl) (by kernel_rfl) ?_
          repeat (quiet_step (first | exact quiet_s (refLength_any E) | exact quiet_b hone.out))
          refine wpQuiet_nil ?_
          rintro _ ⟨⟨dq, osq⟩, rfl⟩
          go_wp2_with fail
          go_roundw
          case rel => exact ⟨5, by omega, by omega, by go_num, by omega, below_next hbel (below_regrown _ dq osq)⟩
          case measure => simp [intOf]
        · have hb : (((lenC E : Nat) : Int) == 4) = true := beq_iff_eq.2 (by omega)
          have hone := Lib.hid (fun W => one_any E W c)
          generalize (⟨(encC E).toArray⟩ : ByteArray) = S at *
          have hs2 : (S.toList == (s.extract 0 4).toList) = true := beq_iff_eq.2 b
          have HX := Lib.hid (show ((firstP s.data.toList).1 : Int) = E ∧ (firstP s.data.toList).2 = 4 from ⟨e, d⟩)
          clear a b c d e
          clear b0 b1 b2 b3 HR hF4 hFl hF0
          refine wp_region_quiet_below (by kernel_rfl) (by kernel_rfl) ?_
          repeat (quiet_step (first | exact quiet_s (refLength_any E) | exact quiet_b hone.out))
          refine wpQuiet_nil ?_
          rintro _ ⟨⟨dq, osq⟩, rfl⟩
          go_wp2_with fail
          go_ret2
          exact ⟨by rw [HX.out.1, HX.out.2]; rfl, below_next hbel (below_regrown _ dq osq)⟩
    · have hz : F ≤ 0 := by omega
      have hx : (k ≤ 4 ∧ s.size < k) ∨ 4 < k := by omega
      clear hlt
      rcases hx with ⟨h1, h2⟩ | h1
      all_goals
        go_wp2_with fail
        go_ret2
        refine ⟨?_, hbel⟩
        have h0 := hF0.out (by omega)
        have h2 := HF.out
        rw [h0, ← h2]
        obtain rfl : F = 0 := by omega
        rfl
end Go.Proofs.Ytmbphpocbajlmaa

