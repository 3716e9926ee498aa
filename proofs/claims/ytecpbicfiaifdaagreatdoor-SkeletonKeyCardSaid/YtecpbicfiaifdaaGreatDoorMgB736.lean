/-
  Merged texts: lemmas and walks that the last text of this claim leans on.
-/
import Derived.Test.YtecpbicfiaifdaaGreatDoorMgB735
import Derived.Test.YtecpbicfiaifdaaGreatDoorMgB728
import Derived.Test.YtecpbicfiaifdaaGreatDoorMgB729
import Derived.Deep.QuietTactic
import Derived.Test.YtecpbicfiaifdaaGreatDoorMgB72
import Derived.Test.YtecpbicfiaifdaaGreatDoorMgB71
import Derived.Test.YtecpbicfiaifdaaGreatDoorMgB715
import Derived.Test.YtecpbicfiaifdaaGreatDoorMgB716
import Derived.Test.YtecpbicfiaifdaaGreatDoorMgB722
/-
  The walk through the reference's Of.
-/
namespace Go.Proofs.YtecpbicfiaifdaaGreatDoor
open Go.RowKit ND

set_option maxRecDepth 100000 in
set_option maxHeartbeats 2000000 in
theorem refOf_any (t : Tv) (T : Tab) (v : Value) (xs : List Int) (w : World) (ht : TabR w w.heap.size t T) (hv : Ints w w.heap.size .i64 v xs) :
    Calls Tryz.prog 26 #[t.val, v] w (RetTwo w (skelR T xs).1 (skelR T xs).2) := by
  obtain ⟨A, c, rfl, _⟩ := id hv
  have HB0 : Hid (Below w.heap.size w (w.alloc (.cells t.cells 26))) := Lib.hid ((Below.refl _ _).alloc (Nat.le_refl _) _)
  have HT : Hid (Tbl (w.alloc (.cells t.cells 26)) w.heap.size t T) := Lib.hid ⟨Blk.new _ _ _, ht.later HB0.out⟩
  have HV := Lib.hid (hv.later HB0.out)
  clear ht hv
  have H1 := Lib.hid (refNfd_any t T _ xs _ HT.out.2 HV.out)
  obtain ⟨dl, e1, hd⟩ : ∃ dl e1, nfdR T (accE T xs) xs = (dl, e1) := ⟨_, _, rfl⟩
  rw [hd] at H1
  have H2 := Lib.hid (fun W v (h : Below (w.alloc (.cells t.cells 26)).heap.size (w.alloc (.cells t.cells 26)) W) hi => refSkm_any t T v dl W (HT.out.later h).2 hi)
  obtain ⟨ml, e2, hm⟩ : ∃ ml e2, skmR T (accE T dl) dl = (ml, e2) := ⟨_, _, rfl⟩
  rw [hm] at H2
  have H3 := Lib.hid (fun W v (h : Below (w.alloc (.cells t.cells 26)).heap.size (w.alloc (.cells t.cells 26)) W) hi => refNfd_any t T v ml W (HT.out.later h).2 hi)
  obtain ⟨rl, e3, hr⟩ : ∃ rl e3, nfdR T (accE T ml) ml = (rl, e3) := ⟨_, _, rfl⟩
  rw [hr] at H3
  by_cases h1 : e1 = 0
  · subst h1
    by_cases h2 : e2 = 0
    · subst h2
      have HR := Lib.hid ((skelR_e3 hd hm).trans hr)
      clear hd hm hr
      generalize skelR T xs = R at *
      go_enter Tryz.func26, Tryz.ntmps26
      go_upto_region 1 with fail
      generalize w.alloc (.cells t.cells 26) = w1 at *
      obtain ⟨x0, x1, x2, x3, x4, x5, x6, x7, x8, x9, x10, x11⟩ := HT.out.1.tab
      go_upto_region 2 with (go_at_call 14; refine H1.out.mono ?_; rintro e w2 ⟨u2, rfl, ho2, b2⟩; obtain ⟨A2, c2, rfl, _⟩ := id (Ints.of_own ho2); have HU2 := Lib.hid (Ints.of_own ho2); clear ho2)
      clear x0 x1 x2 x3 x4 x5 x6 x7 x8 x9 x10 x11
      obtain ⟨x0, x1, x2, x3, x4, x5, x6, x7, x8, x9, x10, x11⟩ := (HT.out.later b2).1.tab
      go_upto_region 5 with (go_at_call 59; refine (H2.out _ _ b2 HU2.out).mono ?_; rintro e w3 ⟨u3, rfl, ho3, b3⟩; obtain ⟨A3, c3, rfl, _⟩ := id (Ints.of_own ho3); have HU3 := Lib.hid (Ints.of_own ho3); have b23 := below_next b2 b3; clear ho3)
      clear x0 x1 x2 x3 x4 x5 x6 x7 x8 x9 x10 x11
      obtain ⟨x0, x1, x2, x3, x4, x5, x6, x7, x8, x9, x10, x11⟩ := (HT.out.later b23).1.tab
      go_wp2_with (go_at_call 14; refine (H3.out _ _ b23 HU3.out).mono ?_; rintro e w4 ⟨u4, rfl, ho4, b4⟩; obtain ⟨A4, c4, rfl, _⟩ := id (Ints.of_own ho4))
      go_ret2
      rw [HR.out]
      exact ⟨_, rfl, row_le ho4 (by have := HB0.out.size; have := b23.size; omega), below_next (below_next HB0.out b23) b4⟩
    · have HR := Lib.hid (skelR_e2 hd hm h2)
      have hb : (e2 != 0) = true := by simpa using h2
      clear hd hm hr h2
      generalize skelR T xs = R at *
      go_enter Tryz.func26, Tryz.ntmps26
      go_upto_region 1 with fail
      generalize w.alloc (.cells t.cells 26) = w1 at *
      obtain ⟨x0, x1, x2, x3, x4, x5, x6, x7, x8, x9, x10, x11⟩ := HT.out.1.tab
      go_upto_region 2 with (go_at_call 14; refine H1.out.mono ?_; rintro e w2 ⟨u2, rfl, ho2, b2⟩; obtain ⟨A2, c2, rfl, _⟩ := id (Ints.of_own ho2); have HU2 := Lib.hid (Ints.of_own ho2); clear ho2)
      clear x0 x1 x2 x3 x4 x5 x6 x7 x8 x9 x10 x11
      obtain ⟨x0, x1, x2, x3, x4, x5, x6, x7, x8, x9, x10, x11⟩ := (HT.out.later b2).1.tab
      go_wp2_with (go_at_call 59; refine (H2.out _ _ b2 HU2.out).mono ?_; rintro e w3 ⟨u3, rfl, ho3, b3⟩; obtain ⟨A3, c3, rfl, _⟩ := id (Ints.of_own ho3); have HU3 := Lib.hid (Ints.of_own ho3); have b23 := below_next b2 b3; clear ho3)
      go_ret2
      rw [HR.out]
      exact ⟨_, rfl, World.ownsRow_nil _ _ _ _, below_next HB0.out b23⟩
  · have HR := Lib.hid (skelR_e1 hd h1)
    have hb : (e1 != 0) = true := by simpa using h1
    clear hd hm hr h1
    generalize skelR T xs = R at *
    go_enter Tryz.func26, Tryz.ntmps26
    go_upto_region 1 with fail
    generalize w.alloc (.cells t.cells 26) = w1 at *
    obtain ⟨x0, x1, x2, x3, x4, x5, x6, x7, x8, x9, x10, x11⟩ := HT.out.1.tab
    go_wp2_with (go_at_call 14; refine H1.out.mono ?_; rintro e w2 ⟨u2, rfl, ho2, b2⟩; obtain ⟨A2, c2, rfl, _⟩ := id (Ints.of_own ho2); have HU2 := Lib.hid (Ints.of_own ho2); clear ho2)
    go_ret2
    rw [HR.out]
    exact ⟨_, rfl, World.ownsRow_nil _ _ _ _, below_next HB0.out b2⟩
end Go.Proofs.YtecpbicfiaifdaaGreatDoor
/-
  Contracts of the reference whose result is known.
-/
namespace Go.Proofs.YtecpbicfiaifdaaGreatDoor
open Go.RowKit ND

theorem refOf_eq (t : Tv) (T : Tab) (v : Value) (xs : List Int) (w : World) (r : List Int × Int) (ht : TabR w w.heap.size t T) (hv : Ints w w.heap.size .i64 v xs) (hr : skelR T xs = r) :
    Calls Tryz.prog 26 #[t.val, v] w (RetTwo w r.1 r.2) := by subst hr; exact refOf_any t T v xs w ht hv
end Go.Proofs.YtecpbicfiaifdaaGreatDoor
/-
  The walk through the reference's first.
-/
namespace Go.Proofs.YtecpbicfiaifdaaGreatDoor
open Go.RowKit ND

theorem byteAt_eq (s : ByteArray) (i : Nat) (h : i < s.size) : byteAt s.data.toList i = (s[i].toNat : Int) := by
  unfold byteAt
  have h' : i < s.data.toList.length := by simpa using h
  rw [List.getD_eq_getElem?_getD, List.getElem?_eq_getElem h']
  rfl

theorem valN_1 (s : ByteArray) (h : 1 ≤ s.size) : valN 1 s.data.toList = (s[0].toNat : Int) := by
  unfold valN
  simp only [Nat.reduceEqDiff, if_true, byteAt_eq s 0 (by omega)]

theorem valN_2 (s : ByteArray) (h : 2 ≤ s.size) : valN 2 s.data.toList = ((s[0].toNat : Int) - (192 : Int)) * (64 : Int) + (s[1].toNat : Int) - (128 : Int) := by
  unfold valN
  simp only [Nat.reduceEqDiff, if_true, if_false, byteAt_eq s 0 (by omega), byteAt_eq s 1 (by omega)]

theorem valN_3 (s : ByteArray) (h : 3 ≤ s.size) : valN 3 s.data.toList = ((s[0].toNat : Int) - (224 : Int)) * (4096 : Int) + ((s[1].toNat : Int) - (128 : Int)) * (64 : Int) + (s[2].toNat : Int) - (128 : Int) := by
  unfold valN
  simp only [Nat.reduceEqDiff, if_true, if_false, byteAt_eq s 0 (by omega), byteAt_eq s 1 (by omega), byteAt_eq s 2 (by omega)]

theorem valN_4 (s : ByteArray) (h : 4 ≤ s.size) : valN 4 s.data.toList = ((s[0].toNat : Int) - (240 : Int)) * (262144 : Int) + ((s[1].toNat : Int) - (128 : Int)) * (4096 : Int) + ((s[2].toNat : Int) - (128 : Int)) * (64 : Int) + (s[3].toNat : Int) - (128 : Int) := by
  unfold valN
  simp only [Nat.reduceEqDiff, if_false, byteAt_eq s 0 (by omega), byteAt_eq s 1 (by omega), byteAt_eq s 2 (by omega), byteAt_eq s 3 (by omega)]

theorem sz_pos {s : ByteArray} {k n : Nat} (_h : n ≤ s.size) (hk : k < n) : k < s.size := by omega

/-- The facts of one round: what the test says, by the spec's own number of bytes. -/
theorem round_facts (s : ByteArray) (k : Nat) (h1 : 1 ≤ k) (E : Int) (hE : valN k s.data.toList = E) :
    (lenC E ≠ k ∧ (firstP s.data.toList).2 ≠ k) ∨ (lenC E = k ∧ scalarB E = true ∧ (⟨(encC E).toArray⟩ : ByteArray).toList ≠ (s.extract 0 k).toList ∧ (firstP s.data.toList).2 ≠ k) ∨
    (lenC E = k ∧ scalarB E = true ∧ (⟨(encC E).toArray⟩ : ByteArray).toList = (s.extract 0 k).toList ∧ (firstP s.data.toList).2 = k ∧ ((firstP s.data.toList).1 : Int) = E) := by
  have ht := ref_test (l := s.data.toList) (n := k) h1
  have hv := ref_val (l := s.data.toList) (n := k) h1
  rw [hE] at ht hv
  have he : (⟨(encC E).toArray⟩ : ByteArray).toList = (s.extract 0 k).toList ↔ encC E = s.data.toList.take k := by
    rw [Lib.toList_data, Lib.toList_data, Lib.extract_data]; simp
  by_cases a : lenC E = k
  · have hs := lenC_pos (c := E) (by omega)
    by_cases b : encC E = s.data.toList.take k
    · exact .inr (.inr ⟨a, hs, he.2 b, ht.1 ⟨a, b⟩, (hv (ht.1 ⟨a, b⟩)).symm⟩)
    · exact .inr (.inl ⟨a, hs, fun h => b (he.1 h), fun h => b (ht.2 h).2⟩)
  · exact .inl ⟨a, fun h => a (ht.2 h).1⟩

set_option maxRecDepth 100000 in
set_option maxHeartbeats 4000000 in
theorem refFirst_any (s : ByteArray) (w : World) (hs : s.size ≤ maxLen) :
    Calls Tryz.prog 82 #[.string s] w fun e w' => e = .returned (.tuple #[.int .i64 (firstP s.data.toList).1, .int .i64 (firstP s.data.toList).2]) ∧ Below w.heap.size w w' := by
  obtain ⟨F, hF⟩ : ∃ F, F = (firstP s.data.toList).2 := ⟨_, rfl⟩
  have hF4 : F ≤ 4 := by
    rw [hF]
    by_cases h : (firstP s.data.toList).2 = 0
    · omega
    · obtain ⟨a, b, _, _⟩ := firstP_some _ h
      have := lenC_encC a; omega
  have hFl : F ≤ s.size := by
    rw [hF]
    by_cases h : (firstP s.data.toList).2 = 0
    · omega
    · obtain ⟨_, _, c, _⟩ := firstP_some _ h
      simpa using c
  have hF0 : Hid (F = 0 → (firstP s.data.toList).1 = 0) := Lib.hid (fun h => firstP_zero _ (by omega))
  have HF := Lib.hid hF; clear hF
  unfold maxLen at hs
  go_enter Tryz.func82, Tryz.ntmps82
  go_wp2_with fail
  go_loopw [4] (fun i wr => ∃ k : Nat, 1 ≤ k ∧ k ≤ 5 ∧ i = .int .i64 k ∧ (F ≤ 0 ∨ k ≤ F) ∧ Below w.heap.size w wr) (fun i _ => (5 - intOf i).toNat)
  case atStart => exact ⟨1, by omega, by omega, rfl, by omega, Below.refl _ _⟩
  case round =>
    obtain ⟨k, hk1, hk5, rfl, hFk, hbel⟩ := hrel
    by_cases hlt : k ≤ 4 ∧ k ≤ s.size
    · obtain ⟨hlt4, hlts⟩ := hlt
      rcases show k = 1 ∨ k = 2 ∨ k = 3 ∨ k = 4 by omega with rfl | rfl | rfl | rfl
      · -- round 1
        have hrf := round_facts s 1 (by omega) _ (valN_1 s hlts)
        have i0 : (0 : Int) < (s.size : Int) := by omega
        have j0 : 0 < s.size := by omega
        have b0 := s[0].toNat_lt
        generalize hE : (s[0].toNat : Int) = E at hrf
        have HE := Lib.hid hE; clear hE
        have HR := Lib.hid hrf; clear hrf
        have hre := HE.out
        go_wp2_with fail
        clear hre HE
        rcases HR.out with ⟨a, b⟩ | ⟨a, c, b, d⟩ | ⟨a, c, b, d, e⟩
        · have hb : (((lenC E : Nat) : Int) == 1) = false := beq_eq_false_iff_ne.2 (by omega)
          have hn : F ≠ 1 := by rw [HF.out]; exact b
          clear a b
          clear b0 HR hF4 hFl hF0
          refine wp_region_quiet_below (by kernel_rfl) (by kernel_rfl) ?_
          repeat (quiet_step (exact quiet_s (refLength_any E)))
          refine wpQuiet_nil ?_
          rintro _ ⟨⟨dq, osq⟩, rfl⟩
          go_wp2_with fail
          go_roundw
          case rel => exact ⟨2, by omega, by omega, by go_num, by omega, below_next hbel (below_regrown _ dq osq)⟩
          case measure => simp [intOf]
        · have hb : (((lenC E : Nat) : Int) == 1) = true := beq_iff_eq.2 (by omega)
          have hn : F ≠ 1 := by rw [HF.out]; exact d
          have hone := Lib.hid (fun W => one_any E W c)
          generalize (⟨(encC E).toArray⟩ : ByteArray) = S at *
          have hs2 : (S.toList == (s.extract 0 1).toList) = false := beq_eq_false_iff_ne.2 b
          clear a b c d
          clear b0 HR hF4 hFl hF0
          refine wp_region_quiet_below (by kernel_rfl) (by kernel_rfl) ?_
          repeat (quiet_step (first | exact quiet_s (refLength_any E) | exact quiet_b hone.out))
          refine wpQuiet_nil ?_
          rintro _ ⟨⟨dq, osq⟩, rfl⟩
          go_wp2_with fail
          go_roundw
          case rel => exact ⟨2, by omega, by omega, by go_num, by omega, below_next hbel (below_regrown _ dq osq)⟩
          case measure => simp [intOf]
        · have hb : (((lenC E : Nat) : Int) == 1) = true := beq_iff_eq.2 (by omega)
          have hone := Lib.hid (fun W => one_any E W c)
          generalize (⟨(encC E).toArray⟩ : ByteArray) = S at *
          have hs2 : (S.toList == (s.extract 0 1).toList) = true := beq_iff_eq.2 b
          have HX := Lib.hid (show ((firstP s.data.toList).1 : Int) = E ∧ (firstP s.data.toList).2 = 1 from ⟨e, d⟩)
          clear a b c d e
          clear b0 HR hF4 hFl hF0
          refine wp_region_quiet_below (by kernel_rfl) (by kernel_rfl) ?_
          repeat (quiet_step (first | exact quiet_s (refLength_any E) | exact quiet_b hone.out))
          refine wpQuiet_nil ?_
          rintro _ ⟨⟨dq, osq⟩, rfl⟩
          go_wp2_with fail
          go_ret2
          exact ⟨by rw [HX.out.1, HX.out.2]; rfl, below_next hbel (below_regrown _ dq osq)⟩
      · -- round 2
        have hrf := round_facts s 2 (by omega) _ (valN_2 s hlts)
        have i0 : (0 : Int) < (s.size : Int) := by omega
        have j0 : 0 < s.size := by omega
        have i1 : (1 : Int) < (s.size : Int) := by omega
        have j1 : 1 < s.size := by omega
        have b0 := s[0].toNat_lt
        have b1 := s[1].toNat_lt
        generalize hE : ((s[0].toNat : Int) - (192 : Int)) * (64 : Int) + (s[1].toNat : Int) - (128 : Int) = E at hrf
        have HE := Lib.hid hE; clear hE
        have HR := Lib.hid hrf; clear hrf
        have hre := HE.out
        go_wp2_with fail
        go_quiet (fail)
        go_wp2_with fail
        clear hre HE
        rcases HR.out with ⟨a, b⟩ | ⟨a, c, b, d⟩ | ⟨a, c, b, d, e⟩
        · have hb : (((lenC E : Nat) : Int) == 2) = false := beq_eq_false_iff_ne.2 (by omega)
          have hn : F ≠ 2 := by rw [HF.out]; exact b
          clear a b
          clear b0 b1 HR hF4 hFl hF0
          refine wp_region_quiet_below (by kernel_rfl) (by kernel_rfl) ?_
          repeat (quiet_step (exact quiet_s (refLength_any E)))
          refine wpQuiet_nil ?_
          rintro _ ⟨⟨dq, osq⟩, rfl⟩
          go_wp2_with fail
          go_roundw
          case rel => exact ⟨3, by omega, by omega, by go_num, by omega, below_next hbel (below_regrown _ dq osq)⟩
          case measure => simp [intOf]
        · have hb : (((lenC E : Nat) : Int) == 2) = true := beq_iff_eq.2 (by omega)
          have hn : F ≠ 2 := by rw [HF.out]; exact d
          have hone := Lib.hid (fun W => one_any E W c)
          generalize (⟨(encC E).toArray⟩ : ByteArray) = S at *
          have hs2 : (S.toList == (s.extract 0 2).toList) = false := beq_eq_false_iff_ne.2 b
          clear a b c d
          clear b0 b1 HR hF4 hFl hF0
          refine wp_region_quiet_below (by kernel_rfl) (by kernel_rfl) ?_
          repeat (quiet_step (first | exact quiet_s (refLength_any E) | exact quiet_b hone.out))
          refine wpQuiet_nil ?_
          rintro _ ⟨⟨dq, osq⟩, rfl⟩
          go_wp2_with fail
          go_roundw
          case rel => exact ⟨3, by omega, by omega, by go_num, by omega, below_next hbel (below_regrown _ dq osq)⟩
          case measure => simp [intOf]
        · have hb : (((lenC E : Nat) : Int) == 2) = true := beq_iff_eq.2 (by omega)
          have hone := Lib.hid (fun W => one_any E W c)
          generalize (⟨(encC E).toArray⟩ : ByteArray) = S at *
          have hs2 : (S.toList == (s.extract 0 2).toList) = true := beq_iff_eq.2 b
          have HX := Lib.hid (show ((firstP s.data.toList).1 : Int) = E ∧ (firstP s.data.toList).2 = 2 from ⟨e, d⟩)
          clear a b c d e
          clear b0 b1 HR hF4 hFl hF0
          refine wp_region_quiet_below (by kernel_rfl) (by kernel_rfl) ?_
          repeat (quiet_step (first | exact quiet_s (refLength_any E) | exact quiet_b hone.out))
          refine wpQuiet_nil ?_
          rintro _ ⟨⟨dq, osq⟩, rfl⟩
          go_wp2_with fail
          go_ret2
          exact ⟨by rw [HX.out.1, HX.out.2]; rfl, below_next hbel (below_regrown _ dq osq)⟩
      · -- round 3
        have hrf := round_facts s 3 (by omega) _ (valN_3 s hlts)
        have i0 : (0 : Int) < (s.size : Int) := by omega
        have j0 : 0 < s.size := by omega
        have i1 : (1 : Int) < (s.size : Int) := by omega
        have j1 : 1 < s.size := by omega
        have i2 : (2 : Int) < (s.size : Int) := by omega
        have j2 : 2 < s.size := by omega
        have b0 := s[0].toNat_lt
        have b1 := s[1].toNat_lt
        have b2 := s[2].toNat_lt
        generalize hE : ((s[0].toNat : Int) - (224 : Int)) * (4096 : Int) + ((s[1].toNat : Int) - (128 : Int)) * (64 : Int) + (s[2].toNat : Int) - (128 : Int) = E at hrf
        have HE := Lib.hid hE; clear hE
        have HR := Lib.hid hrf; clear hrf
        have hre := HE.out
        go_wp2_with fail
        go_quiet (fail)
        go_wp2_with fail
        clear hre HE
        rcases HR.out with ⟨a, b⟩ | ⟨a, c, b, d⟩ | ⟨a, c, b, d, e⟩
        · have hb : (((lenC E : Nat) : Int) == 3) = false := beq_eq_false_iff_ne.2 (by omega)
          have hn : F ≠ 3 := by rw [HF.out]; exact b
          clear a b
          clear b0 b1 b2 HR hF4 hFl hF0
          refine wp_region_quiet_below (by kernel_rfl) (by kernel_rfl) ?_
          repeat (quiet_step (exact quiet_s (refLength_any E)))
          refine wpQuiet_nil ?_
          rintro _ ⟨⟨dq, osq⟩, rfl⟩
          go_wp2_with fail
          go_roundw
          case rel => exact ⟨4, by omega, by omega, by go_num, by omega, below_next hbel (below_regrown _ dq osq)⟩
          case measure => simp [intOf]
        · have hb : (((lenC E : Nat) : Int) == 3) = true := beq_iff_eq.2 (by omega)
          have hn : F ≠ 3 := by rw [HF.out]; exact d
          have hone := Lib.hid (fun W => one_any E W c)
          generalize (⟨(encC E).toArray⟩ : ByteArray) = S at *
          have hs2 : (S.toList == (s.extract 0 3).toList) = false := beq_eq_false_iff_ne.2 b
          clear a b c d
          clear b0 b1 b2 HR hF4 hFl hF0
          refine wp_region_quiet_below (by kernel_rfl) (by kernel_rfl) ?_
          repeat (quiet_step (first | exact quiet_s (refLength_any E) | exact quiet_b hone.out))
          refine wpQuiet_nil ?_
          rintro _ ⟨⟨dq, osq⟩, rfl⟩
          go_wp2_with fail
          go_roundw
          case rel => exact ⟨4, by omega, by omega, by go_num, by omega, below_next hbel (below_regrown _ dq osq)⟩
          case measure => simp [intOf]
        · have hb : (((lenC E : Nat) : Int) == 3) = true := beq_iff_eq.2 (by omega)
          have hone := Lib.hid (fun W => one_any E W c)
          generalize (⟨(encC E).toArray⟩ : ByteArray) = S at *
          have hs2 : (S.toList == (s.extract 0 3).toList) = true := beq_iff_eq.2 b
          have HX := Lib.hid (show ((firstP s.data.toList).1 : Int) = E ∧ (firstP s.data.toList).2 = 3 from ⟨e, d⟩)
          clear a b c d e
          clear b0 b1 b2 HR hF4 hFl hF0
          refine wp_region_quiet_below (by kernel_rfl) (by kernel_rfl) ?_
          repeat (quiet_step (first | exact quiet_s (refLength_any E) | exact quiet_b hone.out))
          refine wpQuiet_nil ?_
          rintro _ ⟨⟨dq, osq⟩, rfl⟩
          go_wp2_with fail
          go_ret2
          exact ⟨by rw [HX.out.1, HX.out.2]; rfl, below_next hbel (below_regrown _ dq osq)⟩
      · -- round 4
        have hrf := round_facts s 4 (by omega) _ (valN_4 s hlts)
        have i0 : (0 : Int) < (s.size : Int) := by omega
        have j0 : 0 < s.size := by omega
        have i1 : (1 : Int) < (s.size : Int) := by omega
        have j1 : 1 < s.size := by omega
        have i2 : (2 : Int) < (s.size : Int) := by omega
        have j2 : 2 < s.size := by omega
        have i3 : (3 : Int) < (s.size : Int) := by omega
        have j3 : 3 < s.size := by omega
        have b0 := s[0].toNat_lt
        have b1 := s[1].toNat_lt
        have b2 := s[2].toNat_lt
        have b3 := s[3].toNat_lt
        generalize hE : ((s[0].toNat : Int) - (240 : Int)) * (262144 : Int) + ((s[1].toNat : Int) - (128 : Int)) * (4096 : Int) + ((s[2].toNat : Int) - (128 : Int)) * (64 : Int) + (s[3].toNat : Int) - (128 : Int) = E at hrf
        have HE := Lib.hid hE; clear hE
        have HR := Lib.hid hrf; clear hrf
        have hre := HE.out
        go_wp2_with fail
        go_quiet (fail)
        go_wp2_with fail
        clear hre HE
        rcases HR.out with ⟨a, b⟩ | ⟨a, c, b, d⟩ | ⟨a, c, b, d, e⟩
        · have hb : (((lenC E : Nat) : Int) == 4) = false := beq_eq_false_iff_ne.2 (by omega)
          have hn : F ≠ 4 := by rw [HF.out]; exact b
          clear a b
          clear b0 b1 b2 b3 HR hF4 hFl hF0
          refine wp_region_quiet_below (by kernel_rfl) (by kernel_rfl) ?_
          repeat (quiet_step (exact quiet_s (refLength_any E)))
          refine wpQuiet_nil ?_
          rintro _ ⟨⟨dq, osq⟩, rfl⟩
          go_wp2_with fail
          go_roundw
          case rel => exact ⟨5, by omega, by omega, by go_num, by omega, below_next hbel (below_regrown _ dq osq)⟩
          case measure => simp [intOf]
        · have hb : (((lenC E : Nat) : Int) == 4) = true := beq_iff_eq.2 (by omega)
          have hn : F ≠ 4 := by rw [HF.out]; exact d
          have hone := Lib.hid (fun W => one_any E W c)
          generalize (⟨(encC E).toArray⟩ : ByteArray) = S at *
          have hs2 : (S.toList == (s.extract 0 4).toList) = false := beq_eq_false_iff_ne.2 b
          clear a b c d
          clear b0 b1 b2 b3 HR hF4 hFl hF0
          refine wp_region_quiet_below (by kernel_rfl) (by kernel_rfl) ?_
          repeat (quiet_step (first | exact quiet_s (refLength_any E) | exact quiet_b hone.out))
          refine wpQuiet_nil ?_
          rintro _ ⟨⟨dq, osq⟩, rfl⟩
          go_wp2_with fail
          go_roundw
          case rel => exact ⟨5, by omega, by omega, by go_num, by omega, below_next hbel (below_regrown _ dq osq)⟩
          case measure => simp [intOf]
        · have hb : (((lenC E : Nat) : Int) == 4) = true := beq_iff_eq.2 (by omega)
          have hone := Lib.hid (fun W => one_any E W c)
          generalize (⟨(encC E).toArray⟩ : ByteArray) = S at *
          have hs2 : (S.toList == (s.extract 0 4).toList) = true := beq_iff_eq.2 b
          have HX := Lib.hid (show ((firstP s.data.toList).1 : Int) = E ∧ (firstP s.data.toList).2 = 4 from ⟨e, d⟩)
          clear a b c d e
          clear b0 b1 b2 b3 HR hF4 hFl hF0
          refine wp_region_quiet_below (by kernel_rfl) (by kernel_rfl) ?_
          repeat (quiet_step (first | exact quiet_s (refLength_any E) | exact quiet_b hone.out))
          refine wpQuiet_nil ?_
          rintro _ ⟨⟨dq, osq⟩, rfl⟩
          go_wp2_with fail
          go_ret2
          exact ⟨by rw [HX.out.1, HX.out.2]; rfl, below_next hbel (below_regrown _ dq osq)⟩
    · have hz : F ≤ 0 := by omega
      have hx : (k ≤ 4 ∧ s.size < k) ∨ 4 < k := by omega
      clear hlt
      rcases hx with ⟨h1, h2⟩ | h1
      all_goals
        go_wp2_with fail
        go_ret2
        refine ⟨?_, hbel⟩
        have h0 := hF0.out (by omega)
        have h2 := HF.out
        rw [h0, ← h2]
        obtain rfl : F = 0 := by omega
        rfl
end Go.Proofs.YtecpbicfiaifdaaGreatDoor
/-
  What is scanned, in plain Lean.
-/
namespace Go.Proofs.YtecpbicfiaifdaaGreatDoor
open Go.RowKit ND

theorem Tryz.infoInt : (Tryz.prog.info? 3).map (fun i => (i.zero, i.size, i.bytes)) = some (some (.int .i64 0), 1, 8) := by kernel_rfl

/-- A slice of integers and a number come back; of what was there nothing has turned. -/
def RetInts1 (w : World) (cs : List Int) (k : Int) (e : Ending) (w' : World) : Prop :=
  ∃ v, e = .returned (.tuple #[v, .int .i64 k]) ∧ Ints w' w'.heap.size .i64 v cs ∧ Below w.heap.size w w'


theorem scan_stop {l : List UInt8} {n c : Nat} (hf : firstP l = (c, n)) (h : n = 0) : scanL l = ([], 0) := by
  rw [scanL_eq, hf, if_pos h]
theorem scan_go {l : List UInt8} {n c : Nat} (hf : firstP l = (c, n)) (h : n ≠ 0) : scanL l = ((c : Int) :: (scanL (l.drop n)).1, n + (scanL (l.drop n)).2) := by
  rw [scanL_eq, hf, if_neg h]

theorem scan_rel_stop {s : ByteArray} {p n c : Nat} {acc cs : List Int} {kt : Nat} (h : acc ++ (scanL (s.data.toList.drop p)).1 = cs ∧ p + (scanL (s.data.toList.drop p)).2 = kt) (hf : firstP (s.data.toList.drop p) = (c, n)) (hn : n = 0) :
    acc = cs ∧ p = kt := by
  rw [scan_stop hf hn] at h; simpa using h
theorem scan_rel_end {s : ByteArray} {p : Nat} {acc cs : List Int} {kt : Nat} (h : acc ++ (scanL (s.data.toList.drop p)).1 = cs ∧ p + (scanL (s.data.toList.drop p)).2 = kt) (hp : s.size ≤ p) :
    acc = cs ∧ p = kt := by
  rw [List.drop_of_length_le (by rw [Array.length_toList]; exact hp), scanL_nil] at h; simpa using h
theorem scan_rel_go {s : ByteArray} {p n c : Nat} {acc cs : List Int} {kt : Nat} (h : acc ++ (scanL (s.data.toList.drop p)).1 = cs ∧ p + (scanL (s.data.toList.drop p)).2 = kt) (hf : firstP (s.data.toList.drop p) = (c, n)) (hn : n ≠ 0) :
    (acc ++ [(c : Int)]) ++ (scanL (s.data.toList.drop (p + n))).1 = cs ∧ (p + n) + (scanL (s.data.toList.drop (p + n))).2 = kt := by
  rw [scan_go hf hn, List.drop_drop] at h
  refine ⟨by simpa using h.1, by have := h.2; simp only at this; omega⟩
end Go.Proofs.YtecpbicfiaifdaaGreatDoor
/-
  The walk through the reference's decode.
-/
namespace Go.Proofs.YtecpbicfiaifdaaGreatDoor
open Go.RowKit ND

set_option maxRecDepth 100000 in
set_option maxHeartbeats 1000000 in
theorem refDecode0_any (s : ByteArray) (w : World) (hs : s.size ≤ 2097152) :
    Calls Tryz.prog 60 #[.string s] w (RetInts1 w (scanL s.data.toList).1 (scanL s.data.toList).2) := by
  obtain ⟨i0, hi, hz0, hz1, hz2⟩ := info_parts Tryz.infoInt
  have hs1 : s.size ≤ maxLen := by unfold maxLen; omega
  have hin : Hid ([] ++ (scanL (s.data.toList.drop 0)).1 = (scanL s.data.toList).1 ∧ 0 + (scanL (s.data.toList.drop 0)).2 = (scanL s.data.toList).2) := Lib.hid (by simp)
  generalize (scanL s.data.toList).1 = cs at *
  generalize (scanL s.data.toList).2 = kt at *
  go_enter Tryz.func60, Tryz.ntmps60
  go_wp2_with fail
  go_loopw [4, 5] (fun out i wr => ∃ (p : Nat) (acc : List Int), p ≤ s.size ∧ i = .int .i64 p ∧ wr.ownsRow w.heap.size 3 1 out acc.length (acc.map (Value.int .i64)) ∧ acc.length ≤ p ∧
      Hid (acc ++ (scanL (s.data.toList.drop p)).1 = cs ∧ p + (scanL (s.data.toList.drop p)).2 = kt) ∧ Below w.heap.size w wr) (fun _ i _ => s.size - (intOf i).toNat)
  case atStart => exact ⟨0, [], by omega, rfl, World.ownsRow_nil _ _ _ _, by simp, hin, Below.refl _ _⟩
  case round =>
    obtain ⟨p, acc, hp, rfl, hown, hal, HU, hbel⟩ := hrel
    clear hin
    by_cases hlt : p < s.size
    · have hfs := firstP_some (s.data.toList.drop p)
      obtain ⟨c, n, hf⟩ : ∃ c n, firstP (s.data.toList.drop p) = (c, n) := ⟨_, _, rfl⟩
      have hrf : ∀ W, Calls Tryz.prog 82 #[.string (s.extract p s.size)] W fun e w' => e = .returned (.tuple #[.int .i64 (firstP (s.data.toList.drop p)).1, .int .i64 (firstP (s.data.toList.drop p)).2]) ∧ Below W.heap.size W w' := by
        intro W
        have h := refFirst_any (s.extract p s.size) W (by unfold maxLen; rw [ByteArray.size_extract]; omega)
        rw [Lib.extract_data, List.take_of_length_le (by rw [List.length_drop, Array.length_toList]; exact Nat.le_refl _)] at h
        exact h
      rw [hf] at hrf
      have hrf := Lib.hid hrf
      rw [hf] at hfs
      have HF := Lib.hid hf
      have hfirst : ∀ W, Calls Tryz.prog 82 #[.string (s.extract p s.size)] W fun e w' => e = .returned (.tuple #[.int .i64 c, .int .i64 n]) ∧ Below W.heap.size W w' := by
        intro W
        exact hrf.out W
      have hfirst := Lib.hid hfirst
      by_cases hn : n = 0
      · have hb : ((n : Int) == 0) = true := beq_iff_eq.2 (by omega)
        have HX := Lib.hid (scan_rel_stop HU.out HF.out hn)
        clear hfs hf hn
        go_wp2_with (go_at_call 82; refine (hfirst.out _).mono ?_; rintro e w1 ⟨rfl, b1⟩)
        go_ret2
        have h := HX.out
        rw [← h.1, ← h.2]
        exact ⟨_, rfl, (Ints.of_own hown).later b1, below_then hbel (Nat.le_refl _) b1⟩
      · have hb : ((n : Int) == 0) = false := beq_eq_false_iff_ne.2 (by omega)
        have hpn : p + n ≤ s.size := by
          have h := (hfs hn).2.2.1
          rw [List.length_drop, Array.length_toList] at h
          have e : s.data.size = s.size := rfl
          simp only at h
          omega
        have HX := Lib.hid (scan_rel_go HU.out HF.out hn)
        have hn1 : 1 ≤ n := by omega
        clear hfs hf hn HU
        go_wp2_with fail
        refine (hfirst.out _).mono ?_
        rintro e w1 ⟨rfl, b1⟩
        have hown1 := own_later hown b1
        have hbel1 := below_then hbel (Nat.le_refl _) b1
        clear hown b1 hbel
        go_wp2_with (at_builtin; refine wpList_append_own _ rfl _ _ 22 rfl w.heap.size 3 i0 (.int .i64 0) 1 8 Tryz.underlying22 hi hz0 hz1 hz2 rfl (by decide) _ _ _ rfl (hown1.alloc _) ⟨w1.heap.size, 0, none⟩ 1 1 [.int .i64 (c : Int)] rfl rfl (cell_one_new _ _ _) ?c1 ?c2 ?c3 ?c4 ?_)
        case c1 => intro u hu; simp at hu; subst hu; rfl
        case c2 => unfold maxLen; omega
        case c3 => omega
        case c4 => have := hbel1.size; simp; omega
        intro v' w2 hown2 hgrow _
        have hbel2 : Below w.heap.size w w2 := (hbel1.alloc hbel1.size _).grown hgrow (by have := hbel1.size; simp; omega) (fun k hk => (hown1.lt k hk).1)
        clear hgrow hown1 hbel1
        go_wp2_with fail
        go_roundw
        case rel => exact ⟨p + n, acc ++ [(c : Int)], hpn, by go_num, by simpa using hown2, by simp; omega, HX, hbel2⟩
        case measure => simp [intOf]; omega
    · have HX := Lib.hid (scan_rel_end HU.out (by omega))
      go_wp2_with fail
      go_ret2
      have h := HX.out
      rw [← h.1, ← h.2]
      exact ⟨_, rfl, Ints.of_own hown, hbel⟩
end Go.Proofs.YtecpbicfiaifdaaGreatDoor
/-
  The walk through the reference's Valid.
-/
namespace Go.Proofs.YtecpbicfiaifdaaGreatDoor
open Go.RowKit ND

set_option maxRecDepth 100000 in
set_option maxHeartbeats 400000 in
theorem refDecValid_any (s : ByteArray) (w : World) (hs : s.size ≤ 2097152) : Calls Tryz.prog 27 #[.string s] w fun e w' => e = .returned (.bool ((((scanL s.data.toList).2 : Nat) : Int) == (s.size : Int))) ∧ Below w.heap.size w w' := by
  have hsc := Lib.hid (fun W => refDecode0_any s W hs)
  generalize (scanL s.data.toList).2 = k at *
  generalize (scanL s.data.toList).1 = cs at *
  go_enter Tryz.func27, Tryz.ntmps27
  go_wp2_with fail
  refine (hsc.out _).mono ?_
  rintro e w1 ⟨v, rfl, hv, b1⟩
  clear hv
  go_wp2_with fail
  go_ret
  exact ⟨by first | rfl | simp, b1⟩
end Go.Proofs.YtecpbicfiaifdaaGreatDoor
/-
  The walk through the law SkeletonKey.
-/
namespace Go.Proofs.YtecpbicfiaifdaaGreatDoor
open Go.RowKit ND

theorem enc_inj {x y : List Int} (hx : ∀ c ∈ x, scalarB c = true) (hy : ∀ c ∈ y, scalarB c = true) (h : encAll x = encAll y) : x = y := by
  have h1 := scanL_all x hx
  have h2 := scanL_all y hy
  rw [h, h2] at h1
  exact (congrArg Prod.fst h1).symm
/-- The key of a short sequence. -/
theorem key_short {T : Tab} (h : T.check = 0) {l : List Int} (hs : l.all scalarB = true) (hl : l.length ≤ 12) : keyR T l = (encAll (skelL T l), 0) ∧ (skelL T l).length ≤ 4096 := by
  have h1 := skelR_short h hs hl
  have h2 : (skelL T l).length ≤ 4096 := by
    have h1 := (flatD_len (decOk_of h) l).2
    have h2 := skelM_len (proOk_of h) (nfdL T l)
    rw [nfdL_length] at h2
    rw [skelL_length]; omega
  refine ⟨?_, h2⟩
  rw [keyR_ok h1, encodeL_ok h2 (List.all_eq_true.1 (skelL_scal h hs))]; rfl
theorem key_valid {x : List Int} (hx : ∀ c ∈ x, scalarB c = true) : ((((scanL (encAll x)).2 : Nat) : Int) == ((⟨(encAll x).toArray⟩ : ByteArray).size : Int)) = true := by
  rw [scanL_all x hx]
  have : (⟨(encAll x).toArray⟩ : ByteArray).size = (encAll x).length := by show (encAll x).toArray.size = _; simp
  rw [this]; exact beq_iff_eq.2 rfl
set_option maxRecDepth 100000 in
set_option maxHeartbeats 4000000 in
theorem SkeletonKey_go (W : World) (hg : Glob W) (v : Value) (xs : List Int) (hv : Ints W W.heap.size .i64 v xs) (vm : Value) (ms : List Int) (hvm : Ints W W.heap.size .i64 vm ms) (vo : Value) (os_ : List Int) (hvo : Ints W W.heap.size .i64 vo os_) :
    Calls Tryz.prog 5 #[v, vm, vo] W fun e W' => e = .returned (.bool true) ∧ Below W.heap.size W W' := by
  have HG := Lib.hid hg
  have HM := Lib.hid hvm
  have HO := Lib.hid hvo
  obtain ⟨Ax, cx, rfl, _⟩ := id hv
  obtain ⟨Am, cm, rfl, _⟩ := id hvm
  obtain ⟨Ao, co, rfl, _⟩ := id hvo
  have HT := Lib.hid (keepTables_any W _ xs hv)
  clear hv hg hvm hvo
  go_enter Tryz.func5, Tryz.ntmps5
  go_upto_region 2 with (go_at_call 12; refine HT.out.mono ?_; rintro e w1 ⟨t, T, rfl, ht1, hm1, hb1⟩; obtain ⟨A0, A1, A2, A3, A4, A5, A6, A7, A8, A9, A10, A11, k0, k1, k2, k3, k4, k5, k6, k7, k8, k9, k10, k11, rfl⟩ := ht1.shape; have HT1 := Lib.hid ht1; have HB1 := Lib.hid hb1; have HM1 := Lib.hid hm1; clear ht1 hb1 hm1)
  obtain ⟨t, ht, htb⟩ := Tbl.new HT1.out
  have HT2 := Lib.hid htb
  have HB2 := Lib.hid (HB1.out.alloc HB1.out.size (.cells #[.slice A0 T.category.length k0, .slice A1 T.cls.length k1, .slice A2 T.joining.length k2, .slice A3 T.bidi.length k3, .slice A4 T.script.length k4, .slice A5 T.status.length k5, .slice A6 T.ignorable.length k6, .slice A7 T.extensions.length k7, .slice A8 T.maps.length k8, .slice A9 T.decomps.length k9, .slice A10 T.excluded.length k10, .slice A11 T.prototypes.length k11] 26))
  clear htb HT1 HT
  generalize w1.alloc (.cells #[.slice A0 T.category.length k0, .slice A1 T.cls.length k1, .slice A2 T.joining.length k2, .slice A3 T.bidi.length k3, .slice A4 T.script.length k4, .slice A5 T.status.length k5, .slice A6 T.ignorable.length k6, .slice A7 T.extensions.length k7, .slice A8 T.maps.length k8, .slice A9 T.decomps.length k9, .slice A10 T.excluded.length k10, .slice A11 T.prototypes.length k11] 26) = w2 at *
  generalize w1.heap.size = tb at *
  clear ht
  have hck := HM1.out.check
  have HG2 := Lib.hid (HG.out.later HB2.out)
  have HM2 := Lib.hid (HM.out.later HB2.out)
  have HO2 := Lib.hid (HO.out.later HB2.out)
  clear HG HM HO HM1
  go_upto_region 3 with (first
    | (go_at_call 24; refine (word_any _ (.slice Am ms.length cm) ms HM2.out).mono ?_; rintro e w3 ⟨u3, as_, rfl, ho3, hal, has, b3, _⟩; have hi3 := Ints.of_own ho3; obtain ⟨A3, c3, rfl, _⟩ := id hi3; have HA3 := Lib.hid hi3; have HSA := Lib.hid (words_scal has); have B3 := Lib.hid b3; clear hi3 b3 ho3 HM2 has)
    | (go_at_call 24; refine (word_any _ (.slice Ao os_.length co) os_ (HO2.out.later B3.out)).mono ?_; rintro e w4 ⟨u4, bs, rfl, ho4, hbl, hbs, b4, _⟩; have hi4 := Ints.of_own ho4; obtain ⟨A4, c4, rfl, _⟩ := id hi4; have HB4 := Lib.hid hi4; have HSB := Lib.hid (words_scal hbs); have HA4 := Lib.hid (HA3.out.later b4); have B4 := Lib.hid (below_next B3.out b4); clear hi4 b4 ho4 hbs HA3))
  obtain ⟨ka, la⟩ := key_short hck HSA.out (by omega : as_.length ≤ 12)
  obtain ⟨kb, lb⟩ := key_short hck HSB.out (by omega : bs.length ≤ 12)
  have H1 := Lib.hid (fun W (h : Below w2.heap.size w2 W) hi => skKey_any t T (.slice A3 as_.length c3) as_ W (HT2.out.later h).2 (HG2.out.later h) hi)
  have H2 := Lib.hid (fun W (h : Below w2.heap.size w2 W) hi => skKey_any t T (.slice A4 bs.length c4) bs W (HT2.out.later h).2 (HG2.out.later h) hi)
  rw [ka] at H1
  rw [kb] at H2
  have H3 := Lib.hid (fun W (h : Below w2.heap.size w2 W) hi => refOf_eq t T (.slice A3 as_.length c3) as_ W _ (HT2.out.later h).2 hi (skelR_short hck HSA.out (by omega)))
  have H4 := Lib.hid (fun W (h : Below w2.heap.size w2 W) hi => refOf_eq t T (.slice A4 bs.length c4) bs W _ (HT2.out.later h).2 hi (skelR_short hck HSB.out (by omega)))
  have HSX := Lib.hid (List.all_eq_true.1 (skelL_scal hck HSA.out))
  have HSY := Lib.hid (List.all_eq_true.1 (skelL_scal hck HSB.out))
  clear ka kb hck HSA HSB
  generalize skelL T as_ = al at *
  generalize skelL T bs = bl at *
  have HVL := Lib.hid (fun W => refDecValid_any (⟨(encAll al).toArray⟩ : ByteArray) W (by have := encAll_len al; show (encAll al).toArray.size ≤ _; simp; omega))
  have hkv := key_valid HSX.out
  simp only [] at HVL
  rw [hkv] at HVL
  obtain ⟨R, hR⟩ : ∃ R : Bool, decide (al = bl) = R := ⟨_, rfl⟩
  have HSM := Lib.hid (fun v u w hv hu => same_any v u al bl w hv hu)
  rw [hR] at HSM
  have HEQ : Hid ((⟨(encAll al).toArray⟩ : ByteArray).toList = (⟨(encAll bl).toArray⟩ : ByteArray).toList ↔ al = bl) := Lib.hid ⟨fun h => enc_inj HSX.out HSY.out (by rw [ByteArray.toList_eq, ByteArray.toList_eq] at h; simpa using h), fun h => by rw [h]⟩
  obtain ⟨sa, hsa⟩ : ∃ sa, (⟨(encAll al).toArray⟩ : ByteArray) = sa := ⟨_, rfl⟩
  obtain ⟨sb, hsb⟩ : ∃ sb, (⟨(encAll bl).toArray⟩ : ByteArray) = sb := ⟨_, rfl⟩
  have K1 : Hid (∀ W, Below w2.heap.size w2 W → Ints W W.heap.size .i64 (.slice A3 as_.length c3) as_ → Calls Tryz.prog 25 #[t.val, .slice A3 as_.length c3] W fun e w' => e = .returned (.tuple #[.string sa, .int .i64 0]) ∧ Below W.heap.size W w') := Lib.hid fun W h hi => (H1.out W h hi).mono fun e w' hq => by
    obtain ⟨he, hb⟩ := hq
    exact ⟨he.trans (by rw [← hsa]), hb⟩
  have K2 : Hid (∀ W, Below w2.heap.size w2 W → Ints W W.heap.size .i64 (.slice A4 bs.length c4) bs → Calls Tryz.prog 25 #[t.val, .slice A4 bs.length c4] W fun e w' => e = .returned (.tuple #[.string sb, .int .i64 0]) ∧ Below W.heap.size W w') := Lib.hid fun W h hi => (H2.out W h hi).mono fun e w' hq => by
    obtain ⟨he, hb⟩ := hq
    exact ⟨he.trans (by rw [← hsb]), hb⟩
  rw [hsa] at HVL HEQ
  rw [hsb] at HEQ
  clear hkv HSX HSY H1 H2 hsa hsb
  obtain ⟨x0, x1, x2, x3, x4, x5, x6, x7, x8, x9, x10, x11⟩ := (HT2.out.later B4.out).1.tab
  go_upto_region 4 with (go_at_call 25; refine (K1.out _ B4.out HA4.out).mono ?_; rintro e w5 ⟨rfl, b5⟩; have B5 := Lib.hid (below_next B4.out b5); have HB5 := Lib.hid (HB4.out.later b5); have HA5 := Lib.hid (HA4.out.later b5); clear b5 HB4 HA4 K1)
  clear x0 x1 x2 x3 x4 x5 x6 x7 x8 x9 x10 x11
  obtain ⟨x0, x1, x2, x3, x4, x5, x6, x7, x8, x9, x10, x11⟩ := (HT2.out.later B5.out).1.tab
  go_upto_region 5 with (go_at_call 25; refine (K2.out _ B5.out HB5.out).mono ?_; rintro e w6 ⟨rfl, b6⟩; have B6 := Lib.hid (below_next B5.out b6); have HB6 := Lib.hid (HB5.out.later b6); have HA6 := Lib.hid (HA5.out.later b6); clear b6 HB5 HA5 K2)
  clear x0 x1 x2 x3 x4 x5 x6 x7 x8 x9 x10 x11
  obtain ⟨x0, x1, x2, x3, x4, x5, x6, x7, x8, x9, x10, x11⟩ := (HT2.out.later B6.out).1.tab
  go_upto_region 6 with (go_at_call 26; refine (H3.out _ B6.out HA6.out).mono ?_; rintro e w7 ⟨u7, rfl, ho7, b7⟩; obtain ⟨A7, c7, rfl, _⟩ := id (Ints.of_own ho7); have HX7 := Lib.hid (Ints.of_own ho7); have B7 := Lib.hid (below_next B6.out b7); have HB7 := Lib.hid (HB6.out.later b7); clear b7 ho7 HB6 HA6 H3)
  clear x0 x1 x2 x3 x4 x5 x6 x7 x8 x9 x10 x11
  obtain ⟨x0, x1, x2, x3, x4, x5, x6, x7, x8, x9, x10, x11⟩ := (HT2.out.later B7.out).1.tab
  go_upto_region 7 with (go_at_call 26; refine (H4.out _ B7.out HB7.out).mono ?_; rintro e w8 ⟨u8, rfl, ho8, b8⟩; obtain ⟨A8, c8, rfl, _⟩ := id (Ints.of_own ho8); have HY8 := Lib.hid (Ints.of_own ho8); have B8 := Lib.hid (below_next B7.out b8); have HX8 := Lib.hid (HX7.out.later b8); clear b8 ho8 HB7 HX7 H4)
  clear x0 x1 x2 x3 x4 x5 x6 x7 x8 x9 x10 x11
  cases R with
  | true =>
    have he : al = bl := of_decide_eq_true hR
    have q1 : (sa.toList == sb.toList) = true := beq_iff_eq.2 (HEQ.out.2 he)
    clear he HEQ hR
    go_wp2_with (first
      | (go_at_call 21; refine (awake20 _ (HG2.out.later B8.out)).mono ?_; rintro e w9 ⟨rfl, b9⟩; have B9 := Lib.hid (below_next B8.out b9); have HX9 := Lib.hid (HX8.out.later b9); have HY9 := Lib.hid (HY8.out.later b9); clear b9)
      | (go_at_call 17; refine (HSM.out _ _ _ HX9.out HY9.out).mono ?_; rintro e w10 ⟨rfl, b10⟩; have B10 := Lib.hid (below_next B9.out b10); clear b10)
      | (go_at_call 27; refine (HVL.out _).mono ?_; rintro e w11 ⟨rfl, b11⟩; have B11 := Lib.hid (below_next B10.out b11); clear b11))
    go_ret
    exact ⟨rfl, below_next HB2.out B11.out⟩
  | false =>
    have he : ¬ al = bl := of_decide_eq_false hR
    have q1 : (sa.toList == sb.toList) = false := beq_eq_false_iff_ne.2 (fun h => he (HEQ.out.1 h))
    clear he HEQ hR
    go_wp2_with (first
      | (go_at_call 21; refine (awake20 _ (HG2.out.later B8.out)).mono ?_; rintro e w9 ⟨rfl, b9⟩; have B9 := Lib.hid (below_next B8.out b9); have HX9 := Lib.hid (HX8.out.later b9); have HY9 := Lib.hid (HY8.out.later b9); clear b9)
      | (go_at_call 17; refine (HSM.out _ _ _ HX9.out HY9.out).mono ?_; rintro e w10 ⟨rfl, b10⟩; have B10 := Lib.hid (below_next B9.out b10); clear b10)
      | (go_at_call 27; refine (HVL.out _).mono ?_; rintro e w11 ⟨rfl, b11⟩; have B11 := Lib.hid (below_next B10.out b11); clear b11))
    go_ret
    exact ⟨rfl, below_next HB2.out B11.out⟩
theorem SkeletonKey_walk (W : World) (hg : Glob W) (v : Value) (xs : List Int) (hv : Ints W W.heap.size .i64 v xs) (_ : ∀ x ∈ xs, -9223372036854775808 ≤ x ∧ x ≤ 9223372036854775807) (_ : xs.length * 8 ≤ 140737488351232) (vm : Value) (ms : List Int) (hvm : Ints W W.heap.size .i64 vm ms) (_ : ∀ x ∈ ms, -9223372036854775808 ≤ x ∧ x ≤ 9223372036854775807) (_ : ms.length * 8 ≤ 140737488351232) (vo : Value) (os_ : List Int) (hvo : Ints W W.heap.size .i64 vo os_) (_ : ∀ x ∈ os_, -9223372036854775808 ≤ x ∧ x ≤ 9223372036854775807) (_ : os_.length * 8 ≤ 140737488351232) :
    Calls Tryz.prog 5 #[v, vm, vo] W fun e W' => e = .returned (.bool true) ∧ Below W.heap.size W W' := SkeletonKey_go W hg v xs hv vm ms hvm vo os_ hvo
end Go.Proofs.YtecpbicfiaifdaaGreatDoor
