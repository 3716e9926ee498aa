/-
  Merged texts: lemmas and walks that the last text of this claim leans on.
-/
import Derived.Test.YtjigjjbhdgpfjaaDoorMgB724
import Derived.Test.YtjigjjbhdgpfjaaDoorMgB723
import Derived.Test.YtjigjjbhdgpfjaaDoorMgB77
import Derived.Test.YtjigjjbhdgpfjaaDoorMgB75
import Derived.IntWalk
/-
  The walk through the reference's Bidi.
-/
namespace Go.Proofs.YtjigjjbhdgpfjaaDoor
open Go.RowKit ND

set_option maxRecDepth 100000 in
set_option maxHeartbeats 4000000 in
theorem refBidi_any (t : Tv) (T : Tab) (c : Int) (w : World) (ht : TabR w w.heap.size t T) (hg : GoodS T.bidi) :
    Calls Tryd.prog 24 #[t.val, .int .i64 c] w fun e w' => e = .returned (.int .i64 (T.bidiOf c)) ∧ Below w.heap.size w w' := by
  have HR := Lib.hid (fun o : Obj => refValue_any t.c3 T.bidi c _ (ht.r3.later ((Below.refl _ _).alloc (Nat.le_refl _) o)))
  have HJ := Lib.hid (fun W => refJamo_any c W)
  have HS := Lib.hid (fun W => refSyl_any c W)
  clear ht
  rcases show (c < 0) ∨ (0 ≤ c ∧ c ≤ 31) ∨ (32 ≤ c ∧ c ≤ 32) ∨ (33 ≤ c ∧ c ≤ 44) ∨ (45 ≤ c ∧ c ≤ 45) ∨ (46 ≤ c ∧ c ≤ 46) ∨ (47 ≤ c ∧ c ≤ 47) ∨ (48 ≤ c ∧ c ≤ 57) ∨ (58 ≤ c ∧ c ≤ 64) ∨ (65 ≤ c ∧ c ≤ 90) ∨ (91 ≤ c ∧ c ≤ 96) ∨ (97 ≤ c ∧ c ≤ 122) ∨ (123 ≤ c ∧ c ≤ 126) ∨ (127 ≤ c ∧ c ≤ 127) ∨ (44032 ≤ c ∧ c ≤ 55203) ∨ (4352 ≤ c ∧ c ≤ 4370) ∨ (4449 ≤ c ∧ c ≤ 4469) ∨ (4520 ≤ c ∧ c ≤ 4546) ∨ (128 ≤ c ∧ ¬(44032 ≤ c ∧ c ≤ 55203) ∧ ¬(4352 ≤ c ∧ c ≤ 4370 ∨ 4449 ≤ c ∧ c ≤ 4469 ∨ 4520 ≤ c ∧ c ≤ 4546)) by omega with hc | hc | hc | hc | hc | hc | hc | hc | hc | hc | hc | hc | hc | hc | hc | hc | hc | hc | hc
  · have hv : T.bidiOf c = valueL T.bidi c := propL_free hg (by unfold ownR; omega)
    rw [hv]
    have p0 : decide ((97 : Int) ≤ c) = false := decide_eq_false (by omega)
    have p1 : decide (c ≤ (122 : Int)) = true := decide_eq_true (by omega)
    have p2 : decide ((65 : Int) ≤ c) = false := decide_eq_false (by omega)
    have p3 : decide (c ≤ (90 : Int)) = true := decide_eq_true (by omega)
    have p4 : decide ((48 : Int) ≤ c) = false := decide_eq_false (by omega)
    have p5 : decide (c ≤ (57 : Int)) = true := decide_eq_true (by omega)
    have p6 : (c == (45 : Int)) = false := by rw [beq_eq_false_iff_ne]; omega
    have p7 : (c == (46 : Int)) = false := by rw [beq_eq_false_iff_ne]; omega
    have p8 : decide ((0 : Int) ≤ c) = false := decide_eq_false (by omega)
    have p9 : decide (c ≤ (32 : Int)) = true := decide_eq_true (by omega)
    have p10 : (c == (127 : Int)) = false := by rw [beq_eq_false_iff_ne]; omega
    have p11 : decide ((32 : Int) < c) = false := decide_eq_false (by omega)
    have p12 : decide (c < (127 : Int)) = true := decide_eq_true (by omega)
    have hs : sylB c = false := syl_no (by omega)
    have hj : jamoB c = false := jamo_no (by omega)
    rw [hs] at HS
    rw [hj] at HJ
    clear hs hj hc hv hg
    go_enter Tryd.func24, Tryd.ntmps24
    go_wp2_with (first | (go_at_call 73; refine (HS.out _).mono ?_; rintro e w1 ⟨rfl, rfl⟩) | (go_at_call 103; refine (HJ.out _).mono ?_; rintro e w1 ⟨rfl, rfl⟩) | (go_at_call 51; refine (HR.out _).mono ?_; rintro e w1 ⟨rfl, b1⟩))
    go_ret
    exact ⟨rfl, below_next ((Below.refl _ _).alloc (Nat.le_refl _) _) b1⟩
  · have hv : T.bidiOf c = 11 := by
      unfold Tab.bidiOf
      rw [propL_res hg (by unfold ownR; omega)]
      unfold fixC
      repeat (first | rw [if_pos (by omega)] | rw [if_neg (by omega)])
    rw [hv]
    have p0 : decide ((97 : Int) ≤ c) = false := decide_eq_false (by omega)
    have p1 : decide (c ≤ (122 : Int)) = true := decide_eq_true (by omega)
    have p2 : decide ((65 : Int) ≤ c) = false := decide_eq_false (by omega)
    have p3 : decide (c ≤ (90 : Int)) = true := decide_eq_true (by omega)
    have p4 : decide ((48 : Int) ≤ c) = false := decide_eq_false (by omega)
    have p5 : decide (c ≤ (57 : Int)) = true := decide_eq_true (by omega)
    have p6 : (c == (45 : Int)) = false := by rw [beq_eq_false_iff_ne]; omega
    have p7 : (c == (46 : Int)) = false := by rw [beq_eq_false_iff_ne]; omega
    have p8 : decide ((0 : Int) ≤ c) = true := decide_eq_true (by omega)
    have p9 : decide (c ≤ (32 : Int)) = true := decide_eq_true (by omega)
    have p10 : (c == (127 : Int)) = false := by rw [beq_eq_false_iff_ne]; omega
    have p11 : decide ((32 : Int) < c) = false := decide_eq_false (by omega)
    have p12 : decide (c < (127 : Int)) = true := decide_eq_true (by omega)
    have hs : sylB c = false := syl_no (by omega)
    have hj : jamoB c = false := jamo_no (by omega)
    rw [hs] at HS
    rw [hj] at HJ
    clear hs hj hc hv hg
    go_enter Tryd.func24, Tryd.ntmps24
    go_wp2_with (first | (go_at_call 73; refine (HS.out _).mono ?_; rintro e w1 ⟨rfl, rfl⟩) | (go_at_call 103; refine (HJ.out _).mono ?_; rintro e w1 ⟨rfl, rfl⟩) | (go_at_call 51; refine (HR.out _).mono ?_; rintro e w1 ⟨rfl, b1⟩))
    go_ret
    exact ⟨rfl, (Below.refl _ _).alloc (Nat.le_refl _) _⟩
  · have hv : T.bidiOf c = 11 := by
      unfold Tab.bidiOf
      rw [propL_res hg (by unfold ownR; omega)]
      unfold fixC
      repeat (first | rw [if_pos (by omega)] | rw [if_neg (by omega)])
    rw [hv]
    have p0 : decide ((97 : Int) ≤ c) = false := decide_eq_false (by omega)
    have p1 : decide (c ≤ (122 : Int)) = true := decide_eq_true (by omega)
    have p2 : decide ((65 : Int) ≤ c) = false := decide_eq_false (by omega)
    have p3 : decide (c ≤ (90 : Int)) = true := decide_eq_true (by omega)
    have p4 : decide ((48 : Int) ≤ c) = false := decide_eq_false (by omega)
    have p5 : decide (c ≤ (57 : Int)) = true := decide_eq_true (by omega)
    have p6 : (c == (45 : Int)) = false := by rw [beq_eq_false_iff_ne]; omega
    have p7 : (c == (46 : Int)) = false := by rw [beq_eq_false_iff_ne]; omega
    have p8 : decide ((0 : Int) ≤ c) = true := decide_eq_true (by omega)
    have p9 : decide (c ≤ (32 : Int)) = true := decide_eq_true (by omega)
    have p10 : (c == (127 : Int)) = false := by rw [beq_eq_false_iff_ne]; omega
    have p11 : decide ((32 : Int) < c) = false := decide_eq_false (by omega)
    have p12 : decide (c < (127 : Int)) = true := decide_eq_true (by omega)
    have hs : sylB c = false := syl_no (by omega)
    have hj : jamoB c = false := jamo_no (by omega)
    rw [hs] at HS
    rw [hj] at HJ
    clear hs hj hc hv hg
    go_enter Tryd.func24, Tryd.ntmps24
    go_wp2_with (first | (go_at_call 73; refine (HS.out _).mono ?_; rintro e w1 ⟨rfl, rfl⟩) | (go_at_call 103; refine (HJ.out _).mono ?_; rintro e w1 ⟨rfl, rfl⟩) | (go_at_call 51; refine (HR.out _).mono ?_; rintro e w1 ⟨rfl, b1⟩))
    go_ret
    exact ⟨rfl, (Below.refl _ _).alloc (Nat.le_refl _) _⟩
  · have hv : T.bidiOf c = 8 := by
      unfold Tab.bidiOf
      rw [propL_res hg (by unfold ownR; omega)]
      unfold fixC
      repeat (first | rw [if_pos (by omega)] | rw [if_neg (by omega)])
    rw [hv]
    have p0 : decide ((97 : Int) ≤ c) = false := decide_eq_false (by omega)
    have p1 : decide (c ≤ (122 : Int)) = true := decide_eq_true (by omega)
    have p2 : decide ((65 : Int) ≤ c) = false := decide_eq_false (by omega)
    have p3 : decide (c ≤ (90 : Int)) = true := decide_eq_true (by omega)
    have p4 : decide ((48 : Int) ≤ c) = false := decide_eq_false (by omega)
    have p5 : decide (c ≤ (57 : Int)) = true := decide_eq_true (by omega)
    have p6 : (c == (45 : Int)) = false := by rw [beq_eq_false_iff_ne]; omega
    have p7 : (c == (46 : Int)) = false := by rw [beq_eq_false_iff_ne]; omega
    have p8 : decide ((0 : Int) ≤ c) = true := decide_eq_true (by omega)
    have p9 : decide (c ≤ (32 : Int)) = false := decide_eq_false (by omega)
    have p10 : (c == (127 : Int)) = false := by rw [beq_eq_false_iff_ne]; omega
    have p11 : decide ((32 : Int) < c) = true := decide_eq_true (by omega)
    have p12 : decide (c < (127 : Int)) = true := decide_eq_true (by omega)
    have hs : sylB c = false := syl_no (by omega)
    have hj : jamoB c = false := jamo_no (by omega)
    rw [hs] at HS
    rw [hj] at HJ
    clear hs hj hc hv hg
    go_enter Tryd.func24, Tryd.ntmps24
    go_wp2_with (first | (go_at_call 73; refine (HS.out _).mono ?_; rintro e w1 ⟨rfl, rfl⟩) | (go_at_call 103; refine (HJ.out _).mono ?_; rintro e w1 ⟨rfl, rfl⟩) | (go_at_call 51; refine (HR.out _).mono ?_; rintro e w1 ⟨rfl, b1⟩))
    go_ret
    exact ⟨rfl, (Below.refl _ _).alloc (Nat.le_refl _) _⟩
  · have hv : T.bidiOf c = 5 := by
      unfold Tab.bidiOf
      rw [propL_res hg (by unfold ownR; omega)]
      unfold fixC
      repeat (first | rw [if_pos (by omega)] | rw [if_neg (by omega)])
    rw [hv]
    have p0 : decide ((97 : Int) ≤ c) = false := decide_eq_false (by omega)
    have p1 : decide (c ≤ (122 : Int)) = true := decide_eq_true (by omega)
    have p2 : decide ((65 : Int) ≤ c) = false := decide_eq_false (by omega)
    have p3 : decide (c ≤ (90 : Int)) = true := decide_eq_true (by omega)
    have p4 : decide ((48 : Int) ≤ c) = false := decide_eq_false (by omega)
    have p5 : decide (c ≤ (57 : Int)) = true := decide_eq_true (by omega)
    have p6 : (c == (45 : Int)) = true := by rw [beq_iff_eq]; omega
    have p7 : (c == (46 : Int)) = false := by rw [beq_eq_false_iff_ne]; omega
    have p8 : decide ((0 : Int) ≤ c) = true := decide_eq_true (by omega)
    have p9 : decide (c ≤ (32 : Int)) = false := decide_eq_false (by omega)
    have p10 : (c == (127 : Int)) = false := by rw [beq_eq_false_iff_ne]; omega
    have p11 : decide ((32 : Int) < c) = true := decide_eq_true (by omega)
    have p12 : decide (c < (127 : Int)) = true := decide_eq_true (by omega)
    have hs : sylB c = false := syl_no (by omega)
    have hj : jamoB c = false := jamo_no (by omega)
    rw [hs] at HS
    rw [hj] at HJ
    clear hs hj hc hv hg
    go_enter Tryd.func24, Tryd.ntmps24
    go_wp2_with (first | (go_at_call 73; refine (HS.out _).mono ?_; rintro e w1 ⟨rfl, rfl⟩) | (go_at_call 103; refine (HJ.out _).mono ?_; rintro e w1 ⟨rfl, rfl⟩) | (go_at_call 51; refine (HR.out _).mono ?_; rintro e w1 ⟨rfl, b1⟩))
    go_ret
    exact ⟨rfl, (Below.refl _ _).alloc (Nat.le_refl _) _⟩
  · have hv : T.bidiOf c = 6 := by
      unfold Tab.bidiOf
      rw [propL_res hg (by unfold ownR; omega)]
      unfold fixC
      repeat (first | rw [if_pos (by omega)] | rw [if_neg (by omega)])
    rw [hv]
    have p0 : decide ((97 : Int) ≤ c) = false := decide_eq_false (by omega)
    have p1 : decide (c ≤ (122 : Int)) = true := decide_eq_true (by omega)
    have p2 : decide ((65 : Int) ≤ c) = false := decide_eq_false (by omega)
    have p3 : decide (c ≤ (90 : Int)) = true := decide_eq_true (by omega)
    have p4 : decide ((48 : Int) ≤ c) = false := decide_eq_false (by omega)
    have p5 : decide (c ≤ (57 : Int)) = true := decide_eq_true (by omega)
    have p6 : (c == (45 : Int)) = false := by rw [beq_eq_false_iff_ne]; omega
    have p7 : (c == (46 : Int)) = true := by rw [beq_iff_eq]; omega
    have p8 : decide ((0 : Int) ≤ c) = true := decide_eq_true (by omega)
    have p9 : decide (c ≤ (32 : Int)) = false := decide_eq_false (by omega)
    have p10 : (c == (127 : Int)) = false := by rw [beq_eq_false_iff_ne]; omega
    have p11 : decide ((32 : Int) < c) = true := decide_eq_true (by omega)
    have p12 : decide (c < (127 : Int)) = true := decide_eq_true (by omega)
    have hs : sylB c = false := syl_no (by omega)
    have hj : jamoB c = false := jamo_no (by omega)
    rw [hs] at HS
    rw [hj] at HJ
    clear hs hj hc hv hg
    go_enter Tryd.func24, Tryd.ntmps24
    go_wp2_with (first | (go_at_call 73; refine (HS.out _).mono ?_; rintro e w1 ⟨rfl, rfl⟩) | (go_at_call 103; refine (HJ.out _).mono ?_; rintro e w1 ⟨rfl, rfl⟩) | (go_at_call 51; refine (HR.out _).mono ?_; rintro e w1 ⟨rfl, b1⟩))
    go_ret
    exact ⟨rfl, (Below.refl _ _).alloc (Nat.le_refl _) _⟩
  · have hv : T.bidiOf c = 8 := by
      unfold Tab.bidiOf
      rw [propL_res hg (by unfold ownR; omega)]
      unfold fixC
      repeat (first | rw [if_pos (by omega)] | rw [if_neg (by omega)])
    rw [hv]
    have p0 : decide ((97 : Int) ≤ c) = false := decide_eq_false (by omega)
    have p1 : decide (c ≤ (122 : Int)) = true := decide_eq_true (by omega)
    have p2 : decide ((65 : Int) ≤ c) = false := decide_eq_false (by omega)
    have p3 : decide (c ≤ (90 : Int)) = true := decide_eq_true (by omega)
    have p4 : decide ((48 : Int) ≤ c) = false := decide_eq_false (by omega)
    have p5 : decide (c ≤ (57 : Int)) = true := decide_eq_true (by omega)
    have p6 : (c == (45 : Int)) = false := by rw [beq_eq_false_iff_ne]; omega
    have p7 : (c == (46 : Int)) = false := by rw [beq_eq_false_iff_ne]; omega
    have p8 : decide ((0 : Int) ≤ c) = true := decide_eq_true (by omega)
    have p9 : decide (c ≤ (32 : Int)) = false := decide_eq_false (by omega)
    have p10 : (c == (127 : Int)) = false := by rw [beq_eq_false_iff_ne]; omega
    have p11 : decide ((32 : Int) < c) = true := decide_eq_true (by omega)
    have p12 : decide (c < (127 : Int)) = true := decide_eq_true (by omega)
    have hs : sylB c = false := syl_no (by omega)
    have hj : jamoB c = false := jamo_no (by omega)
    rw [hs] at HS
    rw [hj] at HJ
    clear hs hj hc hv hg
    go_enter Tryd.func24, Tryd.ntmps24
    go_wp2_with (first | (go_at_call 73; refine (HS.out _).mono ?_; rintro e w1 ⟨rfl, rfl⟩) | (go_at_call 103; refine (HJ.out _).mono ?_; rintro e w1 ⟨rfl, rfl⟩) | (go_at_call 51; refine (HR.out _).mono ?_; rintro e w1 ⟨rfl, b1⟩))
    go_ret
    exact ⟨rfl, (Below.refl _ _).alloc (Nat.le_refl _) _⟩
  · have hv : T.bidiOf c = 4 := by
      unfold Tab.bidiOf
      rw [propL_res hg (by unfold ownR; omega)]
      unfold fixC
      repeat (first | rw [if_pos (by omega)] | rw [if_neg (by omega)])
    rw [hv]
    have p0 : decide ((97 : Int) ≤ c) = false := decide_eq_false (by omega)
    have p1 : decide (c ≤ (122 : Int)) = true := decide_eq_true (by omega)
    have p2 : decide ((65 : Int) ≤ c) = false := decide_eq_false (by omega)
    have p3 : decide (c ≤ (90 : Int)) = true := decide_eq_true (by omega)
    have p4 : decide ((48 : Int) ≤ c) = true := decide_eq_true (by omega)
    have p5 : decide (c ≤ (57 : Int)) = true := decide_eq_true (by omega)
    have p6 : (c == (45 : Int)) = false := by rw [beq_eq_false_iff_ne]; omega
    have p7 : (c == (46 : Int)) = false := by rw [beq_eq_false_iff_ne]; omega
    have p8 : decide ((0 : Int) ≤ c) = true := decide_eq_true (by omega)
    have p9 : decide (c ≤ (32 : Int)) = false := decide_eq_false (by omega)
    have p10 : (c == (127 : Int)) = false := by rw [beq_eq_false_iff_ne]; omega
    have p11 : decide ((32 : Int) < c) = true := decide_eq_true (by omega)
    have p12 : decide (c < (127 : Int)) = true := decide_eq_true (by omega)
    have hs : sylB c = false := syl_no (by omega)
    have hj : jamoB c = false := jamo_no (by omega)
    rw [hs] at HS
    rw [hj] at HJ
    clear hs hj hc hv hg
    go_enter Tryd.func24, Tryd.ntmps24
    go_wp2_with (first | (go_at_call 73; refine (HS.out _).mono ?_; rintro e w1 ⟨rfl, rfl⟩) | (go_at_call 103; refine (HJ.out _).mono ?_; rintro e w1 ⟨rfl, rfl⟩) | (go_at_call 51; refine (HR.out _).mono ?_; rintro e w1 ⟨rfl, b1⟩))
    go_ret
    exact ⟨rfl, (Below.refl _ _).alloc (Nat.le_refl _) _⟩
  · have hv : T.bidiOf c = 8 := by
      unfold Tab.bidiOf
      rw [propL_res hg (by unfold ownR; omega)]
      unfold fixC
      repeat (first | rw [if_pos (by omega)] | rw [if_neg (by omega)])
    rw [hv]
    have p0 : decide ((97 : Int) ≤ c) = false := decide_eq_false (by omega)
    have p1 : decide (c ≤ (122 : Int)) = true := decide_eq_true (by omega)
    have p2 : decide ((65 : Int) ≤ c) = false := decide_eq_false (by omega)
    have p3 : decide (c ≤ (90 : Int)) = true := decide_eq_true (by omega)
    have p4 : decide ((48 : Int) ≤ c) = true := decide_eq_true (by omega)
    have p5 : decide (c ≤ (57 : Int)) = false := decide_eq_false (by omega)
    have p6 : (c == (45 : Int)) = false := by rw [beq_eq_false_iff_ne]; omega
    have p7 : (c == (46 : Int)) = false := by rw [beq_eq_false_iff_ne]; omega
    have p8 : decide ((0 : Int) ≤ c) = true := decide_eq_true (by omega)
    have p9 : decide (c ≤ (32 : Int)) = false := decide_eq_false (by omega)
    have p10 : (c == (127 : Int)) = false := by rw [beq_eq_false_iff_ne]; omega
    have p11 : decide ((32 : Int) < c) = true := decide_eq_true (by omega)
    have p12 : decide (c < (127 : Int)) = true := decide_eq_true (by omega)
    have hs : sylB c = false := syl_no (by omega)
    have hj : jamoB c = false := jamo_no (by omega)
    rw [hs] at HS
    rw [hj] at HJ
    clear hs hj hc hv hg
    go_enter Tryd.func24, Tryd.ntmps24
    go_wp2_with (first | (go_at_call 73; refine (HS.out _).mono ?_; rintro e w1 ⟨rfl, rfl⟩) | (go_at_call 103; refine (HJ.out _).mono ?_; rintro e w1 ⟨rfl, rfl⟩) | (go_at_call 51; refine (HR.out _).mono ?_; rintro e w1 ⟨rfl, b1⟩))
    go_ret
    exact ⟨rfl, (Below.refl _ _).alloc (Nat.le_refl _) _⟩
  · have hv : T.bidiOf c = 0 := by
      unfold Tab.bidiOf
      rw [propL_res hg (by unfold ownR; omega)]
      unfold fixC
      repeat (first | rw [if_pos (by omega)] | rw [if_neg (by omega)])
    rw [hv]
    have p0 : decide ((97 : Int) ≤ c) = false := decide_eq_false (by omega)
    have p1 : decide (c ≤ (122 : Int)) = true := decide_eq_true (by omega)
    have p2 : decide ((65 : Int) ≤ c) = true := decide_eq_true (by omega)
    have p3 : decide (c ≤ (90 : Int)) = true := decide_eq_true (by omega)
    have p4 : decide ((48 : Int) ≤ c) = true := decide_eq_true (by omega)
    have p5 : decide (c ≤ (57 : Int)) = false := decide_eq_false (by omega)
    have p6 : (c == (45 : Int)) = false := by rw [beq_eq_false_iff_ne]; omega
    have p7 : (c == (46 : Int)) = false := by rw [beq_eq_false_iff_ne]; omega
    have p8 : decide ((0 : Int) ≤ c) = true := decide_eq_true (by omega)
    have p9 : decide (c ≤ (32 : Int)) = false := decide_eq_false (by omega)
    have p10 : (c == (127 : Int)) = false := by rw [beq_eq_false_iff_ne]; omega
    have p11 : decide ((32 : Int) < c) = true := decide_eq_true (by omega)
    have p12 : decide (c < (127 : Int)) = true := decide_eq_true (by omega)
    have hs : sylB c = false := syl_no (by omega)
    have hj : jamoB c = false := jamo_no (by omega)
    rw [hs] at HS
    rw [hj] at HJ
    clear hs hj hc hv hg
    go_enter Tryd.func24, Tryd.ntmps24
    go_wp2_with (first | (go_at_call 73; refine (HS.out _).mono ?_; rintro e w1 ⟨rfl, rfl⟩) | (go_at_call 103; refine (HJ.out _).mono ?_; rintro e w1 ⟨rfl, rfl⟩) | (go_at_call 51; refine (HR.out _).mono ?_; rintro e w1 ⟨rfl, b1⟩))
    go_ret
    exact ⟨rfl, (Below.refl _ _).alloc (Nat.le_refl _) _⟩
  · have hv : T.bidiOf c = 8 := by
      unfold Tab.bidiOf
      rw [propL_res hg (by unfold ownR; omega)]
      unfold fixC
      repeat (first | rw [if_pos (by omega)] | rw [if_neg (by omega)])
    rw [hv]
    have p0 : decide ((97 : Int) ≤ c) = false := decide_eq_false (by omega)
    have p1 : decide (c ≤ (122 : Int)) = true := decide_eq_true (by omega)
    have p2 : decide ((65 : Int) ≤ c) = true := decide_eq_true (by omega)
    have p3 : decide (c ≤ (90 : Int)) = false := decide_eq_false (by omega)
    have p4 : decide ((48 : Int) ≤ c) = true := decide_eq_true (by omega)
    have p5 : decide (c ≤ (57 : Int)) = false := decide_eq_false (by omega)
    have p6 : (c == (45 : Int)) = false := by rw [beq_eq_false_iff_ne]; omega
    have p7 : (c == (46 : Int)) = false := by rw [beq_eq_false_iff_ne]; omega
    have p8 : decide ((0 : Int) ≤ c) = true := decide_eq_true (by omega)
    have p9 : decide (c ≤ (32 : Int)) = false := decide_eq_false (by omega)
    have p10 : (c == (127 : Int)) = false := by rw [beq_eq_false_iff_ne]; omega
    have p11 : decide ((32 : Int) < c) = true := decide_eq_true (by omega)
    have p12 : decide (c < (127 : Int)) = true := decide_eq_true (by omega)
    have hs : sylB c = false := syl_no (by omega)
    have hj : jamoB c = false := jamo_no (by omega)
    rw [hs] at HS
    rw [hj] at HJ
    clear hs hj hc hv hg
    go_enter Tryd.func24, Tryd.ntmps24
    go_wp2_with (first | (go_at_call 73; refine (HS.out _).mono ?_; rintro e w1 ⟨rfl, rfl⟩) | (go_at_call 103; refine (HJ.out _).mono ?_; rintro e w1 ⟨rfl, rfl⟩) | (go_at_call 51; refine (HR.out _).mono ?_; rintro e w1 ⟨rfl, b1⟩))
    go_ret
    exact ⟨rfl, (Below.refl _ _).alloc (Nat.le_refl _) _⟩
  · have hv : T.bidiOf c = 0 := by
      unfold Tab.bidiOf
      rw [propL_res hg (by unfold ownR; omega)]
      unfold fixC
      repeat (first | rw [if_pos (by omega)] | rw [if_neg (by omega)])
    rw [hv]
    have p0 : decide ((97 : Int) ≤ c) = true := decide_eq_true (by omega)
    have p1 : decide (c ≤ (122 : Int)) = true := decide_eq_true (by omega)
    have p2 : decide ((65 : Int) ≤ c) = true := decide_eq_true (by omega)
    have p3 : decide (c ≤ (90 : Int)) = false := decide_eq_false (by omega)
    have p4 : decide ((48 : Int) ≤ c) = true := decide_eq_true (by omega)
    have p5 : decide (c ≤ (57 : Int)) = false := decide_eq_false (by omega)
    have p6 : (c == (45 : Int)) = false := by rw [beq_eq_false_iff_ne]; omega
    have p7 : (c == (46 : Int)) = false := by rw [beq_eq_false_iff_ne]; omega
    have p8 : decide ((0 : Int) ≤ c) = true := decide_eq_true (by omega)
    have p9 : decide (c ≤ (32 : Int)) = false := decide_eq_false (by omega)
    have p10 : (c == (127 : Int)) = false := by rw [beq_eq_false_iff_ne]; omega
    have p11 : decide ((32 : Int) < c) = true := decide_eq_true (by omega)
    have p12 : decide (c < (127 : Int)) = true := decide_eq_true (by omega)
    have hs : sylB c = false := syl_no (by omega)
    have hj : jamoB c = false := jamo_no (by omega)
    rw [hs] at HS
    rw [hj] at HJ
    clear hs hj hc hv hg
    go_enter Tryd.func24, Tryd.ntmps24
    go_wp2_with (first | (go_at_call 73; refine (HS.out _).mono ?_; rintro e w1 ⟨rfl, rfl⟩) | (go_at_call 103; refine (HJ.out _).mono ?_; rintro e w1 ⟨rfl, rfl⟩) | (go_at_call 51; refine (HR.out _).mono ?_; rintro e w1 ⟨rfl, b1⟩))
    go_ret
    exact ⟨rfl, (Below.refl _ _).alloc (Nat.le_refl _) _⟩
  · have hv : T.bidiOf c = 8 := by
      unfold Tab.bidiOf
      rw [propL_res hg (by unfold ownR; omega)]
      unfold fixC
      repeat (first | rw [if_pos (by omega)] | rw [if_neg (by omega)])
    rw [hv]
    have p0 : decide ((97 : Int) ≤ c) = true := decide_eq_true (by omega)
    have p1 : decide (c ≤ (122 : Int)) = false := decide_eq_false (by omega)
    have p2 : decide ((65 : Int) ≤ c) = true := decide_eq_true (by omega)
    have p3 : decide (c ≤ (90 : Int)) = false := decide_eq_false (by omega)
    have p4 : decide ((48 : Int) ≤ c) = true := decide_eq_true (by omega)
    have p5 : decide (c ≤ (57 : Int)) = false := decide_eq_false (by omega)
    have p6 : (c == (45 : Int)) = false := by rw [beq_eq_false_iff_ne]; omega
    have p7 : (c == (46 : Int)) = false := by rw [beq_eq_false_iff_ne]; omega
    have p8 : decide ((0 : Int) ≤ c) = true := decide_eq_true (by omega)
    have p9 : decide (c ≤ (32 : Int)) = false := decide_eq_false (by omega)
    have p10 : (c == (127 : Int)) = false := by rw [beq_eq_false_iff_ne]; omega
    have p11 : decide ((32 : Int) < c) = true := decide_eq_true (by omega)
    have p12 : decide (c < (127 : Int)) = true := decide_eq_true (by omega)
    have hs : sylB c = false := syl_no (by omega)
    have hj : jamoB c = false := jamo_no (by omega)
    rw [hs] at HS
    rw [hj] at HJ
    clear hs hj hc hv hg
    go_enter Tryd.func24, Tryd.ntmps24
    go_wp2_with (first | (go_at_call 73; refine (HS.out _).mono ?_; rintro e w1 ⟨rfl, rfl⟩) | (go_at_call 103; refine (HJ.out _).mono ?_; rintro e w1 ⟨rfl, rfl⟩) | (go_at_call 51; refine (HR.out _).mono ?_; rintro e w1 ⟨rfl, b1⟩))
    go_ret
    exact ⟨rfl, (Below.refl _ _).alloc (Nat.le_refl _) _⟩
  · have hv : T.bidiOf c = 11 := by
      unfold Tab.bidiOf
      rw [propL_res hg (by unfold ownR; omega)]
      unfold fixC
      repeat (first | rw [if_pos (by omega)] | rw [if_neg (by omega)])
    rw [hv]
    have p0 : decide ((97 : Int) ≤ c) = true := decide_eq_true (by omega)
    have p1 : decide (c ≤ (122 : Int)) = false := decide_eq_false (by omega)
    have p2 : decide ((65 : Int) ≤ c) = true := decide_eq_true (by omega)
    have p3 : decide (c ≤ (90 : Int)) = false := decide_eq_false (by omega)
    have p4 : decide ((48 : Int) ≤ c) = true := decide_eq_true (by omega)
    have p5 : decide (c ≤ (57 : Int)) = false := decide_eq_false (by omega)
    have p6 : (c == (45 : Int)) = false := by rw [beq_eq_false_iff_ne]; omega
    have p7 : (c == (46 : Int)) = false := by rw [beq_eq_false_iff_ne]; omega
    have p8 : decide ((0 : Int) ≤ c) = true := decide_eq_true (by omega)
    have p9 : decide (c ≤ (32 : Int)) = false := decide_eq_false (by omega)
    have p10 : (c == (127 : Int)) = true := by rw [beq_iff_eq]; omega
    have p11 : decide ((32 : Int) < c) = true := decide_eq_true (by omega)
    have p12 : decide (c < (127 : Int)) = false := decide_eq_false (by omega)
    have hs : sylB c = false := syl_no (by omega)
    have hj : jamoB c = false := jamo_no (by omega)
    rw [hs] at HS
    rw [hj] at HJ
    clear hs hj hc hv hg
    go_enter Tryd.func24, Tryd.ntmps24
    go_wp2_with (first | (go_at_call 73; refine (HS.out _).mono ?_; rintro e w1 ⟨rfl, rfl⟩) | (go_at_call 103; refine (HJ.out _).mono ?_; rintro e w1 ⟨rfl, rfl⟩) | (go_at_call 51; refine (HR.out _).mono ?_; rintro e w1 ⟨rfl, b1⟩))
    go_ret
    exact ⟨rfl, (Below.refl _ _).alloc (Nat.le_refl _) _⟩
  · have hv : T.bidiOf c = valueL T.bidi c := by rw [show T.bidiOf c = 0 by unfold Tab.bidiOf; rw [propL_res hg (by unfold ownR; omega)]; unfold fixC; repeat (first | rw [if_pos (by omega)] | rw [if_neg (by omega)])]; exact (value_res hg.2.2 ((resB_iff c).2 (by omega))).symm
    rw [hv]
    have p0 : decide ((97 : Int) ≤ c) = true := decide_eq_true (by omega)
    have p1 : decide (c ≤ (122 : Int)) = false := decide_eq_false (by omega)
    have p2 : decide ((65 : Int) ≤ c) = true := decide_eq_true (by omega)
    have p3 : decide (c ≤ (90 : Int)) = false := decide_eq_false (by omega)
    have p4 : decide ((48 : Int) ≤ c) = true := decide_eq_true (by omega)
    have p5 : decide (c ≤ (57 : Int)) = false := decide_eq_false (by omega)
    have p6 : (c == (45 : Int)) = false := by rw [beq_eq_false_iff_ne]; omega
    have p7 : (c == (46 : Int)) = false := by rw [beq_eq_false_iff_ne]; omega
    have p8 : decide ((0 : Int) ≤ c) = true := decide_eq_true (by omega)
    have p9 : decide (c ≤ (32 : Int)) = false := decide_eq_false (by omega)
    have p10 : (c == (127 : Int)) = false := by rw [beq_eq_false_iff_ne]; omega
    have p11 : decide ((32 : Int) < c) = true := decide_eq_true (by omega)
    have p12 : decide (c < (127 : Int)) = false := decide_eq_false (by omega)
    clear hc hv hg
    go_enter Tryd.func24, Tryd.ntmps24
    go_wp2_with (first | (go_at_call 73; refine (HS.out _).mono ?_; rintro e w1 ⟨rfl, rfl⟩) | (go_at_call 103; refine (HJ.out _).mono ?_; rintro e w1 ⟨rfl, rfl⟩) | (go_at_call 51; refine (HR.out _).mono ?_; rintro e w1 ⟨rfl, b1⟩))
    go_ret
    exact ⟨rfl, below_next ((Below.refl _ _).alloc (Nat.le_refl _) _) b1⟩
  · have hv : T.bidiOf c = valueL T.bidi c := by rw [show T.bidiOf c = 0 by unfold Tab.bidiOf; rw [propL_res hg (by unfold ownR; omega)]; unfold fixC; repeat (first | rw [if_pos (by omega)] | rw [if_neg (by omega)])]; exact (value_res hg.2.2 ((resB_iff c).2 (by omega))).symm
    rw [hv]
    have p0 : decide ((97 : Int) ≤ c) = true := decide_eq_true (by omega)
    have p1 : decide (c ≤ (122 : Int)) = false := decide_eq_false (by omega)
    have p2 : decide ((65 : Int) ≤ c) = true := decide_eq_true (by omega)
    have p3 : decide (c ≤ (90 : Int)) = false := decide_eq_false (by omega)
    have p4 : decide ((48 : Int) ≤ c) = true := decide_eq_true (by omega)
    have p5 : decide (c ≤ (57 : Int)) = false := decide_eq_false (by omega)
    have p6 : (c == (45 : Int)) = false := by rw [beq_eq_false_iff_ne]; omega
    have p7 : (c == (46 : Int)) = false := by rw [beq_eq_false_iff_ne]; omega
    have p8 : decide ((0 : Int) ≤ c) = true := decide_eq_true (by omega)
    have p9 : decide (c ≤ (32 : Int)) = false := decide_eq_false (by omega)
    have p10 : (c == (127 : Int)) = false := by rw [beq_eq_false_iff_ne]; omega
    have p11 : decide ((32 : Int) < c) = true := decide_eq_true (by omega)
    have p12 : decide (c < (127 : Int)) = false := decide_eq_false (by omega)
    clear hc hv hg
    go_enter Tryd.func24, Tryd.ntmps24
    go_wp2_with (first | (go_at_call 73; refine (HS.out _).mono ?_; rintro e w1 ⟨rfl, rfl⟩) | (go_at_call 103; refine (HJ.out _).mono ?_; rintro e w1 ⟨rfl, rfl⟩) | (go_at_call 51; refine (HR.out _).mono ?_; rintro e w1 ⟨rfl, b1⟩))
    go_ret
    exact ⟨rfl, below_next ((Below.refl _ _).alloc (Nat.le_refl _) _) b1⟩
  · have hv : T.bidiOf c = valueL T.bidi c := by rw [show T.bidiOf c = 0 by unfold Tab.bidiOf; rw [propL_res hg (by unfold ownR; omega)]; unfold fixC; repeat (first | rw [if_pos (by omega)] | rw [if_neg (by omega)])]; exact (value_res hg.2.2 ((resB_iff c).2 (by omega))).symm
    rw [hv]
    have p0 : decide ((97 : Int) ≤ c) = true := decide_eq_true (by omega)
    have p1 : decide (c ≤ (122 : Int)) = false := decide_eq_false (by omega)
    have p2 : decide ((65 : Int) ≤ c) = true := decide_eq_true (by omega)
    have p3 : decide (c ≤ (90 : Int)) = false := decide_eq_false (by omega)
    have p4 : decide ((48 : Int) ≤ c) = true := decide_eq_true (by omega)
    have p5 : decide (c ≤ (57 : Int)) = false := decide_eq_false (by omega)
    have p6 : (c == (45 : Int)) = false := by rw [beq_eq_false_iff_ne]; omega
    have p7 : (c == (46 : Int)) = false := by rw [beq_eq_false_iff_ne]; omega
    have p8 : decide ((0 : Int) ≤ c) = true := decide_eq_true (by omega)
    have p9 : decide (c ≤ (32 : Int)) = false := decide_eq_false (by omega)
    have p10 : (c == (127 : Int)) = false := by rw [beq_eq_false_iff_ne]; omega
    have p11 : decide ((32 : Int) < c) = true := decide_eq_true (by omega)
    have p12 : decide (c < (127 : Int)) = false := decide_eq_false (by omega)
    clear hc hv hg
    go_enter Tryd.func24, Tryd.ntmps24
    go_wp2_with (first | (go_at_call 73; refine (HS.out _).mono ?_; rintro e w1 ⟨rfl, rfl⟩) | (go_at_call 103; refine (HJ.out _).mono ?_; rintro e w1 ⟨rfl, rfl⟩) | (go_at_call 51; refine (HR.out _).mono ?_; rintro e w1 ⟨rfl, b1⟩))
    go_ret
    exact ⟨rfl, below_next ((Below.refl _ _).alloc (Nat.le_refl _) _) b1⟩
  · have hv : T.bidiOf c = valueL T.bidi c := by rw [show T.bidiOf c = 0 by unfold Tab.bidiOf; rw [propL_res hg (by unfold ownR; omega)]; unfold fixC; repeat (first | rw [if_pos (by omega)] | rw [if_neg (by omega)])]; exact (value_res hg.2.2 ((resB_iff c).2 (by omega))).symm
    rw [hv]
    have p0 : decide ((97 : Int) ≤ c) = true := decide_eq_true (by omega)
    have p1 : decide (c ≤ (122 : Int)) = false := decide_eq_false (by omega)
    have p2 : decide ((65 : Int) ≤ c) = true := decide_eq_true (by omega)
    have p3 : decide (c ≤ (90 : Int)) = false := decide_eq_false (by omega)
    have p4 : decide ((48 : Int) ≤ c) = true := decide_eq_true (by omega)
    have p5 : decide (c ≤ (57 : Int)) = false := decide_eq_false (by omega)
    have p6 : (c == (45 : Int)) = false := by rw [beq_eq_false_iff_ne]; omega
    have p7 : (c == (46 : Int)) = false := by rw [beq_eq_false_iff_ne]; omega
    have p8 : decide ((0 : Int) ≤ c) = true := decide_eq_true (by omega)
    have p9 : decide (c ≤ (32 : Int)) = false := decide_eq_false (by omega)
    have p10 : (c == (127 : Int)) = false := by rw [beq_eq_false_iff_ne]; omega
    have p11 : decide ((32 : Int) < c) = true := decide_eq_true (by omega)
    have p12 : decide (c < (127 : Int)) = false := decide_eq_false (by omega)
    clear hc hv hg
    go_enter Tryd.func24, Tryd.ntmps24
    go_wp2_with (first | (go_at_call 73; refine (HS.out _).mono ?_; rintro e w1 ⟨rfl, rfl⟩) | (go_at_call 103; refine (HJ.out _).mono ?_; rintro e w1 ⟨rfl, rfl⟩) | (go_at_call 51; refine (HR.out _).mono ?_; rintro e w1 ⟨rfl, b1⟩))
    go_ret
    exact ⟨rfl, below_next ((Below.refl _ _).alloc (Nat.le_refl _) _) b1⟩
  · have hv : T.bidiOf c = valueL T.bidi c := propL_free hg (by unfold ownR; omega)
    rw [hv]
    have p0 : decide ((97 : Int) ≤ c) = true := decide_eq_true (by omega)
    have p1 : decide (c ≤ (122 : Int)) = false := decide_eq_false (by omega)
    have p2 : decide ((65 : Int) ≤ c) = true := decide_eq_true (by omega)
    have p3 : decide (c ≤ (90 : Int)) = false := decide_eq_false (by omega)
    have p4 : decide ((48 : Int) ≤ c) = true := decide_eq_true (by omega)
    have p5 : decide (c ≤ (57 : Int)) = false := decide_eq_false (by omega)
    have p6 : (c == (45 : Int)) = false := by rw [beq_eq_false_iff_ne]; omega
    have p7 : (c == (46 : Int)) = false := by rw [beq_eq_false_iff_ne]; omega
    have p8 : decide ((0 : Int) ≤ c) = true := decide_eq_true (by omega)
    have p9 : decide (c ≤ (32 : Int)) = false := decide_eq_false (by omega)
    have p10 : (c == (127 : Int)) = false := by rw [beq_eq_false_iff_ne]; omega
    have p11 : decide ((32 : Int) < c) = true := decide_eq_true (by omega)
    have p12 : decide (c < (127 : Int)) = false := decide_eq_false (by omega)
    have hs : sylB c = false := syl_no (by omega)
    have hj : jamoB c = false := jamo_no (by omega)
    rw [hs] at HS
    rw [hj] at HJ
    clear hs hj hc hv hg
    go_enter Tryd.func24, Tryd.ntmps24
    go_wp2_with (first | (go_at_call 73; refine (HS.out _).mono ?_; rintro e w1 ⟨rfl, rfl⟩) | (go_at_call 103; refine (HJ.out _).mono ?_; rintro e w1 ⟨rfl, rfl⟩) | (go_at_call 51; refine (HR.out _).mono ?_; rintro e w1 ⟨rfl, b1⟩))
    go_ret
    exact ⟨rfl, below_next ((Below.refl _ _).alloc (Nat.le_refl _) _) b1⟩
end Go.Proofs.YtjigjjbhdgpfjaaDoor
/-
  A drawn region by obligations: what it does not write stays as it was.
-/
namespace Go.Proofs.YtjigjjbhdgpfjaaDoor
open Go.RowKit ND

/-- Slot i is written by none of the operations. -/
def freeOf (ops : Array Oper) (i : Nat) : Bool := ops.toList.all fun o => o.dst != some i
theorem wp_region_k2 (F : Nat) {P : Program} {id n : Nat} {ops : Array Oper} {Q : Exit → Act → World → Prop} {a : Act} {w0 : World} {ds : List Deferred} {fixed : List (Tmp × Value)} {specs : List SpecK} {apps : List Nat} (hm : P.follows .mixedOrders = true)
    (hck : checksA ops n (fixed.map (·.1)) = true) (hap : apps.all (fun q => decide (q < ops.size) && (List.range ops.size).all fun j => decide (j ≤ q) || ancB ops F q j || match specs[j]? with | some s => !s.mem | none => true) = true) (hsp : specs.length = ops.size) (hf : FS n ds fixed a)
    (hob : ∀ i, i < ops.size → ObR F P ops n ds fixed w0 specs apps Q i)
    (hend : ∀ a' w, Below w0.heap.size w0 w → FS n ds fixed a' → (∀ i, i < n → freeOf ops i = true → a'.tmps[i]? = a.tmps[i]?) → (∀ (i : Nat) (o : Oper) (d : Tmp), ops[i]? = some o → (∀ j, killK specs apps i j = false) → o.dst = some d → ∃ v, a'.tmps[d]? = some v ∧ RK w0.heap.size specs i v w) → Q .normal a' w) : (Code.region id ops true).wp P Q a w0 := by
  let oth : List (Tmp × Value) := ((List.range n).filter (freeOf ops)).map fun i => (i, a.tmps.getD i undef)
  have hoth : ∀ p ∈ oth, freeOf ops p.1 = true ∧ a.tmps[p.1]? = some p.2 := fun p hp => by
    obtain ⟨i, hi, rfl⟩ := List.mem_map.1 hp
    obtain ⟨h1, h2⟩ := List.mem_filter.1 hi
    refine ⟨h2, ?_⟩
    have h3 : i < a.tmps.size := by rw [hf.1]; exact List.mem_range.1 h1
    simp only
    rw [Array.getElem?_eq_getElem h3, Array.getD_eq_getD_getElem?, Array.getElem?_eq_getElem h3]; rfl
  have hck2 : checksA ops n ((fixed ++ oth).map (·.1)) = true := by
    unfold checksA at hck ⊢
    rw [Bool.and_eq_true, Bool.and_eq_true] at hck ⊢
    refine ⟨hck.1, ?_⟩
    rw [List.all_eq_true] at hck ⊢
    intro o ho
    have h1 := hck.2 o ho
    revert h1
    cases hd : o.dst with
    | none => intro _; rfl
    | some d =>
      intro h1
      simp only [Bool.and_eq_true, decide_eq_true_eq, Bool.not_eq_true', List.map_append] at h1 ⊢
      refine ⟨h1.1, ?_⟩
      rw [Bool.eq_false_iff]
      intro hc
      rw [List.contains_eq_mem, decide_eq_true_eq, List.mem_append] at hc
      rcases hc with hc | hc
      · have := h1.2
        rw [Bool.eq_false_iff] at this
        exact this (by rw [List.contains_eq_mem, decide_eq_true_eq]; exact hc)
      · obtain ⟨p, hp, rfl⟩ := List.mem_map.1 hc
        have h2 := (hoth p hp).1
        unfold freeOf at h2
        rw [List.all_eq_true] at h2
        have := h2 o ho
        rw [hd] at this
        simp at this
  have hweak : ∀ b : Act, FS n ds (fixed ++ oth) b → FS n ds fixed b := fun b h => ⟨h.1, h.2.1, fun p hp => h.2.2 p (List.mem_append_left _ hp)⟩
  refine wp_region_k F (fixed := fixed ++ oth) (specs := specs) (apps := apps) hm hck2 hap hsp ⟨hf.1, hf.2.1, fun p hp => ?_⟩ (fun i hi o ho b w hb hfb hd K hK => hob i hi o ho b w hb (hweak b hfb) hd K hK) ?_
  · rcases List.mem_append.1 hp with hp | hp
    · exact hf.2.2 p hp
    · exact (hoth p hp).2
  · intro b w hb hfb hr
    refine hend b w hb (hweak b hfb) (fun i hi hfree => ?_) hr
    have hm : (i, a.tmps.getD i undef) ∈ oth := List.mem_map.2 ⟨i, List.mem_filter.2 ⟨List.mem_range.2 hi, hfree⟩, rfl⟩
    rw [hfb.2.2 _ (List.mem_append_right _ hm), (hoth _ hm).2]
end Go.Proofs.YtjigjjbhdgpfjaaDoor
/-
  The walks through hangul.Parts and hangul.Decompose.
-/
namespace Go.Proofs.YtjigjjbhdgpfjaaDoor
open Go.RowKit ND

set_option maxHeartbeats 400000 in
theorem parts_no (c : Int) (w : World) (h : sylB c = false) :
    Calls Tryd.prog 118 #[.int .i64 c] w fun e w' => e = .returned (.tuple #[.int .i64 0, .int .i64 0, .int .i64 0, .bool false]) ∧ w = w' := by
  unfold sylB at h
  rw [decide_eq_false_iff_not] at h
  rcases show c < 44032 ∨ (¬ c < 44032 ∧ 55204 ≤ c) by omega with h1 | ⟨h1, h2⟩
  · clear h
    go_enter Tryd.func118, Tryd.ntmps118
    go_wp2
    exact bodyPost_ret (v := .tuple #[.int .i64 0, .int .i64 0, .int .i64 0, .bool false]) (by simp [results, Tryd.results118, go_sem]) rfl ⟨rfl, rfl⟩
  · clear h
    go_enter Tryd.func118, Tryd.ntmps118
    go_wp2
    exact bodyPost_ret (v := .tuple #[.int .i64 0, .int .i64 0, .int .i64 0, .bool false]) (by simp [results, Tryd.results118, go_sem]) rfl ⟨rfl, rfl⟩
set_option maxHeartbeats 400000 in
theorem parts_yes (c : Int) (w : World) (h : sylB c = true) :
    Calls Tryd.prog 118 #[.int .i64 c] w fun e w' => e = .returned (.tuple #[.int .i64 ((c - 44032) / 28 / 21), .int .i64 ((c - 44032) / 28 % 21), .int .i64 ((c - 44032) % 28), .bool true]) ∧ w = w' := by
  rw [sylB_iff] at h
  obtain ⟨h1, h2⟩ := h
  have h3 : ¬ c < 44032 := by omega
  have h4 : ¬ 55204 ≤ c := by omega
  have n0 : 0 ≤ c - 44032 := by omega
  have n1 : c - 44032 ≤ 11171 := by omega
  have q0 : 0 ≤ (c - 44032) / 28 := by omega
  have q1 : (c - 44032) / 28 ≤ 398 := by omega
  go_enter Tryd.func118, Tryd.ntmps118
  go_wp2
  exact bodyPost_ret (v := .tuple #[.int .i64 ((c - 44032) / 28 / 21), .int .i64 ((c - 44032) / 28 % 21), .int .i64 ((c - 44032) % 28), .bool true]) (by simp [results, Tryd.results118, go_sem]) rfl ⟨rfl, rfl⟩

set_option maxRecDepth 100000 in
set_option maxHeartbeats 1000000 in
theorem hdec_any (c : Int) (w : World) : Calls Tryd.prog 94 #[.int .i64 c] w (RetSeq w (hangD c)) := by
  cases hs : sylB c
  · have HP := Lib.hid (parts_no c w hs)
    rw [hangD_none hs]
    clear hs
    go_enter Tryd.func94, Tryd.ntmps94
    go_wp2_with (go_at_call 118; refine HP.out.mono ?_; rintro e w2 ⟨rfl, rfl⟩)
    go_ret
    exact ⟨_, rfl, Ints.none_, fun _ => rfl, Below.refl _ _⟩
  · have HP := Lib.hid (parts_yes c w hs)
    have hb := (sylB_iff c).1 hs
    unfold hangD
    rw [if_pos hs]
    clear hs
    obtain ⟨n, hn⟩ : ∃ n, c - 44032 = n := ⟨_, rfl⟩
    have n0 : 0 ≤ n := by omega
    have n1 : n ≤ 11171 := by omega
    rw [hn] at HP ⊢
    clear hn hb
    have a0 : 0 ≤ n / 28 / 21 := by omega
    have a1 : n / 28 / 21 ≤ 18 := by omega
    have b0 : 0 ≤ n / 28 % 21 := by omega
    have b1 : n / 28 % 21 ≤ 20 := by omega
    have c0 : 0 ≤ n % 28 := by omega
    have c1 : n % 28 ≤ 27 := by omega
    generalize n / 28 / 21 = i at *
    generalize n / 28 % 21 = j at *
    generalize n % 28 = k at *
    by_cases hk : k = 0
    · rw [if_pos hk]
      subst hk
      go_enter Tryd.func94, Tryd.ntmps94
      go_wp2_with (go_at_call 118; refine HP.out.mono ?_; rintro e w2 ⟨rfl, rfl⟩)
      go_ret
      exact ⟨_, rfl, by have h := Ints.of_own (own_new w 3 [4352 + i, 4449 + j] (by simp)); simpa using h, (by simp), (Below.refl _ _).alloc (Nat.le_refl _) _⟩
    · rw [if_neg hk]
      have hb : (k == 0) = false := by simpa using hk
      clear hk
      go_enter Tryd.func94, Tryd.ntmps94
      go_wp2_with (go_at_call 118; refine HP.out.mono ?_; rintro e w2 ⟨rfl, rfl⟩)
      go_ret
      exact ⟨_, rfl, by have h := Ints.of_own (own_new w 3 [4352 + i, 4449 + j, 4519 + k] (by simp)); simpa using h, (by simp), (Below.refl _ _).alloc (Nat.le_refl _) _⟩
end Go.Proofs.YtjigjjbhdgpfjaaDoor
