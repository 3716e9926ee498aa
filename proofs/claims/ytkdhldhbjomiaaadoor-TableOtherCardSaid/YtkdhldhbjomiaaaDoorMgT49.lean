/-
  Merged texts: lemmas and walks that the last text of this claim leans on.
-/
import Derived.Test.YtkdhldhbjomiaaaDoorMgT43
import Derived.Test.YtkdhldhbjomiaaaDoorMgT42
import Derived.Test.YtkdhldhbjomiaaaDoorMgT41
import Derived.Test.YtkdhldhbjomiaaaDoorMgT48
/-
  The walks through the reference's Category, Bidi, Script, Joining, Scripts, Maps, Decomp and Prototype.
-/
namespace Go.Proofs.YtkdhldhbjomiaaaDoor
open Go.RowKit ND

/-- A code point of ASCII, a syllable or a jamo. -/
def ownR (c : Int) : Prop := 0 ≤ c ∧ c ≤ 127 ∨ 44032 ≤ c ∧ c ≤ 55203 ∨ 4352 ≤ c ∧ c ≤ 4370 ∨ 4449 ≤ c ∧ c ≤ 4469 ∨ 4520 ≤ c ∧ c ≤ 4546
theorem propL_res {l : List Sp} {own c : Int} (hg : GoodS l) (h : ownR c) : propL l own c = own := by
  rw [propL_ref hg.1 hg.2.2, if_pos]
  unfold ownR at h
  rw [resB_iff]
  refine ⟨by omega, ?_⟩
  cases hs : surB c
  · rfl
  · rw [surB_iff] at hs; omega
theorem propL_free {l : List Sp} {own c : Int} (hg : GoodS l) (h : ¬ownR c) : propL l own c = valueL l c := by
  rw [propL_ref hg.1 hg.2.2, if_neg]
  unfold ownR at h
  rintro ⟨h1, h2⟩
  rw [resB_iff] at h1
  have : ¬(55296 ≤ c ∧ c ≤ 57343) := fun e => by rw [(surB_iff c).2 e] at h2; cases h2
  omega
theorem syl_no {c : Int} (h : ¬(44032 ≤ c ∧ c ≤ 55203)) : sylB c = false := by
  cases hs : sylB c
  · rfl
  · rw [sylB_iff] at hs; exact absurd hs h
theorem jamo_no {c : Int} (h : ¬(4352 ≤ c ∧ c ≤ 4370 ∨ 4449 ≤ c ∧ c ≤ 4469 ∨ 4520 ≤ c ∧ c ≤ 4546)) : jamoB c = false := by
  cases hs : jamoB c
  · rfl
  · rw [jamoB_iff] at hs; exact absurd hs h


set_option maxRecDepth 100000 in
set_option maxHeartbeats 4000000 in
theorem refCategory_any (t : Tv) (T : Tab) (c : Int) (w : World) (ht : TabR w w.heap.size t T) (hg : GoodS T.category) :
    Calls Tryd.prog 65 #[t.val, .int .i64 c] w fun e w' => e = .returned (.int .i64 (T.categoryOf c)) ∧ Below w.heap.size w w' := by
  have HR := Lib.hid (fun o : Obj => refValue_any t.c0 T.category c _ (ht.r0.later ((Below.refl _ _).alloc (Nat.le_refl _) o)))
  have HJ := Lib.hid (fun W => refJamo_any c W)
  have HS := Lib.hid (fun W => refSyl_any c W)
  clear ht
  rcases show (c < 0) ∨ (0 ≤ c ∧ c ≤ 31) ∨ (32 ≤ c ∧ c ≤ 32) ∨ (33 ≤ c ∧ c ≤ 44) ∨ (45 ≤ c ∧ c ≤ 45) ∨ (46 ≤ c ∧ c ≤ 46) ∨ (47 ≤ c ∧ c ≤ 47) ∨ (48 ≤ c ∧ c ≤ 57) ∨ (58 ≤ c ∧ c ≤ 64) ∨ (65 ≤ c ∧ c ≤ 90) ∨ (91 ≤ c ∧ c ≤ 96) ∨ (97 ≤ c ∧ c ≤ 122) ∨ (123 ≤ c ∧ c ≤ 126) ∨ (127 ≤ c ∧ c ≤ 127) ∨ (44032 ≤ c ∧ c ≤ 55203) ∨ (4352 ≤ c ∧ c ≤ 4370) ∨ (4449 ≤ c ∧ c ≤ 4469) ∨ (4520 ≤ c ∧ c ≤ 4546) ∨ (128 ≤ c ∧ ¬(44032 ≤ c ∧ c ≤ 55203) ∧ ¬(4352 ≤ c ∧ c ≤ 4370 ∨ 4449 ≤ c ∧ c ≤ 4469 ∨ 4520 ≤ c ∧ c ≤ 4546)) by omega with hc | hc | hc | hc | hc | hc | hc | hc | hc | hc | hc | hc | hc | hc | hc | hc | hc | hc | hc
  · have hv : T.categoryOf c = valueL T.category c := propL_free hg (by unfold ownR; omega)
    rw [hv]
    have p0 : decide ((97 : Int) ≤ c) = false := decide_eq_false (by omega)
    have p1 : decide (c ≤ (122 : Int)) = true := decide_eq_true (by omega)
    have p2 : decide ((65 : Int) ≤ c) = false := decide_eq_false (by omega)
    have p3 : decide (c ≤ (90 : Int)) = true := decide_eq_true (by omega)
    have p4 : decide ((48 : Int) ≤ c) = false := decide_eq_false (by omega)
    have p5 : decide (c ≤ (57 : Int)) = true := decide_eq_true (by omega)
    have p6 : decide ((0 : Int) ≤ c) = false := decide_eq_false (by omega)
    have p7 : decide (c < (32 : Int)) = true := decide_eq_true (by omega)
    have p8 : (c == (127 : Int)) = false := by rw [beq_eq_false_iff_ne]; omega
    have p9 : (c == (32 : Int)) = false := by rw [beq_eq_false_iff_ne]; omega
    have p10 : decide ((32 : Int) < c) = false := decide_eq_false (by omega)
    have p11 : decide (c < (127 : Int)) = true := decide_eq_true (by omega)
    have hs : sylB c = false := syl_no (by omega)
    have hj : jamoB c = false := jamo_no (by omega)
    rw [hs] at HS
    rw [hj] at HJ
    clear hs hj hc hv hg
    go_enter Tryd.func65, Tryd.ntmps65
    go_wp2_with (first | (go_at_call 50; refine (HS.out _).mono ?_; rintro e w1 ⟨rfl, rfl⟩) | (go_at_call 117; refine (HJ.out _).mono ?_; rintro e w1 ⟨rfl, rfl⟩) | (go_at_call 119; refine (HR.out _).mono ?_; rintro e w1 ⟨rfl, b1⟩))
    go_ret
    exact ⟨rfl, below_next ((Below.refl _ _).alloc (Nat.le_refl _) _) b1⟩
  · have hv : T.categoryOf c = 8 := by
      unfold Tab.categoryOf
      rw [propL_res hg (by unfold ownR; omega)]
      unfold fixC
      repeat (first | rw [if_pos (by omega)] | rw [if_neg (by omega)])
    rw [hv]
    have p0 : decide ((97 : Int) ≤ c) = false := decide_eq_false (by omega)
    have p1 : decide (c ≤ (122 : Int)) = true := decide_eq_true (by omega)
    have p2 : decide ((65 : Int) ≤ c) = false := decide_eq_false (by omega)
    have p3 : decide (c ≤ (90 : Int)) = true := decide_eq_true (by omega)
    have p4 : decide ((48 : Int) ≤ c) = false := decide_eq_false (by omega)
    have p5 : decide (c ≤ (57 : Int)) = true := decide_eq_true (by omega)
    have p6 : decide ((0 : Int) ≤ c) = true := decide_eq_true (by omega)
    have p7 : decide (c < (32 : Int)) = true := decide_eq_true (by omega)
    have p8 : (c == (127 : Int)) = false := by rw [beq_eq_false_iff_ne]; omega
    have p9 : (c == (32 : Int)) = false := by rw [beq_eq_false_iff_ne]; omega
    have p10 : decide ((32 : Int) < c) = false := decide_eq_false (by omega)
    have p11 : decide (c < (127 : Int)) = true := decide_eq_true (by omega)
    have hs : sylB c = false := syl_no (by omega)
    have hj : jamoB c = false := jamo_no (by omega)
    rw [hs] at HS
    rw [hj] at HJ
    clear hs hj hc hv hg
    go_enter Tryd.func65, Tryd.ntmps65
    go_wp2_with (first | (go_at_call 50; refine (HS.out _).mono ?_; rintro e w1 ⟨rfl, rfl⟩) | (go_at_call 117; refine (HJ.out _).mono ?_; rintro e w1 ⟨rfl, rfl⟩) | (go_at_call 119; refine (HR.out _).mono ?_; rintro e w1 ⟨rfl, b1⟩))
    go_ret
    exact ⟨rfl, (Below.refl _ _).alloc (Nat.le_refl _) _⟩
  · have hv : T.categoryOf c = 7 := by
      unfold Tab.categoryOf
      rw [propL_res hg (by unfold ownR; omega)]
      unfold fixC
      repeat (first | rw [if_pos (by omega)] | rw [if_neg (by omega)])
    rw [hv]
    have p0 : decide ((97 : Int) ≤ c) = false := decide_eq_false (by omega)
    have p1 : decide (c ≤ (122 : Int)) = true := decide_eq_true (by omega)
    have p2 : decide ((65 : Int) ≤ c) = false := decide_eq_false (by omega)
    have p3 : decide (c ≤ (90 : Int)) = true := decide_eq_true (by omega)
    have p4 : decide ((48 : Int) ≤ c) = false := decide_eq_false (by omega)
    have p5 : decide (c ≤ (57 : Int)) = true := decide_eq_true (by omega)
    have p6 : decide ((0 : Int) ≤ c) = true := decide_eq_true (by omega)
    have p7 : decide (c < (32 : Int)) = false := decide_eq_false (by omega)
    have p8 : (c == (127 : Int)) = false := by rw [beq_eq_false_iff_ne]; omega
    have p9 : (c == (32 : Int)) = true := by rw [beq_iff_eq]; omega
    have p10 : decide ((32 : Int) < c) = false := decide_eq_false (by omega)
    have p11 : decide (c < (127 : Int)) = true := decide_eq_true (by omega)
    have hs : sylB c = false := syl_no (by omega)
    have hj : jamoB c = false := jamo_no (by omega)
    rw [hs] at HS
    rw [hj] at HJ
    clear hs hj hc hv hg
    go_enter Tryd.func65, Tryd.ntmps65
    go_wp2_with (first | (go_at_call 50; refine (HS.out _).mono ?_; rintro e w1 ⟨rfl, rfl⟩) | (go_at_call 117; refine (HJ.out _).mono ?_; rintro e w1 ⟨rfl, rfl⟩) | (go_at_call 119; refine (HR.out _).mono ?_; rintro e w1 ⟨rfl, b1⟩))
    go_ret
    exact ⟨rfl, (Below.refl _ _).alloc (Nat.le_refl _) _⟩
  · have hv : T.categoryOf c = 5 := by
      unfold Tab.categoryOf
      rw [propL_res hg (by unfold ownR; omega)]
      unfold fixC
      repeat (first | rw [if_pos (by omega)] | rw [if_neg (by omega)])
    rw [hv]
    have p0 : decide ((97 : Int) ≤ c) = false := decide_eq_false (by omega)
    have p1 : decide (c ≤ (122 : Int)) = true := decide_eq_true (by omega)
    have p2 : decide ((65 : Int) ≤ c) = false := decide_eq_false (by omega)
    have p3 : decide (c ≤ (90 : Int)) = true := decide_eq_true (by omega)
    have p4 : decide ((48 : Int) ≤ c) = false := decide_eq_false (by omega)
    have p5 : decide (c ≤ (57 : Int)) = true := decide_eq_true (by omega)
    have p6 : decide ((0 : Int) ≤ c) = true := decide_eq_true (by omega)
    have p7 : decide (c < (32 : Int)) = false := decide_eq_false (by omega)
    have p8 : (c == (127 : Int)) = false := by rw [beq_eq_false_iff_ne]; omega
    have p9 : (c == (32 : Int)) = false := by rw [beq_eq_false_iff_ne]; omega
    have p10 : decide ((32 : Int) < c) = true := decide_eq_true (by omega)
    have p11 : decide (c < (127 : Int)) = true := decide_eq_true (by omega)
    have hs : sylB c = false := syl_no (by omega)
    have hj : jamoB c = false := jamo_no (by omega)
    rw [hs] at HS
    rw [hj] at HJ
    clear hs hj hc hv hg
    go_enter Tryd.func65, Tryd.ntmps65
    go_wp2_with (first | (go_at_call 50; refine (HS.out _).mono ?_; rintro e w1 ⟨rfl, rfl⟩) | (go_at_call 117; refine (HJ.out _).mono ?_; rintro e w1 ⟨rfl, rfl⟩) | (go_at_call 119; refine (HR.out _).mono ?_; rintro e w1 ⟨rfl, b1⟩))
    go_ret
    exact ⟨rfl, (Below.refl _ _).alloc (Nat.le_refl _) _⟩
  · have hv : T.categoryOf c = 5 := by
      unfold Tab.categoryOf
      rw [propL_res hg (by unfold ownR; omega)]
      unfold fixC
      repeat (first | rw [if_pos (by omega)] | rw [if_neg (by omega)])
    rw [hv]
    have p0 : decide ((97 : Int) ≤ c) = false := decide_eq_false (by omega)
    have p1 : decide (c ≤ (122 : Int)) = true := decide_eq_true (by omega)
    have p2 : decide ((65 : Int) ≤ c) = false := decide_eq_false (by omega)
    have p3 : decide (c ≤ (90 : Int)) = true := decide_eq_true (by omega)
    have p4 : decide ((48 : Int) ≤ c) = false := decide_eq_false (by omega)
    have p5 : decide (c ≤ (57 : Int)) = true := decide_eq_true (by omega)
    have p6 : decide ((0 : Int) ≤ c) = true := decide_eq_true (by omega)
    have p7 : decide (c < (32 : Int)) = false := decide_eq_false (by omega)
    have p8 : (c == (127 : Int)) = false := by rw [beq_eq_false_iff_ne]; omega
    have p9 : (c == (32 : Int)) = false := by rw [beq_eq_false_iff_ne]; omega
    have p10 : decide ((32 : Int) < c) = true := decide_eq_true (by omega)
    have p11 : decide (c < (127 : Int)) = true := decide_eq_true (by omega)
    have hs : sylB c = false := syl_no (by omega)
    have hj : jamoB c = false := jamo_no (by omega)
    rw [hs] at HS
    rw [hj] at HJ
    clear hs hj hc hv hg
    go_enter Tryd.func65, Tryd.ntmps65
    go_wp2_with (first | (go_at_call 50; refine (HS.out _).mono ?_; rintro e w1 ⟨rfl, rfl⟩) | (go_at_call 117; refine (HJ.out _).mono ?_; rintro e w1 ⟨rfl, rfl⟩) | (go_at_call 119; refine (HR.out _).mono ?_; rintro e w1 ⟨rfl, b1⟩))
    go_ret
    exact ⟨rfl, (Below.refl _ _).alloc (Nat.le_refl _) _⟩
  · have hv : T.categoryOf c = 5 := by
      unfold Tab.categoryOf
      rw [propL_res hg (by unfold ownR; omega)]
      unfold fixC
      repeat (first | rw [if_pos (by omega)] | rw [if_neg (by omega)])
    rw [hv]
    have p0 : decide ((97 : Int) ≤ c) = false := decide_eq_false (by omega)
    have p1 : decide (c ≤ (122 : Int)) = true := decide_eq_true (by omega)
    have p2 : decide ((65 : Int) ≤ c) = false := decide_eq_false (by omega)
    have p3 : decide (c ≤ (90 : Int)) = true := decide_eq_true (by omega)
    have p4 : decide ((48 : Int) ≤ c) = false := decide_eq_false (by omega)
    have p5 : decide (c ≤ (57 : Int)) = true := decide_eq_true (by omega)
    have p6 : decide ((0 : Int) ≤ c) = true := decide_eq_true (by omega)
    have p7 : decide (c < (32 : Int)) = false := decide_eq_false (by omega)
    have p8 : (c == (127 : Int)) = false := by rw [beq_eq_false_iff_ne]; omega
    have p9 : (c == (32 : Int)) = false := by rw [beq_eq_false_iff_ne]; omega
    have p10 : decide ((32 : Int) < c) = true := decide_eq_true (by omega)
    have p11 : decide (c < (127 : Int)) = true := decide_eq_true (by omega)
    have hs : sylB c = false := syl_no (by omega)
    have hj : jamoB c = false := jamo_no (by omega)
    rw [hs] at HS
    rw [hj] at HJ
    clear hs hj hc hv hg
    go_enter Tryd.func65, Tryd.ntmps65
    go_wp2_with (first | (go_at_call 50; refine (HS.out _).mono ?_; rintro e w1 ⟨rfl, rfl⟩) | (go_at_call 117; refine (HJ.out _).mono ?_; rintro e w1 ⟨rfl, rfl⟩) | (go_at_call 119; refine (HR.out _).mono ?_; rintro e w1 ⟨rfl, b1⟩))
    go_ret
    exact ⟨rfl, (Below.refl _ _).alloc (Nat.le_refl _) _⟩
  · have hv : T.categoryOf c = 5 := by
      unfold Tab.categoryOf
      rw [propL_res hg (by unfold ownR; omega)]
      unfold fixC
      repeat (first | rw [if_pos (by omega)] | rw [if_neg (by omega)])
    rw [hv]
    have p0 : decide ((97 : Int) ≤ c) = false := decide_eq_false (by omega)
    have p1 : decide (c ≤ (122 : Int)) = true := decide_eq_true (by omega)
    have p2 : decide ((65 : Int) ≤ c) = false := decide_eq_false (by omega)
    have p3 : decide (c ≤ (90 : Int)) = true := decide_eq_true (by omega)
    have p4 : decide ((48 : Int) ≤ c) = false := decide_eq_false (by omega)
    have p5 : decide (c ≤ (57 : Int)) = true := decide_eq_true (by omega)
    have p6 : decide ((0 : Int) ≤ c) = true := decide_eq_true (by omega)
    have p7 : decide (c < (32 : Int)) = false := decide_eq_false (by omega)
    have p8 : (c == (127 : Int)) = false := by rw [beq_eq_false_iff_ne]; omega
    have p9 : (c == (32 : Int)) = false := by rw [beq_eq_false_iff_ne]; omega
    have p10 : decide ((32 : Int) < c) = true := decide_eq_true (by omega)
    have p11 : decide (c < (127 : Int)) = true := decide_eq_true (by omega)
    have hs : sylB c = false := syl_no (by omega)
    have hj : jamoB c = false := jamo_no (by omega)
    rw [hs] at HS
    rw [hj] at HJ
    clear hs hj hc hv hg
    go_enter Tryd.func65, Tryd.ntmps65
    go_wp2_with (first | (go_at_call 50; refine (HS.out _).mono ?_; rintro e w1 ⟨rfl, rfl⟩) | (go_at_call 117; refine (HJ.out _).mono ?_; rintro e w1 ⟨rfl, rfl⟩) | (go_at_call 119; refine (HR.out _).mono ?_; rintro e w1 ⟨rfl, b1⟩))
    go_ret
    exact ⟨rfl, (Below.refl _ _).alloc (Nat.le_refl _) _⟩
  · have hv : T.categoryOf c = 3 := by
      unfold Tab.categoryOf
      rw [propL_res hg (by unfold ownR; omega)]
      unfold fixC
      repeat (first | rw [if_pos (by omega)] | rw [if_neg (by omega)])
    rw [hv]
    have p0 : decide ((97 : Int) ≤ c) = false := decide_eq_false (by omega)
    have p1 : decide (c ≤ (122 : Int)) = true := decide_eq_true (by omega)
    have p2 : decide ((65 : Int) ≤ c) = false := decide_eq_false (by omega)
    have p3 : decide (c ≤ (90 : Int)) = true := decide_eq_true (by omega)
    have p4 : decide ((48 : Int) ≤ c) = true := decide_eq_true (by omega)
    have p5 : decide (c ≤ (57 : Int)) = true := decide_eq_true (by omega)
    have p6 : decide ((0 : Int) ≤ c) = true := decide_eq_true (by omega)
    have p7 : decide (c < (32 : Int)) = false := decide_eq_false (by omega)
    have p8 : (c == (127 : Int)) = false := by rw [beq_eq_false_iff_ne]; omega
    have p9 : (c == (32 : Int)) = false := by rw [beq_eq_false_iff_ne]; omega
    have p10 : decide ((32 : Int) < c) = true := decide_eq_true (by omega)
    have p11 : decide (c < (127 : Int)) = true := decide_eq_true (by omega)
    have hs : sylB c = false := syl_no (by omega)
    have hj : jamoB c = false := jamo_no (by omega)
    rw [hs] at HS
    rw [hj] at HJ
    clear hs hj hc hv hg
    go_enter Tryd.func65, Tryd.ntmps65
    go_wp2_with (first | (go_at_call 50; refine (HS.out _).mono ?_; rintro e w1 ⟨rfl, rfl⟩) | (go_at_call 117; refine (HJ.out _).mono ?_; rintro e w1 ⟨rfl, rfl⟩) | (go_at_call 119; refine (HR.out _).mono ?_; rintro e w1 ⟨rfl, b1⟩))
    go_ret
    exact ⟨rfl, (Below.refl _ _).alloc (Nat.le_refl _) _⟩
  · have hv : T.categoryOf c = 5 := by
      unfold Tab.categoryOf
      rw [propL_res hg (by unfold ownR; omega)]
      unfold fixC
      repeat (first | rw [if_pos (by omega)] | rw [if_neg (by omega)])
    rw [hv]
    have p0 : decide ((97 : Int) ≤ c) = false := decide_eq_false (by omega)
    have p1 : decide (c ≤ (122 : Int)) = true := decide_eq_true (by omega)
    have p2 : decide ((65 : Int) ≤ c) = false := decide_eq_false (by omega)
    have p3 : decide (c ≤ (90 : Int)) = true := decide_eq_true (by omega)
    have p4 : decide ((48 : Int) ≤ c) = true := decide_eq_true (by omega)
    have p5 : decide (c ≤ (57 : Int)) = false := decide_eq_false (by omega)
    have p6 : decide ((0 : Int) ≤ c) = true := decide_eq_true (by omega)
    have p7 : decide (c < (32 : Int)) = false := decide_eq_false (by omega)
    have p8 : (c == (127 : Int)) = false := by rw [beq_eq_false_iff_ne]; omega
    have p9 : (c == (32 : Int)) = false := by rw [beq_eq_false_iff_ne]; omega
    have p10 : decide ((32 : Int) < c) = true := decide_eq_true (by omega)
    have p11 : decide (c < (127 : Int)) = true := decide_eq_true (by omega)
    have hs : sylB c = false := syl_no (by omega)
    have hj : jamoB c = false := jamo_no (by omega)
    rw [hs] at HS
    rw [hj] at HJ
    clear hs hj hc hv hg
    go_enter Tryd.func65, Tryd.ntmps65
    go_wp2_with (first | (go_at_call 50; refine (HS.out _).mono ?_; rintro e w1 ⟨rfl, rfl⟩) | (go_at_call 117; refine (HJ.out _).mono ?_; rintro e w1 ⟨rfl, rfl⟩) | (go_at_call 119; refine (HR.out _).mono ?_; rintro e w1 ⟨rfl, b1⟩))
    go_ret
    exact ⟨rfl, (Below.refl _ _).alloc (Nat.le_refl _) _⟩
  · have hv : T.categoryOf c = 1 := by
      unfold Tab.categoryOf
      rw [propL_res hg (by unfold ownR; omega)]
      unfold fixC
      repeat (first | rw [if_pos (by omega)] | rw [if_neg (by omega)])
    rw [hv]
    have p0 : decide ((97 : Int) ≤ c) = false := decide_eq_false (by omega)
    have p1 : decide (c ≤ (122 : Int)) = true := decide_eq_true (by omega)
    have p2 : decide ((65 : Int) ≤ c) = true := decide_eq_true (by omega)
    have p3 : decide (c ≤ (90 : Int)) = true := decide_eq_true (by omega)
    have p4 : decide ((48 : Int) ≤ c) = true := decide_eq_true (by omega)
    have p5 : decide (c ≤ (57 : Int)) = false := decide_eq_false (by omega)
    have p6 : decide ((0 : Int) ≤ c) = true := decide_eq_true (by omega)
    have p7 : decide (c < (32 : Int)) = false := decide_eq_false (by omega)
    have p8 : (c == (127 : Int)) = false := by rw [beq_eq_false_iff_ne]; omega
    have p9 : (c == (32 : Int)) = false := by rw [beq_eq_false_iff_ne]; omega
    have p10 : decide ((32 : Int) < c) = true := decide_eq_true (by omega)
    have p11 : decide (c < (127 : Int)) = true := decide_eq_true (by omega)
    have hs : sylB c = false := syl_no (by omega)
    have hj : jamoB c = false := jamo_no (by omega)
    rw [hs] at HS
    rw [hj] at HJ
    clear hs hj hc hv hg
    go_enter Tryd.func65, Tryd.ntmps65
    go_wp2_with (first | (go_at_call 50; refine (HS.out _).mono ?_; rintro e w1 ⟨rfl, rfl⟩) | (go_at_call 117; refine (HJ.out _).mono ?_; rintro e w1 ⟨rfl, rfl⟩) | (go_at_call 119; refine (HR.out _).mono ?_; rintro e w1 ⟨rfl, b1⟩))
    go_ret
    exact ⟨rfl, (Below.refl _ _).alloc (Nat.le_refl _) _⟩
  · have hv : T.categoryOf c = 5 := by
      unfold Tab.categoryOf
      rw [propL_res hg (by unfold ownR; omega)]
      unfold fixC
      repeat (first | rw [if_pos (by omega)] | rw [if_neg (by omega)])
    rw [hv]
    have p0 : decide ((97 : Int) ≤ c) = false := decide_eq_false (by omega)
    have p1 : decide (c ≤ (122 : Int)) = true := decide_eq_true (by omega)
    have p2 : decide ((65 : Int) ≤ c) = true := decide_eq_true (by omega)
    have p3 : decide (c ≤ (90 : Int)) = false := decide_eq_false (by omega)
    have p4 : decide ((48 : Int) ≤ c) = true := decide_eq_true (by omega)
    have p5 : decide (c ≤ (57 : Int)) = false := decide_eq_false (by omega)
    have p6 : decide ((0 : Int) ≤ c) = true := decide_eq_true (by omega)
    have p7 : decide (c < (32 : Int)) = false := decide_eq_false (by omega)
    have p8 : (c == (127 : Int)) = false := by rw [beq_eq_false_iff_ne]; omega
    have p9 : (c == (32 : Int)) = false := by rw [beq_eq_false_iff_ne]; omega
    have p10 : decide ((32 : Int) < c) = true := decide_eq_true (by omega)
    have p11 : decide (c < (127 : Int)) = true := decide_eq_true (by omega)
    have hs : sylB c = false := syl_no (by omega)
    have hj : jamoB c = false := jamo_no (by omega)
    rw [hs] at HS
    rw [hj] at HJ
    clear hs hj hc hv hg
    go_enter Tryd.func65, Tryd.ntmps65
    go_wp2_with (first | (go_at_call 50; refine (HS.out _).mono ?_; rintro e w1 ⟨rfl, rfl⟩) | (go_at_call 117; refine (HJ.out _).mono ?_; rintro e w1 ⟨rfl, rfl⟩) | (go_at_call 119; refine (HR.out _).mono ?_; rintro e w1 ⟨rfl, b1⟩))
    go_ret
    exact ⟨rfl, (Below.refl _ _).alloc (Nat.le_refl _) _⟩
  · have hv : T.categoryOf c = 1 := by
      unfold Tab.categoryOf
      rw [propL_res hg (by unfold ownR; omega)]
      unfold fixC
      repeat (first | rw [if_pos (by omega)] | rw [if_neg (by omega)])
    rw [hv]
    have p0 : decide ((97 : Int) ≤ c) = true := decide_eq_true (by omega)
    have p1 : decide (c ≤ (122 : Int)) = true := decide_eq_true (by omega)
    have p2 : decide ((65 : Int) ≤ c) = true := decide_eq_true (by omega)
    have p3 : decide (c ≤ (90 : Int)) = false := decide_eq_false (by omega)
    have p4 : decide ((48 : Int) ≤ c) = true := decide_eq_true (by omega)
    have p5 : decide (c ≤ (57 : Int)) = false := decide_eq_false (by omega)
    have p6 : decide ((0 : Int) ≤ c) = true := decide_eq_true (by omega)
    have p7 : decide (c < (32 : Int)) = false := decide_eq_false (by omega)
    have p8 : (c == (127 : Int)) = false := by rw [beq_eq_false_iff_ne]; omega
    have p9 : (c == (32 : Int)) = false := by rw [beq_eq_false_iff_ne]; omega
    have p10 : decide ((32 : Int) < c) = true := decide_eq_true (by omega)
    have p11 : decide (c < (127 : Int)) = true := decide_eq_true (by omega)
    have hs : sylB c = false := syl_no (by omega)
    have hj : jamoB c = false := jamo_no (by omega)
    rw [hs] at HS
    rw [hj] at HJ
    clear hs hj hc hv hg
    go_enter Tryd.func65, Tryd.ntmps65
    go_wp2_with (first | (go_at_call 50; refine (HS.out _).mono ?_; rintro e w1 ⟨rfl, rfl⟩) | (go_at_call 117; refine (HJ.out _).mono ?_; rintro e w1 ⟨rfl, rfl⟩) | (go_at_call 119; refine (HR.out _).mono ?_; rintro e w1 ⟨rfl, b1⟩))
    go_ret
    exact ⟨rfl, (Below.refl _ _).alloc (Nat.le_refl _) _⟩
  · have hv : T.categoryOf c = 5 := by
      unfold Tab.categoryOf
      rw [propL_res hg (by unfold ownR; omega)]
      unfold fixC
      repeat (first | rw [if_pos (by omega)] | rw [if_neg (by omega)])
    rw [hv]
    have p0 : decide ((97 : Int) ≤ c) = true := decide_eq_true (by omega)
    have p1 : decide (c ≤ (122 : Int)) = false := decide_eq_false (by omega)
    have p2 : decide ((65 : Int) ≤ c) = true := decide_eq_true (by omega)
    have p3 : decide (c ≤ (90 : Int)) = false := decide_eq_false (by omega)
    have p4 : decide ((48 : Int) ≤ c) = true := decide_eq_true (by omega)
    have p5 : decide (c ≤ (57 : Int)) = false := decide_eq_false (by omega)
    have p6 : decide ((0 : Int) ≤ c) = true := decide_eq_true (by omega)
    have p7 : decide (c < (32 : Int)) = false := decide_eq_false (by omega)
    have p8 : (c == (127 : Int)) = false := by rw [beq_eq_false_iff_ne]; omega
    have p9 : (c == (32 : Int)) = false := by rw [beq_eq_false_iff_ne]; omega
    have p10 : decide ((32 : Int) < c) = true := decide_eq_true (by omega)
    have p11 : decide (c < (127 : Int)) = true := decide_eq_true (by omega)
    have hs : sylB c = false := syl_no (by omega)
    have hj : jamoB c = false := jamo_no (by omega)
    rw [hs] at HS
    rw [hj] at HJ
    clear hs hj hc hv hg
    go_enter Tryd.func65, Tryd.ntmps65
    go_wp2_with (first | (go_at_call 50; refine (HS.out _).mono ?_; rintro e w1 ⟨rfl, rfl⟩) | (go_at_call 117; refine (HJ.out _).mono ?_; rintro e w1 ⟨rfl, rfl⟩) | (go_at_call 119; refine (HR.out _).mono ?_; rintro e w1 ⟨rfl, b1⟩))
    go_ret
    exact ⟨rfl, (Below.refl _ _).alloc (Nat.le_refl _) _⟩
  · have hv : T.categoryOf c = 8 := by
      unfold Tab.categoryOf
      rw [propL_res hg (by unfold ownR; omega)]
      unfold fixC
      repeat (first | rw [if_pos (by omega)] | rw [if_neg (by omega)])
    rw [hv]
    have p0 : decide ((97 : Int) ≤ c) = true := decide_eq_true (by omega)
    have p1 : decide (c ≤ (122 : Int)) = false := decide_eq_false (by omega)
    have p2 : decide ((65 : Int) ≤ c) = true := decide_eq_true (by omega)
    have p3 : decide (c ≤ (90 : Int)) = false := decide_eq_false (by omega)
    have p4 : decide ((48 : Int) ≤ c) = true := decide_eq_true (by omega)
    have p5 : decide (c ≤ (57 : Int)) = false := decide_eq_false (by omega)
    have p6 : decide ((0 : Int) ≤ c) = true := decide_eq_true (by omega)
    have p7 : decide (c < (32 : Int)) = false := decide_eq_false (by omega)
    have p8 : (c == (127 : Int)) = true := by rw [beq_iff_eq]; omega
    have p9 : (c == (32 : Int)) = false := by rw [beq_eq_false_iff_ne]; omega
    have p10 : decide ((32 : Int) < c) = true := decide_eq_true (by omega)
    have p11 : decide (c < (127 : Int)) = false := decide_eq_false (by omega)
    have hs : sylB c = false := syl_no (by omega)
    have hj : jamoB c = false := jamo_no (by omega)
    rw [hs] at HS
    rw [hj] at HJ
    clear hs hj hc hv hg
    go_enter Tryd.func65, Tryd.ntmps65
    go_wp2_with (first | (go_at_call 50; refine (HS.out _).mono ?_; rintro e w1 ⟨rfl, rfl⟩) | (go_at_call 117; refine (HJ.out _).mono ?_; rintro e w1 ⟨rfl, rfl⟩) | (go_at_call 119; refine (HR.out _).mono ?_; rintro e w1 ⟨rfl, b1⟩))
    go_ret
    exact ⟨rfl, (Below.refl _ _).alloc (Nat.le_refl _) _⟩
  · have hv : T.categoryOf c = 1 := by
      unfold Tab.categoryOf
      rw [propL_res hg (by unfold ownR; omega)]
      unfold fixC
      repeat (first | rw [if_pos (by omega)] | rw [if_neg (by omega)])
    rw [hv]
    have p0 : decide ((97 : Int) ≤ c) = true := decide_eq_true (by omega)
    have p1 : decide (c ≤ (122 : Int)) = false := decide_eq_false (by omega)
    have p2 : decide ((65 : Int) ≤ c) = true := decide_eq_true (by omega)
    have p3 : decide (c ≤ (90 : Int)) = false := decide_eq_false (by omega)
    have p4 : decide ((48 : Int) ≤ c) = true := decide_eq_true (by omega)
    have p5 : decide (c ≤ (57 : Int)) = false := decide_eq_false (by omega)
    have p6 : decide ((0 : Int) ≤ c) = true := decide_eq_true (by omega)
    have p7 : decide (c < (32 : Int)) = false := decide_eq_false (by omega)
    have p8 : (c == (127 : Int)) = false := by rw [beq_eq_false_iff_ne]; omega
    have p9 : (c == (32 : Int)) = false := by rw [beq_eq_false_iff_ne]; omega
    have p10 : decide ((32 : Int) < c) = true := decide_eq_true (by omega)
    have p11 : decide (c < (127 : Int)) = false := decide_eq_false (by omega)
    have hs : sylB c = true := (sylB_iff c).2 (by omega)
    have hj : jamoB c = false := jamo_no (by omega)
    rw [hs] at HS
    rw [hj] at HJ
    clear hs hj hc hv hg
    go_enter Tryd.func65, Tryd.ntmps65
    go_wp2_with (first | (go_at_call 50; refine (HS.out _).mono ?_; rintro e w1 ⟨rfl, rfl⟩) | (go_at_call 117; refine (HJ.out _).mono ?_; rintro e w1 ⟨rfl, rfl⟩) | (go_at_call 119; refine (HR.out _).mono ?_; rintro e w1 ⟨rfl, b1⟩))
    go_ret
    exact ⟨rfl, (Below.refl _ _).alloc (Nat.le_refl _) _⟩
  · have hv : T.categoryOf c = 1 := by
      unfold Tab.categoryOf
      rw [propL_res hg (by unfold ownR; omega)]
      unfold fixC
      repeat (first | rw [if_pos (by omega)] | rw [if_neg (by omega)])
    rw [hv]
    have p0 : decide ((97 : Int) ≤ c) = true := decide_eq_true (by omega)
    have p1 : decide (c ≤ (122 : Int)) = false := decide_eq_false (by omega)
    have p2 : decide ((65 : Int) ≤ c) = true := decide_eq_true (by omega)
    have p3 : decide (c ≤ (90 : Int)) = false := decide_eq_false (by omega)
    have p4 : decide ((48 : Int) ≤ c) = true := decide_eq_true (by omega)
    have p5 : decide (c ≤ (57 : Int)) = false := decide_eq_false (by omega)
    have p6 : decide ((0 : Int) ≤ c) = true := decide_eq_true (by omega)
    have p7 : decide (c < (32 : Int)) = false := decide_eq_false (by omega)
    have p8 : (c == (127 : Int)) = false := by rw [beq_eq_false_iff_ne]; omega
    have p9 : (c == (32 : Int)) = false := by rw [beq_eq_false_iff_ne]; omega
    have p10 : decide ((32 : Int) < c) = true := decide_eq_true (by omega)
    have p11 : decide (c < (127 : Int)) = false := decide_eq_false (by omega)
    have hs : sylB c = false := syl_no (by omega)
    have hj : jamoB c = true := (jamoB_iff c).2 (by omega)
    rw [hs] at HS
    rw [hj] at HJ
    clear hs hj hc hv hg
    go_enter Tryd.func65, Tryd.ntmps65
    go_wp2_with (first | (go_at_call 50; refine (HS.out _).mono ?_; rintro e w1 ⟨rfl, rfl⟩) | (go_at_call 117; refine (HJ.out _).mono ?_; rintro e w1 ⟨rfl, rfl⟩) | (go_at_call 119; refine (HR.out _).mono ?_; rintro e w1 ⟨rfl, b1⟩))
    go_ret
    exact ⟨rfl, (Below.refl _ _).alloc (Nat.le_refl _) _⟩
  · have hv : T.categoryOf c = 1 := by
      unfold Tab.categoryOf
      rw [propL_res hg (by unfold ownR; omega)]
      unfold fixC
      repeat (first | rw [if_pos (by omega)] | rw [if_neg (by omega)])
    rw [hv]
    have p0 : decide ((97 : Int) ≤ c) = true := decide_eq_true (by omega)
    have p1 : decide (c ≤ (122 : Int)) = false := decide_eq_false (by omega)
    have p2 : decide ((65 : Int) ≤ c) = true := decide_eq_true (by omega)
    have p3 : decide (c ≤ (90 : Int)) = false := decide_eq_false (by omega)
    have p4 : decide ((48 : Int) ≤ c) = true := decide_eq_true (by omega)
    have p5 : decide (c ≤ (57 : Int)) = false := decide_eq_false (by omega)
    have p6 : decide ((0 : Int) ≤ c) = true := decide_eq_true (by omega)
    have p7 : decide (c < (32 : Int)) = false := decide_eq_false (by omega)
    have p8 : (c == (127 : Int)) = false := by rw [beq_eq_false_iff_ne]; omega
    have p9 : (c == (32 : Int)) = false := by rw [beq_eq_false_iff_ne]; omega
    have p10 : decide ((32 : Int) < c) = true := decide_eq_true (by omega)
    have p11 : decide (c < (127 : Int)) = false := decide_eq_false (by omega)
    have hs : sylB c = false := syl_no (by omega)
    have hj : jamoB c = true := (jamoB_iff c).2 (by omega)
    rw [hs] at HS
    rw [hj] at HJ
    clear hs hj hc hv hg
    go_enter Tryd.func65, Tryd.ntmps65
    go_wp2_with (first | (go_at_call 50; refine (HS.out _).mono ?_; rintro e w1 ⟨rfl, rfl⟩) | (go_at_call 117; refine (HJ.out _).mono ?_; rintro e w1 ⟨rfl, rfl⟩) | (go_at_call 119; refine (HR.out _).mono ?_; rintro e w1 ⟨rfl, b1⟩))
    go_ret
    exact ⟨rfl, (Below.refl _ _).alloc (Nat.le_refl _) _⟩
  · have hv : T.categoryOf c = 1 := by
      unfold Tab.categoryOf
      rw [propL_res hg (by unfold ownR; omega)]
      unfold fixC
      repeat (first | rw [if_pos (by omega)] | rw [if_neg (by omega)])
    rw [hv]
    have p0 : decide ((97 : Int) ≤ c) = true := decide_eq_true (by omega)
    have p1 : decide (c ≤ (122 : Int)) = false := decide_eq_false (by omega)
    have p2 : decide ((65 : Int) ≤ c) = true := decide_eq_true (by omega)
    have p3 : decide (c ≤ (90 : Int)) = false := decide_eq_false (by omega)
    have p4 : decide ((48 : Int) ≤ c) = true := decide_eq_true (by omega)
    have p5 : decide (c ≤ (57 : Int)) = false := decide_eq_false (by omega)
    have p6 : decide ((0 : Int) ≤ c) = true := decide_eq_true (by omega)
    have p7 : decide (c < (32 : Int)) = false := decide_eq_false (by omega)
    have p8 : (c == (127 : Int)) = false := by rw [beq_eq_false_iff_ne]; omega
    have p9 : (c == (32 : Int)) = false := by rw [beq_eq_false_iff_ne]; omega
    have p10 : decide ((32 : Int) < c) = true := decide_eq_true (by omega)
    have p11 : decide (c < (127 : Int)) = false := decide_eq_false (by omega)
    have hs : sylB c = false := syl_no (by omega)
    have hj : jamoB c = true := (jamoB_iff c).2 (by omega)
    rw [hs] at HS
    rw [hj] at HJ
    clear hs hj hc hv hg
    go_enter Tryd.func65, Tryd.ntmps65
    go_wp2_with (first | (go_at_call 50; refine (HS.out _).mono ?_; rintro e w1 ⟨rfl, rfl⟩) | (go_at_call 117; refine (HJ.out _).mono ?_; rintro e w1 ⟨rfl, rfl⟩) | (go_at_call 119; refine (HR.out _).mono ?_; rintro e w1 ⟨rfl, b1⟩))
    go_ret
    exact ⟨rfl, (Below.refl _ _).alloc (Nat.le_refl _) _⟩
  · have hv : T.categoryOf c = valueL T.category c := propL_free hg (by unfold ownR; omega)
    rw [hv]
    have p0 : decide ((97 : Int) ≤ c) = true := decide_eq_true (by omega)
    have p1 : decide (c ≤ (122 : Int)) = false := decide_eq_false (by omega)
    have p2 : decide ((65 : Int) ≤ c) = true := decide_eq_true (by omega)
    have p3 : decide (c ≤ (90 : Int)) = false := decide_eq_false (by omega)
    have p4 : decide ((48 : Int) ≤ c) = true := decide_eq_true (by omega)
    have p5 : decide (c ≤ (57 : Int)) = false := decide_eq_false (by omega)
    have p6 : decide ((0 : Int) ≤ c) = true := decide_eq_true (by omega)
    have p7 : decide (c < (32 : Int)) = false := decide_eq_false (by omega)
    have p8 : (c == (127 : Int)) = false := by rw [beq_eq_false_iff_ne]; omega
    have p9 : (c == (32 : Int)) = false := by rw [beq_eq_false_iff_ne]; omega
    have p10 : decide ((32 : Int) < c) = true := decide_eq_true (by omega)
    have p11 : decide (c < (127 : Int)) = false := decide_eq_false (by omega)
    have hs : sylB c = false := syl_no (by omega)
    have hj : jamoB c = false := jamo_no (by omega)
    rw [hs] at HS
    rw [hj] at HJ
    clear hs hj hc hv hg
    go_enter Tryd.func65, Tryd.ntmps65
    go_wp2_with (first | (go_at_call 50; refine (HS.out _).mono ?_; rintro e w1 ⟨rfl, rfl⟩) | (go_at_call 117; refine (HJ.out _).mono ?_; rintro e w1 ⟨rfl, rfl⟩) | (go_at_call 119; refine (HR.out _).mono ?_; rintro e w1 ⟨rfl, b1⟩))
    go_ret
    exact ⟨rfl, below_next ((Below.refl _ _).alloc (Nat.le_refl _) _) b1⟩

set_option maxRecDepth 100000 in
set_option maxHeartbeats 4000000 in
theorem refBidi_any (t : Tv) (T : Tab) (c : Int) (w : World) (ht : TabR w w.heap.size t T) (hg : GoodS T.bidi) :
    Calls Tryd.prog 68 #[t.val, .int .i64 c] w fun e w' => e = .returned (.int .i64 (T.bidiOf c)) ∧ Below w.heap.size w w' := by
  have HR := Lib.hid (fun o : Obj => refValue_any t.c3 T.bidi c _ (ht.r3.later ((Below.refl _ _).alloc (Nat.le_refl _) o)))
  have HJ := Lib.hid (fun W => refJamo_any c W)
  have HS := Lib.hid (fun W => refSyl_any c W)
  clear ht
  rcases show (c < 0) ∨ (0 ≤ c ∧ c ≤ 31) ∨ (32 ≤ c ∧ c ≤ 32) ∨ (33 ≤ c ∧ c ≤ 44) ∨ (45 ≤ c ∧ c ≤ 45) ∨ (46 ≤ c ∧ c ≤ 46) ∨ (47 ≤ c ∧ c ≤ 47) ∨ (48 ≤ c ∧ c ≤ 57) ∨ (58 ≤ c ∧ c ≤ 64) ∨ (65 ≤ c ∧ c ≤ 90) ∨ (91 ≤ c ∧ c ≤ 96) ∨ (97 ≤ c ∧ c ≤ 122) ∨ (123 ≤ c ∧ c ≤ 126) ∨ (127 ≤ c ∧ c ≤ 127) ∨ (44032 ≤ c ∧ c ≤ 55203) ∨ (4352 ≤ c ∧ c ≤ 4370) ∨ (4449 ≤ c ∧ c ≤ 4469) ∨ (4520 ≤ c ∧ c ≤ 4546) ∨ (128 ≤ c ∧ ¬(44032 ≤ c ∧ c ≤ 55203) ∧ ¬(4352 ≤ c ∧ c ≤ 4370 ∨ 4449 ≤ c ∧ c ≤ 4469 ∨ 4520 ≤ c ∧ c ≤ 4546)) by omega with hc | hc | hc | hc | hc | hc | hc | hc | hc | hc | hc | hc | hc | hc | hc | hc | hc | hc | hc
  · have hv : T.bidiOf c = valueL T.bidi c := propL_free hg (by unfold ownR; omega)
    rw [hv]
    have p0 : decide ((97 : Int) ≤ c) = false := decide_eq_false (by omega)
    have p1 : decide (c ≤ (122 : Int)) = true := decide_eq_true (by omega)
    have p2 : decide ((65 : Int) ≤ c) = false := decide_eq_false (by omega)
    have p3 : decide (c ≤ (90 : Int)) = true := decide_eq_true (by omega)
    have p4 : decide ((48 : Int) ≤ c) = false := decide_eq_false (by omega)
    have p5 : decide (c ≤ (57 : Int)) = true := decide_eq_true (by omega)
    have p6 : (c == (45 : Int)) = false := by rw [beq_eq_false_iff_ne]; omega
    have p7 : (c == (46 : Int)) = false := by rw [beq_eq_false_iff_ne]; omega
    have p8 : decide ((0 : Int) ≤ c) = false := decide_eq_false (by omega)
    have p9 : decide (c ≤ (32 : Int)) = true := decide_eq_true (by omega)
    have p10 : (c == (127 : Int)) = false := by rw [beq_eq_false_iff_ne]; omega
    have p11 : decide ((32 : Int) < c) = false := decide_eq_false (by omega)
    have p12 : decide (c < (127 : Int)) = true := decide_eq_true (by omega)
    have hs : sylB c = false := syl_no (by omega)
    have hj : jamoB c = false := jamo_no (by omega)
    rw [hs] at HS
    rw [hj] at HJ
    clear hs hj hc hv hg
    go_enter Tryd.func68, Tryd.ntmps68
    go_wp2_with (first | (go_at_call 50; refine (HS.out _).mono ?_; rintro e w1 ⟨rfl, rfl⟩) | (go_at_call 117; refine (HJ.out _).mono ?_; rintro e w1 ⟨rfl, rfl⟩) | (go_at_call 119; refine (HR.out _).mono ?_; rintro e w1 ⟨rfl, b1⟩))
    go_ret
    exact ⟨rfl, below_next ((Below.refl _ _).alloc (Nat.le_refl _) _) b1⟩
  · have hv : T.bidiOf c = 11 := by
      unfold Tab.bidiOf
      rw [propL_res hg (by unfold ownR; omega)]
      unfold fixC
      repeat (first | rw [if_pos (by omega)] | rw [if_neg (by omega)])
    rw [hv]
    have p0 : decide ((97 : Int) ≤ c) = false := decide_eq_false (by omega)
    have p1 : decide (c ≤ (122 : Int)) = true := decide_eq_true (by omega)
    have p2 : decide ((65 : Int) ≤ c) = false := decide_eq_false (by omega)
    have p3 : decide (c ≤ (90 : Int)) = true := decide_eq_true (by omega)
    have p4 : decide ((48 : Int) ≤ c) = false := decide_eq_false (by omega)
    have p5 : decide (c ≤ (57 : Int)) = true := decide_eq_true (by omega)
    have p6 : (c == (45 : Int)) = false := by rw [beq_eq_false_iff_ne]; omega
    have p7 : (c == (46 : Int)) = false := by rw [beq_eq_false_iff_ne]; omega
    have p8 : decide ((0 : Int) ≤ c) = true := decide_eq_true (by omega)
    have p9 : decide (c ≤ (32 : Int)) = true := decide_eq_true (by omega)
    have p10 : (c == (127 : Int)) = false := by rw [beq_eq_false_iff_ne]; omega
    have p11 : decide ((32 : Int) < c) = false := decide_eq_false (by omega)
    have p12 : decide (c < (127 : Int)) = true := decide_eq_true (by omega)
    have hs : sylB c = false := syl_no (by omega)
    have hj : jamoB c = false := jamo_no (by omega)
    rw [hs] at HS
    rw [hj] at HJ
    clear hs hj hc hv hg
    go_enter Tryd.func68, Tryd.ntmps68
    go_wp2_with (first | (go_at_call 50; refine (HS.out _).mono ?_; rintro e w1 ⟨rfl, rfl⟩) | (go_at_call 117; refine (HJ.out _).mono ?_; rintro e w1 ⟨rfl, rfl⟩) | (go_at_call 119; refine (HR.out _).mono ?_; rintro e w1 ⟨rfl, b1⟩))
    go_ret
    exact ⟨rfl, (Below.refl _ _).alloc (Nat.le_refl _) _⟩
  · have hv : T.bidiOf c = 11 := by
      unfold Tab.bidiOf
      rw [propL_res hg (by unfold ownR; omega)]
      unfold fixC
      repeat (first | rw [if_pos (by omega)] | rw [if_neg (by omega)])
    rw [hv]
    have p0 : decide ((97 : Int) ≤ c) = false := decide_eq_false (by omega)
    have p1 : decide (c ≤ (122 : Int)) = true := decide_eq_true (by omega)
    have p2 : decide ((65 : Int) ≤ c) = false := decide_eq_false (by omega)
    have p3 : decide (c ≤ (90 : Int)) = true := decide_eq_true (by omega)
    have p4 : decide ((48 : Int) ≤ c) = false := decide_eq_false (by omega)
    have p5 : decide (c ≤ (57 : Int)) = true := decide_eq_true (by omega)
    have p6 : (c == (45 : Int)) = false := by rw [beq_eq_false_iff_ne]; omega
    have p7 : (c == (46 : Int)) = false := by rw [beq_eq_false_iff_ne]; omega
    have p8 : decide ((0 : Int) ≤ c) = true := decide_eq_true (by omega)
    have p9 : decide (c ≤ (32 : Int)) = true := decide_eq_true (by omega)
    have p10 : (c == (127 : Int)) = false := by rw [beq_eq_false_iff_ne]; omega
    have p11 : decide ((32 : Int) < c) = false := decide_eq_false (by omega)
    have p12 : decide (c < (127 : Int)) = true := decide_eq_true (by omega)
    have hs : sylB c = false := syl_no (by omega)
    have hj : jamoB c = false := jamo_no (by omega)
    rw [hs] at HS
    rw [hj] at HJ
    clear hs hj hc hv hg
    go_enter Tryd.func68, Tryd.ntmps68
    go_wp2_with (first | (go_at_call 50; refine (HS.out _).mono ?_; rintro e w1 ⟨rfl, rfl⟩) | (go_at_call 117; refine (HJ.out _).mono ?_; rintro e w1 ⟨rfl, rfl⟩) | (go_at_call 119; refine (HR.out _).mono ?_; rintro e w1 ⟨rfl, b1⟩))
    go_ret
    exact ⟨rfl, (Below.refl _ _).alloc (Nat.le_refl _) _⟩
  · have hv : T.bidiOf c = 8 := by
      unfold Tab.bidiOf
      rw [propL_res hg (by unfold ownR; omega)]
      unfold fixC
      repeat (first | rw [if_pos (by omega)] | rw [if_neg (by omega)])
    rw [hv]
    have p0 : decide ((97 : Int) ≤ c) = false := decide_eq_false (by omega)
    have p1 : decide (c ≤ (122 : Int)) = true := decide_eq_true (by omega)
    have p2 : decide ((65 : Int) ≤ c) = false := decide_eq_false (by omega)
    have p3 : decide (c ≤ (90 : Int)) = true := decide_eq_true (by omega)
    have p4 : decide ((48 : Int) ≤ c) = false := decide_eq_false (by omega)
    have p5 : decide (c ≤ (57 : Int)) = true := decide_eq_true (by omega)
    have p6 : (c == (45 : Int)) = false := by rw [beq_eq_false_iff_ne]; omega
    have p7 : (c == (46 : Int)) = false := by rw [beq_eq_false_iff_ne]; omega
    have p8 : decide ((0 : Int) ≤ c) = true := decide_eq_true (by omega)
    have p9 : decide (c ≤ (32 : Int)) = false := decide_eq_false (by omega)
    have p10 : (c == (127 : Int)) = false := by rw [beq_eq_false_iff_ne]; omega
    have p11 : decide ((32 : Int) < c) = true := decide_eq_true (by omega)
    have p12 : decide (c < (127 : Int)) = true := decide_eq_true (by omega)
    have hs : sylB c = false := syl_no (by omega)
    have hj : jamoB c = false := jamo_no (by omega)
    rw [hs] at HS
    rw [hj] at HJ
    clear hs hj hc hv hg
    go_enter Tryd.func68, Tryd.ntmps68
    go_wp2_with (first | (go_at_call 50; refine (HS.out _).mono ?_; rintro e w1 ⟨rfl, rfl⟩) | (go_at_call 117; refine (HJ.out _).mono ?_; rintro e w1 ⟨rfl, rfl⟩) | (go_at_call 119; refine (HR.out _).mono ?_; rintro e w1 ⟨rfl, b1⟩))
    go_ret
    exact ⟨rfl, (Below.refl _ _).alloc (Nat.le_refl _) _⟩
  · have hv : T.bidiOf c = 5 := by
      unfold Tab.bidiOf
      rw [propL_res hg (by unfold ownR; omega)]
      unfold fixC
      repeat (first | rw [if_pos (by omega)] | rw [if_neg (by omega)])
    rw [hv]
    have p0 : decide ((97 : Int) ≤ c) = false := decide_eq_false (by omega)
    have p1 : decide (c ≤ (122 : Int)) = true := decide_eq_true (by omega)
    have p2 : decide ((65 : Int) ≤ c) = false := decide_eq_false (by omega)
    have p3 : decide (c ≤ (90 : Int)) = true := decide_eq_true (by omega)
    have p4 : decide ((48 : Int) ≤ c) = false := decide_eq_false (by omega)
    have p5 : decide (c ≤ (57 : Int)) = true := decide_eq_true (by omega)
    have p6 : (c == (45 : Int)) = true := by rw [beq_iff_eq]; omega
    have p7 : (c == (46 : Int)) = false := by rw [beq_eq_false_iff_ne]; omega
    have p8 : decide ((0 : Int) ≤ c) = true := decide_eq_true (by omega)
    have p9 : decide (c ≤ (32 : Int)) = false := decide_eq_false (by omega)
    have p10 : (c == (127 : Int)) = false := by rw [beq_eq_false_iff_ne]; omega
    have p11 : decide ((32 : Int) < c) = true := decide_eq_true (by omega)
    have p12 : decide (c < (127 : Int)) = true := decide_eq_true (by omega)
    have hs : sylB c = false := syl_no (by omega)
    have hj : jamoB c = false := jamo_no (by omega)
    rw [hs] at HS
    rw [hj] at HJ
    clear hs hj hc hv hg
    go_enter Tryd.func68, Tryd.ntmps68
    go_wp2_with (first | (go_at_call 50; refine (HS.out _).mono ?_; rintro e w1 ⟨rfl, rfl⟩) | (go_at_call 117; refine (HJ.out _).mono ?_; rintro e w1 ⟨rfl, rfl⟩) | (go_at_call 119; refine (HR.out _).mono ?_; rintro e w1 ⟨rfl, b1⟩))
    go_ret
    exact ⟨rfl, (Below.refl _ _).alloc (Nat.le_refl _) _⟩
  · have hv : T.bidiOf c = 6 := by
      unfold Tab.bidiOf
      rw [propL_res hg (by unfold ownR; omega)]
      unfold fixC
      repeat (first | rw [if_pos (by omega)] | rw [if_neg (by omega)])
    rw [hv]
    have p0 : decide ((97 : Int) ≤ c) = false := decide_eq_false (by omega)
    have p1 : decide (c ≤ (122 : Int)) = true := decide_eq_true (by omega)
    have p2 : decide ((65 : Int) ≤ c) = false := decide_eq_false (by omega)
    have p3 : decide (c ≤ (90 : Int)) = true := decide_eq_true (by omega)
    have p4 : decide ((48 : Int) ≤ c) = false := decide_eq_false (by omega)
    have p5 : decide (c ≤ (57 : Int)) = true := decide_eq_true (by omega)
    have p6 : (c == (45 : Int)) = false := by rw [beq_eq_false_iff_ne]; omega
    have p7 : (c == (46 : Int)) = true := by rw [beq_iff_eq]; omega
    have p8 : decide ((0 : Int) ≤ c) = true := decide_eq_true (by omega)
    have p9 : decide (c ≤ (32 : Int)) = false := decide_eq_false (by omega)
    have p10 : (c == (127 : Int)) = false := by rw [beq_eq_false_iff_ne]; omega
    have p11 : decide ((32 : Int) < c) = true := decide_eq_true (by omega)
    have p12 : decide (c < (127 : Int)) = true := decide_eq_true (by omega)
    have hs : sylB c = false := syl_no (by omega)
    have hj : jamoB c = false := jamo_no (by omega)
    rw [hs] at HS
    rw [hj] at HJ
    clear hs hj hc hv hg
    go_enter Tryd.func68, Tryd.ntmps68
    go_wp2_with (first | (go_at_call 50; refine (HS.out _).mono ?_; rintro e w1 ⟨rfl, rfl⟩) | (go_at_call 117; refine (HJ.out _).mono ?_; rintro e w1 ⟨rfl, rfl⟩) | (go_at_call 119; refine (HR.out _).mono ?_; rintro e w1 ⟨rfl, b1⟩))
    go_ret
    exact ⟨rfl, (Below.refl _ _).alloc (Nat.le_refl _) _⟩
  · have hv : T.bidiOf c = 8 := by
      unfold Tab.bidiOf
      rw [propL_res hg (by unfold ownR; omega)]
      unfold fixC
      repeat (first | rw [if_pos (by omega)] | rw [if_neg (by omega)])
    rw [hv]
    have p0 : decide ((97 : Int) ≤ c) = false := decide_eq_false (by omega)
    have p1 : decide (c ≤ (122 : Int)) = true := decide_eq_true (by omega)
    have p2 : decide ((65 : Int) ≤ c) = false := decide_eq_false (by omega)
    have p3 : decide (c ≤ (90 : Int)) = true := decide_eq_true (by omega)
    have p4 : decide ((48 : Int) ≤ c) = false := decide_eq_false (by omega)
    have p5 : decide (c ≤ (57 : Int)) = true := decide_eq_true (by omega)
    have p6 : (c == (45 : Int)) = false := by rw [beq_eq_false_iff_ne]; omega
    have p7 : (c == (46 : Int)) = false := by rw [beq_eq_false_iff_ne]; omega
    have p8 : decide ((0 : Int) ≤ c) = true := decide_eq_true (by omega)
    have p9 : decide (c ≤ (32 : Int)) = false := decide_eq_false (by omega)
    have p10 : (c == (127 : Int)) = false := by rw [beq_eq_false_iff_ne]; omega
    have p11 : decide ((32 : Int) < c) = true := decide_eq_true (by omega)
    have p12 : decide (c < (127 : Int)) = true := decide_eq_true (by omega)
    have hs : sylB c = false := syl_no (by omega)
    have hj : jamoB c = false := jamo_no (by omega)
    rw [hs] at HS
    rw [hj] at HJ
    clear hs hj hc hv hg
    go_enter Tryd.func68, Tryd.ntmps68
    go_wp2_with (first | (go_at_call 50; refine (HS.out _).mono ?_; rintro e w1 ⟨rfl, rfl⟩) | (go_at_call 117; refine (HJ.out _).mono ?_; rintro e w1 ⟨rfl, rfl⟩) | (go_at_call 119; refine (HR.out _).mono ?_; rintro e w1 ⟨rfl, b1⟩))
    go_ret
    exact ⟨rfl, (Below.refl _ _).alloc (Nat.le_refl _) _⟩
  · have hv : T.bidiOf c = 4 := by
      unfold Tab.bidiOf
      rw [propL_res hg (by unfold ownR; omega)]
      unfold fixC
      repeat (first | rw [if_pos (by omega)] | rw [if_neg (by omega)])
    rw [hv]
    have p0 : decide ((97 : Int) ≤ c) = false := decide_eq_false (by omega)
    have p1 : decide (c ≤ (122 : Int)) = true := decide_eq_true (by omega)
    have p2 : decide ((65 : Int) ≤ c) = false := decide_eq_false (by omega)
    have p3 : decide (c ≤ (90 : Int)) = true := decide_eq_true (by omega)
    have p4 : decide ((48 : Int) ≤ c) = true := decide_eq_true (by omega)
    have p5 : decide (c ≤ (57 : Int)) = true := decide_eq_true (by omega)
    have p6 : (c == (45 : Int)) = false := by rw [beq_eq_false_iff_ne]; omega
    have p7 : (c == (46 : Int)) = false := by rw [beq_eq_false_iff_ne]; omega
    have p8 : decide ((0 : Int) ≤ c) = true := decide_eq_true (by omega)
    have p9 : decide (c ≤ (32 : Int)) = false := decide_eq_false (by omega)
    have p10 : (c == (127 : Int)) = false := by rw [beq_eq_false_iff_ne]; omega
    have p11 : decide ((32 : Int) < c) = true := decide_eq_true (by omega)
    have p12 : decide (c < (127 : Int)) = true := decide_eq_true (by omega)
    have hs : sylB c = false := syl_no (by omega)
    have hj : jamoB c = false := jamo_no (by omega)
    rw [hs] at HS
    rw [hj] at HJ
    clear hs hj hc hv hg
    go_enter Tryd.func68, Tryd.ntmps68
    go_wp2_with (first | (go_at_call 50; refine (HS.out _).mono ?_; rintro e w1 ⟨rfl, rfl⟩) | (go_at_call 117; refine (HJ.out _).mono ?_; rintro e w1 ⟨rfl, rfl⟩) | (go_at_call 119; refine (HR.out _).mono ?_; rintro e w1 ⟨rfl, b1⟩))
    go_ret
    exact ⟨rfl, (Below.refl _ _).alloc (Nat.le_refl _) _⟩
  · have hv : T.bidiOf c = 8 := by
      unfold Tab.bidiOf
      rw [propL_res hg (by unfold ownR; omega)]
      unfold fixC
      repeat (first | rw [if_pos (by omega)] | rw [if_neg (by omega)])
    rw [hv]
    have p0 : decide ((97 : Int) ≤ c) = false := decide_eq_false (by omega)
    have p1 : decide (c ≤ (122 : Int)) = true := decide_eq_true (by omega)
    have p2 : decide ((65 : Int) ≤ c) = false := decide_eq_false (by omega)
    have p3 : decide (c ≤ (90 : Int)) = true := decide_eq_true (by omega)
    have p4 : decide ((48 : Int) ≤ c) = true := decide_eq_true (by omega)
    have p5 : decide (c ≤ (57 : Int)) = false := decide_eq_false (by omega)
    have p6 : (c == (45 : Int)) = false := by rw [beq_eq_false_iff_ne]; omega
    have p7 : (c == (46 : Int)) = false := by rw [beq_eq_false_iff_ne]; omega
    have p8 : decide ((0 : Int) ≤ c) = true := decide_eq_true (by omega)
    have p9 : decide (c ≤ (32 : Int)) = false := decide_eq_false (by omega)
    have p10 : (c == (127 : Int)) = false := by rw [beq_eq_false_iff_ne]; omega
    have p11 : decide ((32 : Int) < c) = true := decide_eq_true (by omega)
    have p12 : decide (c < (127 : Int)) = true := decide_eq_true (by omega)
    have hs : sylB c = false := syl_no (by omega)
    have hj : jamoB c = false := jamo_no (by omega)
    rw [hs] at HS
    rw [hj] at HJ
    clear hs hj hc hv hg
    go_enter Tryd.func68, Tryd.ntmps68
    go_wp2_with (first | (go_at_call 50; refine (HS.out _).mono ?_; rintro e w1 ⟨rfl, rfl⟩) | (go_at_call 117; refine (HJ.out _).mono ?_; rintro e w1 ⟨rfl, rfl⟩) | (go_at_call 119; refine (HR.out _).mono ?_; rintro e w1 ⟨rfl, b1⟩))
    go_ret
    exact ⟨rfl, (Below.refl _ _).alloc (Nat.le_refl _) _⟩
  · have hv : T.bidiOf c = 0 := by
      unfold Tab.bidiOf
      rw [propL_res hg (by unfold ownR; omega)]
      unfold fixC
      repeat (first | rw [if_pos (by omega)] | rw [if_neg (by omega)])
    rw [hv]
    have p0 : decide ((97 : Int) ≤ c) = false := decide_eq_false (by omega)
    have p1 : decide (c ≤ (122 : Int)) = true := decide_eq_true (by omega)
    have p2 : decide ((65 : Int) ≤ c) = true := decide_eq_true (by omega)
    have p3 : decide (c ≤ (90 : Int)) = true := decide_eq_true (by omega)
    have p4 : decide ((48 : Int) ≤ c) = true := decide_eq_true (by omega)
    have p5 : decide (c ≤ (57 : Int)) = false := decide_eq_false (by omega)
    have p6 : (c == (45 : Int)) = false := by rw [beq_eq_false_iff_ne]; omega
    have p7 : (c == (46 : Int)) = false := by rw [beq_eq_false_iff_ne]; omega
    have p8 : decide ((0 : Int) ≤ c) = true := decide_eq_true (by omega)
    have p9 : decide (c ≤ (32 : Int)) = false := decide_eq_false (by omega)
    have p10 : (c == (127 : Int)) = false := by rw [beq_eq_false_iff_ne]; omega
    have p11 : decide ((32 : Int) < c) = true := decide_eq_true (by omega)
    have p12 : decide (c < (127 : Int)) = true := decide_eq_true (by omega)
    have hs : sylB c = false := syl_no (by omega)
    have hj : jamoB c = false := jamo_no (by omega)
    rw [hs] at HS
    rw [hj] at HJ
    clear hs hj hc hv hg
    go_enter Tryd.func68, Tryd.ntmps68
    go_wp2_with (first | (go_at_call 50; refine (HS.out _).mono ?_; rintro e w1 ⟨rfl, rfl⟩) | (go_at_call 117; refine (HJ.out _).mono ?_; rintro e w1 ⟨rfl, rfl⟩) | (go_at_call 119; refine (HR.out _).mono ?_; rintro e w1 ⟨rfl, b1⟩))
    go_ret
    exact ⟨rfl, (Below.refl _ _).alloc (Nat.le_refl _) _⟩
  · have hv : T.bidiOf c = 8 := by
      unfold Tab.bidiOf
      rw [propL_res hg (by unfold ownR; omega)]
      unfold fixC
      repeat (first | rw [if_pos (by omega)] | rw [if_neg (by omega)])
    rw [hv]
    have p0 : decide ((97 : Int) ≤ c) = false := decide_eq_false (by omega)
    have p1 : decide (c ≤ (122 : Int)) = true := decide_eq_true (by omega)
    have p2 : decide ((65 : Int) ≤ c) = true := decide_eq_true (by omega)
    have p3 : decide (c ≤ (90 : Int)) = false := decide_eq_false (by omega)
    have p4 : decide ((48 : Int) ≤ c) = true := decide_eq_true (by omega)
    have p5 : decide (c ≤ (57 : Int)) = false := decide_eq_false (by omega)
    have p6 : (c == (45 : Int)) = false := by rw [beq_eq_false_iff_ne]; omega
    have p7 : (c == (46 : Int)) = false := by rw [beq_eq_false_iff_ne]; omega
    have p8 : decide ((0 : Int) ≤ c) = true := decide_eq_true (by omega)
    have p9 : decide (c ≤ (32 : Int)) = false := decide_eq_false (by omega)
    have p10 : (c == (127 : Int)) = false := by rw [beq_eq_false_iff_ne]; omega
    have p11 : decide ((32 : Int) < c) = true := decide_eq_true (by omega)
    have p12 : decide (c < (127 : Int)) = true := decide_eq_true (by omega)
    have hs : sylB c = false := syl_no (by omega)
    have hj : jamoB c = false := jamo_no (by omega)
    rw [hs] at HS
    rw [hj] at HJ
    clear hs hj hc hv hg
    go_enter Tryd.func68, Tryd.ntmps68
    go_wp2_with (first | (go_at_call 50; refine (HS.out _).mono ?_; rintro e w1 ⟨rfl, rfl⟩) | (go_at_call 117; refine (HJ.out _).mono ?_; rintro e w1 ⟨rfl, rfl⟩) | (go_at_call 119; refine (HR.out _).mono ?_; rintro e w1 ⟨rfl, b1⟩))
    go_ret
    exact ⟨rfl, (Below.refl _ _).alloc (Nat.le_refl _) _⟩
  · have hv : T.bidiOf c = 0 := by
      unfold Tab.bidiOf
      rw [propL_res hg (by unfold ownR; omega)]
      unfold fixC
      repeat (first | rw [if_pos (by omega)] | rw [if_neg (by omega)])
    rw [hv]
    have p0 : decide ((97 : Int) ≤ c) = true := decide_eq_true (by omega)
    have p1 : decide (c ≤ (122 : Int)) = true := decide_eq_true (by omega)
    have p2 : decide ((65 : Int) ≤ c) = true := decide_eq_true (by omega)
    have p3 : decide (c ≤ (90 : Int)) = false := decide_eq_false (by omega)
    have p4 : decide ((48 : Int) ≤ c) = true := decide_eq_true (by omega)
    have p5 : decide (c ≤ (57 : Int)) = false := decide_eq_false (by omega)
    have p6 : (c == (45 : Int)) = false := by rw [beq_eq_false_iff_ne]; omega
    have p7 : (c == (46 : Int)) = false := by rw [beq_eq_false_iff_ne]; omega
    have p8 : decide ((0 : Int) ≤ c) = true := decide_eq_true (by omega)
    have p9 : decide (c ≤ (32 : Int)) = false := decide_eq_false (by omega)
    have p10 : (c == (127 : Int)) = false := by rw [beq_eq_false_iff_ne]; omega
    have p11 : decide ((32 : Int) < c) = true := decide_eq_true (by omega)
    have p12 : decide (c < (127 : Int)) = true := decide_eq_true (by omega)
    have hs : sylB c = false := syl_no (by omega)
    have hj : jamoB c = false := jamo_no (by omega)
    rw [hs] at HS
    rw [hj] at HJ
    clear hs hj hc hv hg
    go_enter Tryd.func68, Tryd.ntmps68
    go_wp2_with (first | (go_at_call 50; refine (HS.out _).mono ?_; rintro e w1 ⟨rfl, rfl⟩) | (go_at_call 117; refine (HJ.out _).mono ?_; rintro e w1 ⟨rfl, rfl⟩) | (go_at_call 119; refine (HR.out _).mono ?_; rintro e w1 ⟨rfl, b1⟩))
    go_ret
    exact ⟨rfl, (Below.refl _ _).alloc (Nat.le_refl _) _⟩
  · have hv : T.bidiOf c = 8 := by
      unfold Tab.bidiOf
      rw [propL_res hg (by unfold ownR; omega)]
      unfold fixC
      repeat (first | rw [if_pos (by omega)] | rw [if_neg (by omega)])
    rw [hv]
    have p0 : decide ((97 : Int) ≤ c) = true := decide_eq_true (by omega)
    have p1 : decide (c ≤ (122 : Int)) = false := decide_eq_false (by omega)
    have p2 : decide ((65 : Int) ≤ c) = true := decide_eq_true (by omega)
    have p3 : decide (c ≤ (90 : Int)) = false := decide_eq_false (by omega)
    have p4 : decide ((48 : Int) ≤ c) = true := decide_eq_true (by omega)
    have p5 : decide (c ≤ (57 : Int)) = false := decide_eq_false (by omega)
    have p6 : (c == (45 : Int)) = false := by rw [beq_eq_false_iff_ne]; omega
    have p7 : (c == (46 : Int)) = false := by rw [beq_eq_false_iff_ne]; omega
    have p8 : decide ((0 : Int) ≤ c) = true := decide_eq_true (by omega)
    have p9 : decide (c ≤ (32 : Int)) = false := decide_eq_false (by omega)
    have p10 : (c == (127 : Int)) = false := by rw [beq_eq_false_iff_ne]; omega
    have p11 : decide ((32 : Int) < c) = true := decide_eq_true (by omega)
    have p12 : decide (c < (127 : Int)) = true := decide_eq_true (by omega)
    have hs : sylB c = false := syl_no (by omega)
    have hj : jamoB c = false := jamo_no (by omega)
    rw [hs] at HS
    rw [hj] at HJ
    clear hs hj hc hv hg
    go_enter Tryd.func68, Tryd.ntmps68
    go_wp2_with (first | (go_at_call 50; refine (HS.out _).mono ?_; rintro e w1 ⟨rfl, rfl⟩) | (go_at_call 117; refine (HJ.out _).mono ?_; rintro e w1 ⟨rfl, rfl⟩) | (go_at_call 119; refine (HR.out _).mono ?_; rintro e w1 ⟨rfl, b1⟩))
    go_ret
    exact ⟨rfl, (Below.refl _ _).alloc (Nat.le_refl _) _⟩
  · have hv : T.bidiOf c = 11 := by
      unfold Tab.bidiOf
      rw [propL_res hg (by unfold ownR; omega)]
      unfold fixC
      repeat (first | rw [if_pos (by omega)] | rw [if_neg (by omega)])
    rw [hv]
    have p0 : decide ((97 : Int) ≤ c) = true := decide_eq_true (by omega)
    have p1 : decide (c ≤ (122 : Int)) = false := decide_eq_false (by omega)
    have p2 : decide ((65 : Int) ≤ c) = true := decide_eq_true (by omega)
    have p3 : decide (c ≤ (90 : Int)) = false := decide_eq_false (by omega)
    have p4 : decide ((48 : Int) ≤ c) = true := decide_eq_true (by omega)
    have p5 : decide (c ≤ (57 : Int)) = false := decide_eq_false (by omega)
    have p6 : (c == (45 : Int)) = false := by rw [beq_eq_false_iff_ne]; omega
    have p7 : (c == (46 : Int)) = false := by rw [beq_eq_false_iff_ne]; omega
    have p8 : decide ((0 : Int) ≤ c) = true := decide_eq_true (by omega)
    have p9 : decide (c ≤ (32 : Int)) = false := decide_eq_false (by omega)
    have p10 : (c == (127 : Int)) = true := by rw [beq_iff_eq]; omega
    have p11 : decide ((32 : Int) < c) = true := decide_eq_true (by omega)
    have p12 : decide (c < (127 : Int)) = false := decide_eq_false (by omega)
    have hs : sylB c = false := syl_no (by omega)
    have hj : jamoB c = false := jamo_no (by omega)
    rw [hs] at HS
    rw [hj] at HJ
    clear hs hj hc hv hg
    go_enter Tryd.func68, Tryd.ntmps68
    go_wp2_with (first | (go_at_call 50; refine (HS.out _).mono ?_; rintro e w1 ⟨rfl, rfl⟩) | (go_at_call 117; refine (HJ.out _).mono ?_; rintro e w1 ⟨rfl, rfl⟩) | (go_at_call 119; refine (HR.out _).mono ?_; rintro e w1 ⟨rfl, b1⟩))
    go_ret
    exact ⟨rfl, (Below.refl _ _).alloc (Nat.le_refl _) _⟩
  · have hv : T.bidiOf c = valueL T.bidi c := by rw [show T.bidiOf c = 0 by unfold Tab.bidiOf; rw [propL_res hg (by unfold ownR; omega)]; unfold fixC; repeat (first | rw [if_pos (by omega)] | rw [if_neg (by omega)])]; exact (value_res hg.2.2 ((resB_iff c).2 (by omega))).symm
    rw [hv]
    have p0 : decide ((97 : Int) ≤ c) = true := decide_eq_true (by omega)
    have p1 : decide (c ≤ (122 : Int)) = false := decide_eq_false (by omega)
    have p2 : decide ((65 : Int) ≤ c) = true := decide_eq_true (by omega)
    have p3 : decide (c ≤ (90 : Int)) = false := decide_eq_false (by omega)
    have p4 : decide ((48 : Int) ≤ c) = true := decide_eq_true (by omega)
    have p5 : decide (c ≤ (57 : Int)) = false := decide_eq_false (by omega)
    have p6 : (c == (45 : Int)) = false := by rw [beq_eq_false_iff_ne]; omega
    have p7 : (c == (46 : Int)) = false := by rw [beq_eq_false_iff_ne]; omega
    have p8 : decide ((0 : Int) ≤ c) = true := decide_eq_true (by omega)
    have p9 : decide (c ≤ (32 : Int)) = false := decide_eq_false (by omega)
    have p10 : (c == (127 : Int)) = false := by rw [beq_eq_false_iff_ne]; omega
    have p11 : decide ((32 : Int) < c) = true := decide_eq_true (by omega)
    have p12 : decide (c < (127 : Int)) = false := decide_eq_false (by omega)
    clear hc hv hg
    go_enter Tryd.func68, Tryd.ntmps68
    go_wp2_with (first | (go_at_call 50; refine (HS.out _).mono ?_; rintro e w1 ⟨rfl, rfl⟩) | (go_at_call 117; refine (HJ.out _).mono ?_; rintro e w1 ⟨rfl, rfl⟩) | (go_at_call 119; refine (HR.out _).mono ?_; rintro e w1 ⟨rfl, b1⟩))
    go_ret
    exact ⟨rfl, below_next ((Below.refl _ _).alloc (Nat.le_refl _) _) b1⟩
  · have hv : T.bidiOf c = valueL T.bidi c := by rw [show T.bidiOf c = 0 by unfold Tab.bidiOf; rw [propL_res hg (by unfold ownR; omega)]; unfold fixC; repeat (first | rw [if_pos (by omega)] | rw [if_neg (by omega)])]; exact (value_res hg.2.2 ((resB_iff c).2 (by omega))).symm
    rw [hv]
    have p0 : decide ((97 : Int) ≤ c) = true := decide_eq_true (by omega)
    have p1 : decide (c ≤ (122 : Int)) = false := decide_eq_false (by omega)
    have p2 : decide ((65 : Int) ≤ c) = true := decide_eq_true (by omega)
    have p3 : decide (c ≤ (90 : Int)) = false := decide_eq_false (by omega)
    have p4 : decide ((48 : Int) ≤ c) = true := decide_eq_true (by omega)
    have p5 : decide (c ≤ (57 : Int)) = false := decide_eq_false (by omega)
    have p6 : (c == (45 : Int)) = false := by rw [beq_eq_false_iff_ne]; omega
    have p7 : (c == (46 : Int)) = false := by rw [beq_eq_false_iff_ne]; omega
    have p8 : decide ((0 : Int) ≤ c) = true := decide_eq_true (by omega)
    have p9 : decide (c ≤ (32 : Int)) = false := decide_eq_false (by omega)
    have p10 : (c == (127 : Int)) = false := by rw [beq_eq_false_iff_ne]; omega
    have p11 : decide ((32 : Int) < c) = true := decide_eq_true (by omega)
    have p12 : decide (c < (127 : Int)) = false := decide_eq_false (by omega)
    clear hc hv hg
    go_enter Tryd.func68, Tryd.ntmps68
    go_wp2_with (first | (go_at_call 50; refine (HS.out _).mono ?_; rintro e w1 ⟨rfl, rfl⟩) | (go_at_call 117; refine (HJ.out _).mono ?_; rintro e w1 ⟨rfl, rfl⟩) | (go_at_call 119; refine (HR.out _).mono ?_; rintro e w1 ⟨rfl, b1⟩))
    go_ret
    exact ⟨rfl, below_next ((Below.refl _ _).alloc (Nat.le_refl _) _) b1⟩
  · have hv : T.bidiOf c = valueL T.bidi c := by rw [show T.bidiOf c = 0 by unfold Tab.bidiOf; rw [propL_res hg (by unfold ownR; omega)]; unfold fixC; repeat (first | rw [if_pos (by omega)] | rw [if_neg (by omega)])]; exact (value_res hg.2.2 ((resB_iff c).2 (by omega))).symm
    rw [hv]
    have p0 : decide ((97 : Int) ≤ c) = true := decide_eq_true (by omega)
    have p1 : decide (c ≤ (122 : Int)) = false := decide_eq_false (by omega)
    have p2 : decide ((65 : Int) ≤ c) = true := decide_eq_true (by omega)
    have p3 : decide (c ≤ (90 : Int)) = false := decide_eq_false (by omega)
    have p4 : decide ((48 : Int) ≤ c) = true := decide_eq_true (by omega)
    have p5 : decide (c ≤ (57 : Int)) = false := decide_eq_false (by omega)
    have p6 : (c == (45 : Int)) = false := by rw [beq_eq_false_iff_ne]; omega
    have p7 : (c == (46 : Int)) = false := by rw [beq_eq_false_iff_ne]; omega
    have p8 : decide ((0 : Int) ≤ c) = true := decide_eq_true (by omega)
    have p9 : decide (c ≤ (32 : Int)) = false := decide_eq_false (by omega)
    have p10 : (c == (127 : Int)) = false := by rw [beq_eq_false_iff_ne]; omega
    have p11 : decide ((32 : Int) < c) = true := decide_eq_true (by omega)
    have p12 : decide (c < (127 : Int)) = false := decide_eq_false (by omega)
    clear hc hv hg
    go_enter Tryd.func68, Tryd.ntmps68
    go_wp2_with (first | (go_at_call 50; refine (HS.out _).mono ?_; rintro e w1 ⟨rfl, rfl⟩) | (go_at_call 117; refine (HJ.out _).mono ?_; rintro e w1 ⟨rfl, rfl⟩) | (go_at_call 119; refine (HR.out _).mono ?_; rintro e w1 ⟨rfl, b1⟩))
    go_ret
    exact ⟨rfl, below_next ((Below.refl _ _).alloc (Nat.le_refl _) _) b1⟩
  · have hv : T.bidiOf c = valueL T.bidi c := by rw [show T.bidiOf c = 0 by unfold Tab.bidiOf; rw [propL_res hg (by unfold ownR; omega)]; unfold fixC; repeat (first | rw [if_pos (by omega)] | rw [if_neg (by omega)])]; exact (value_res hg.2.2 ((resB_iff c).2 (by omega))).symm
    rw [hv]
    have p0 : decide ((97 : Int) ≤ c) = true := decide_eq_true (by omega)
    have p1 : decide (c ≤ (122 : Int)) = false := decide_eq_false (by omega)
    have p2 : decide ((65 : Int) ≤ c) = true := decide_eq_true (by omega)
    have p3 : decide (c ≤ (90 : Int)) = false := decide_eq_false (by omega)
    have p4 : decide ((48 : Int) ≤ c) = true := decide_eq_true (by omega)
    have p5 : decide (c ≤ (57 : Int)) = false := decide_eq_false (by omega)
    have p6 : (c == (45 : Int)) = false := by rw [beq_eq_false_iff_ne]; omega
    have p7 : (c == (46 : Int)) = false := by rw [beq_eq_false_iff_ne]; omega
    have p8 : decide ((0 : Int) ≤ c) = true := decide_eq_true (by omega)
    have p9 : decide (c ≤ (32 : Int)) = false := decide_eq_false (by omega)
    have p10 : (c == (127 : Int)) = false := by rw [beq_eq_false_iff_ne]; omega
    have p11 : decide ((32 : Int) < c) = true := decide_eq_true (by omega)
    have p12 : decide (c < (127 : Int)) = false := decide_eq_false (by omega)
    clear hc hv hg
    go_enter Tryd.func68, Tryd.ntmps68
    go_wp2_with (first | (go_at_call 50; refine (HS.out _).mono ?_; rintro e w1 ⟨rfl, rfl⟩) | (go_at_call 117; refine (HJ.out _).mono ?_; rintro e w1 ⟨rfl, rfl⟩) | (go_at_call 119; refine (HR.out _).mono ?_; rintro e w1 ⟨rfl, b1⟩))
    go_ret
    exact ⟨rfl, below_next ((Below.refl _ _).alloc (Nat.le_refl _) _) b1⟩
  · have hv : T.bidiOf c = valueL T.bidi c := propL_free hg (by unfold ownR; omega)
    rw [hv]
    have p0 : decide ((97 : Int) ≤ c) = true := decide_eq_true (by omega)
    have p1 : decide (c ≤ (122 : Int)) = false := decide_eq_false (by omega)
    have p2 : decide ((65 : Int) ≤ c) = true := decide_eq_true (by omega)
    have p3 : decide (c ≤ (90 : Int)) = false := decide_eq_false (by omega)
    have p4 : decide ((48 : Int) ≤ c) = true := decide_eq_true (by omega)
    have p5 : decide (c ≤ (57 : Int)) = false := decide_eq_false (by omega)
    have p6 : (c == (45 : Int)) = false := by rw [beq_eq_false_iff_ne]; omega
    have p7 : (c == (46 : Int)) = false := by rw [beq_eq_false_iff_ne]; omega
    have p8 : decide ((0 : Int) ≤ c) = true := decide_eq_true (by omega)
    have p9 : decide (c ≤ (32 : Int)) = false := decide_eq_false (by omega)
    have p10 : (c == (127 : Int)) = false := by rw [beq_eq_false_iff_ne]; omega
    have p11 : decide ((32 : Int) < c) = true := decide_eq_true (by omega)
    have p12 : decide (c < (127 : Int)) = false := decide_eq_false (by omega)
    have hs : sylB c = false := syl_no (by omega)
    have hj : jamoB c = false := jamo_no (by omega)
    rw [hs] at HS
    rw [hj] at HJ
    clear hs hj hc hv hg
    go_enter Tryd.func68, Tryd.ntmps68
    go_wp2_with (first | (go_at_call 50; refine (HS.out _).mono ?_; rintro e w1 ⟨rfl, rfl⟩) | (go_at_call 117; refine (HJ.out _).mono ?_; rintro e w1 ⟨rfl, rfl⟩) | (go_at_call 119; refine (HR.out _).mono ?_; rintro e w1 ⟨rfl, b1⟩))
    go_ret
    exact ⟨rfl, below_next ((Below.refl _ _).alloc (Nat.le_refl _) _) b1⟩

set_option maxRecDepth 100000 in
set_option maxHeartbeats 4000000 in
theorem refScript_any (t : Tv) (T : Tab) (c : Int) (w : World) (ht : TabR w w.heap.size t T) (hg : GoodS T.script) :
    Calls Tryd.prog 69 #[t.val, .int .i64 c] w fun e w' => e = .returned (.int .i64 (T.scriptOf c)) ∧ Below w.heap.size w w' := by
  have HR := Lib.hid (fun o : Obj => refValue_any t.c4 T.script c _ (ht.r4.later ((Below.refl _ _).alloc (Nat.le_refl _) o)))
  have HJ := Lib.hid (fun W => refJamo_any c W)
  have HS := Lib.hid (fun W => refSyl_any c W)
  clear ht
  rcases show (c < 0) ∨ (0 ≤ c ∧ c ≤ 31) ∨ (32 ≤ c ∧ c ≤ 32) ∨ (33 ≤ c ∧ c ≤ 44) ∨ (45 ≤ c ∧ c ≤ 45) ∨ (46 ≤ c ∧ c ≤ 46) ∨ (47 ≤ c ∧ c ≤ 47) ∨ (48 ≤ c ∧ c ≤ 57) ∨ (58 ≤ c ∧ c ≤ 64) ∨ (65 ≤ c ∧ c ≤ 90) ∨ (91 ≤ c ∧ c ≤ 96) ∨ (97 ≤ c ∧ c ≤ 122) ∨ (123 ≤ c ∧ c ≤ 126) ∨ (127 ≤ c ∧ c ≤ 127) ∨ (44032 ≤ c ∧ c ≤ 55203) ∨ (4352 ≤ c ∧ c ≤ 4370) ∨ (4449 ≤ c ∧ c ≤ 4469) ∨ (4520 ≤ c ∧ c ≤ 4546) ∨ (128 ≤ c ∧ ¬(44032 ≤ c ∧ c ≤ 55203) ∧ ¬(4352 ≤ c ∧ c ≤ 4370 ∨ 4449 ≤ c ∧ c ≤ 4469 ∨ 4520 ≤ c ∧ c ≤ 4546)) by omega with hc | hc | hc | hc | hc | hc | hc | hc | hc | hc | hc | hc | hc | hc | hc | hc | hc | hc | hc
  · have hv : T.scriptOf c = valueL T.script c := propL_free hg (by unfold ownR; omega)
    rw [hv]
    have p0 : decide ((97 : Int) ≤ c) = false := decide_eq_false (by omega)
    have p1 : decide (c ≤ (122 : Int)) = true := decide_eq_true (by omega)
    have p2 : decide ((65 : Int) ≤ c) = false := decide_eq_false (by omega)
    have p3 : decide (c ≤ (90 : Int)) = true := decide_eq_true (by omega)
    have p4 : decide ((0 : Int) ≤ c) = false := decide_eq_false (by omega)
    have p5 : decide (c ≤ (127 : Int)) = true := decide_eq_true (by omega)
    have hs : sylB c = false := syl_no (by omega)
    have hj : jamoB c = false := jamo_no (by omega)
    rw [hs] at HS
    rw [hj] at HJ
    clear hs hj hc hv hg
    go_enter Tryd.func69, Tryd.ntmps69
    go_wp2_with (first | (go_at_call 50; refine (HS.out _).mono ?_; rintro e w1 ⟨rfl, rfl⟩) | (go_at_call 117; refine (HJ.out _).mono ?_; rintro e w1 ⟨rfl, rfl⟩) | (go_at_call 119; refine (HR.out _).mono ?_; rintro e w1 ⟨rfl, b1⟩))
    go_ret
    exact ⟨rfl, below_next ((Below.refl _ _).alloc (Nat.le_refl _) _) b1⟩
  · have hv : T.scriptOf c = 1 := by
      unfold Tab.scriptOf
      rw [propL_res hg (by unfold ownR; omega)]
      unfold fixC
      repeat (first | rw [if_pos (by omega)] | rw [if_neg (by omega)])
    rw [hv]
    have p0 : decide ((97 : Int) ≤ c) = false := decide_eq_false (by omega)
    have p1 : decide (c ≤ (122 : Int)) = true := decide_eq_true (by omega)
    have p2 : decide ((65 : Int) ≤ c) = false := decide_eq_false (by omega)
    have p3 : decide (c ≤ (90 : Int)) = true := decide_eq_true (by omega)
    have p4 : decide ((0 : Int) ≤ c) = true := decide_eq_true (by omega)
    have p5 : decide (c ≤ (127 : Int)) = true := decide_eq_true (by omega)
    have hs : sylB c = false := syl_no (by omega)
    have hj : jamoB c = false := jamo_no (by omega)
    rw [hs] at HS
    rw [hj] at HJ
    clear hs hj hc hv hg
    go_enter Tryd.func69, Tryd.ntmps69
    go_wp2_with (first | (go_at_call 50; refine (HS.out _).mono ?_; rintro e w1 ⟨rfl, rfl⟩) | (go_at_call 117; refine (HJ.out _).mono ?_; rintro e w1 ⟨rfl, rfl⟩) | (go_at_call 119; refine (HR.out _).mono ?_; rintro e w1 ⟨rfl, b1⟩))
    go_ret
    exact ⟨rfl, (Below.refl _ _).alloc (Nat.le_refl _) _⟩
  · have hv : T.scriptOf c = 1 := by
      unfold Tab.scriptOf
      rw [propL_res hg (by unfold ownR; omega)]
      unfold fixC
      repeat (first | rw [if_pos (by omega)] | rw [if_neg (by omega)])
    rw [hv]
    have p0 : decide ((97 : Int) ≤ c) = false := decide_eq_false (by omega)
    have p1 : decide (c ≤ (122 : Int)) = true := decide_eq_true (by omega)
    have p2 : decide ((65 : Int) ≤ c) = false := decide_eq_false (by omega)
    have p3 : decide (c ≤ (90 : Int)) = true := decide_eq_true (by omega)
    have p4 : decide ((0 : Int) ≤ c) = true := decide_eq_true (by omega)
    have p5 : decide (c ≤ (127 : Int)) = true := decide_eq_true (by omega)
    have hs : sylB c = false := syl_no (by omega)
    have hj : jamoB c = false := jamo_no (by omega)
    rw [hs] at HS
    rw [hj] at HJ
    clear hs hj hc hv hg
    go_enter Tryd.func69, Tryd.ntmps69
    go_wp2_with (first | (go_at_call 50; refine (HS.out _).mono ?_; rintro e w1 ⟨rfl, rfl⟩) | (go_at_call 117; refine (HJ.out _).mono ?_; rintro e w1 ⟨rfl, rfl⟩) | (go_at_call 119; refine (HR.out _).mono ?_; rintro e w1 ⟨rfl, b1⟩))
    go_ret
    exact ⟨rfl, (Below.refl _ _).alloc (Nat.le_refl _) _⟩
  · have hv : T.scriptOf c = 1 := by
      unfold Tab.scriptOf
      rw [propL_res hg (by unfold ownR; omega)]
      unfold fixC
      repeat (first | rw [if_pos (by omega)] | rw [if_neg (by omega)])
    rw [hv]
    have p0 : decide ((97 : Int) ≤ c) = false := decide_eq_false (by omega)
    have p1 : decide (c ≤ (122 : Int)) = true := decide_eq_true (by omega)
    have p2 : decide ((65 : Int) ≤ c) = false := decide_eq_false (by omega)
    have p3 : decide (c ≤ (90 : Int)) = true := decide_eq_true (by omega)
    have p4 : decide ((0 : Int) ≤ c) = true := decide_eq_true (by omega)
    have p5 : decide (c ≤ (127 : Int)) = true := decide_eq_true (by omega)
    have hs : sylB c = false := syl_no (by omega)
    have hj : jamoB c = false := jamo_no (by omega)
    rw [hs] at HS
    rw [hj] at HJ
    clear hs hj hc hv hg
    go_enter Tryd.func69, Tryd.ntmps69
    go_wp2_with (first | (go_at_call 50; refine (HS.out _).mono ?_; rintro e w1 ⟨rfl, rfl⟩) | (go_at_call 117; refine (HJ.out _).mono ?_; rintro e w1 ⟨rfl, rfl⟩) | (go_at_call 119; refine (HR.out _).mono ?_; rintro e w1 ⟨rfl, b1⟩))
    go_ret
    exact ⟨rfl, (Below.refl _ _).alloc (Nat.le_refl _) _⟩
  · have hv : T.scriptOf c = 1 := by
      unfold Tab.scriptOf
      rw [propL_res hg (by unfold ownR; omega)]
      unfold fixC
      repeat (first | rw [if_pos (by omega)] | rw [if_neg (by omega)])
    rw [hv]
    have p0 : decide ((97 : Int) ≤ c) = false := decide_eq_false (by omega)
    have p1 : decide (c ≤ (122 : Int)) = true := decide_eq_true (by omega)
    have p2 : decide ((65 : Int) ≤ c) = false := decide_eq_false (by omega)
    have p3 : decide (c ≤ (90 : Int)) = true := decide_eq_true (by omega)
    have p4 : decide ((0 : Int) ≤ c) = true := decide_eq_true (by omega)
    have p5 : decide (c ≤ (127 : Int)) = true := decide_eq_true (by omega)
    have hs : sylB c = false := syl_no (by omega)
    have hj : jamoB c = false := jamo_no (by omega)
    rw [hs] at HS
    rw [hj] at HJ
    clear hs hj hc hv hg
    go_enter Tryd.func69, Tryd.ntmps69
    go_wp2_with (first | (go_at_call 50; refine (HS.out _).mono ?_; rintro e w1 ⟨rfl, rfl⟩) | (go_at_call 117; refine (HJ.out _).mono ?_; rintro e w1 ⟨rfl, rfl⟩) | (go_at_call 119; refine (HR.out _).mono ?_; rintro e w1 ⟨rfl, b1⟩))
    go_ret
    exact ⟨rfl, (Below.refl _ _).alloc (Nat.le_refl _) _⟩
  · have hv : T.scriptOf c = 1 := by
      unfold Tab.scriptOf
      rw [propL_res hg (by unfold ownR; omega)]
      unfold fixC
      repeat (first | rw [if_pos (by omega)] | rw [if_neg (by omega)])
    rw [hv]
    have p0 : decide ((97 : Int) ≤ c) = false := decide_eq_false (by omega)
    have p1 : decide (c ≤ (122 : Int)) = true := decide_eq_true (by omega)
    have p2 : decide ((65 : Int) ≤ c) = false := decide_eq_false (by omega)
    have p3 : decide (c ≤ (90 : Int)) = true := decide_eq_true (by omega)
    have p4 : decide ((0 : Int) ≤ c) = true := decide_eq_true (by omega)
    have p5 : decide (c ≤ (127 : Int)) = true := decide_eq_true (by omega)
    have hs : sylB c = false := syl_no (by omega)
    have hj : jamoB c = false := jamo_no (by omega)
    rw [hs] at HS
    rw [hj] at HJ
    clear hs hj hc hv hg
    go_enter Tryd.func69, Tryd.ntmps69
    go_wp2_with (first | (go_at_call 50; refine (HS.out _).mono ?_; rintro e w1 ⟨rfl, rfl⟩) | (go_at_call 117; refine (HJ.out _).mono ?_; rintro e w1 ⟨rfl, rfl⟩) | (go_at_call 119; refine (HR.out _).mono ?_; rintro e w1 ⟨rfl, b1⟩))
    go_ret
    exact ⟨rfl, (Below.refl _ _).alloc (Nat.le_refl _) _⟩
  · have hv : T.scriptOf c = 1 := by
      unfold Tab.scriptOf
      rw [propL_res hg (by unfold ownR; omega)]
      unfold fixC
      repeat (first | rw [if_pos (by omega)] | rw [if_neg (by omega)])
    rw [hv]
    have p0 : decide ((97 : Int) ≤ c) = false := decide_eq_false (by omega)
    have p1 : decide (c ≤ (122 : Int)) = true := decide_eq_true (by omega)
    have p2 : decide ((65 : Int) ≤ c) = false := decide_eq_false (by omega)
    have p3 : decide (c ≤ (90 : Int)) = true := decide_eq_true (by omega)
    have p4 : decide ((0 : Int) ≤ c) = true := decide_eq_true (by omega)
    have p5 : decide (c ≤ (127 : Int)) = true := decide_eq_true (by omega)
    have hs : sylB c = false := syl_no (by omega)
    have hj : jamoB c = false := jamo_no (by omega)
    rw [hs] at HS
    rw [hj] at HJ
    clear hs hj hc hv hg
    go_enter Tryd.func69, Tryd.ntmps69
    go_wp2_with (first | (go_at_call 50; refine (HS.out _).mono ?_; rintro e w1 ⟨rfl, rfl⟩) | (go_at_call 117; refine (HJ.out _).mono ?_; rintro e w1 ⟨rfl, rfl⟩) | (go_at_call 119; refine (HR.out _).mono ?_; rintro e w1 ⟨rfl, b1⟩))
    go_ret
    exact ⟨rfl, (Below.refl _ _).alloc (Nat.le_refl _) _⟩
  · have hv : T.scriptOf c = 1 := by
      unfold Tab.scriptOf
      rw [propL_res hg (by unfold ownR; omega)]
      unfold fixC
      repeat (first | rw [if_pos (by omega)] | rw [if_neg (by omega)])
    rw [hv]
    have p0 : decide ((97 : Int) ≤ c) = false := decide_eq_false (by omega)
    have p1 : decide (c ≤ (122 : Int)) = true := decide_eq_true (by omega)
    have p2 : decide ((65 : Int) ≤ c) = false := decide_eq_false (by omega)
    have p3 : decide (c ≤ (90 : Int)) = true := decide_eq_true (by omega)
    have p4 : decide ((0 : Int) ≤ c) = true := decide_eq_true (by omega)
    have p5 : decide (c ≤ (127 : Int)) = true := decide_eq_true (by omega)
    have hs : sylB c = false := syl_no (by omega)
    have hj : jamoB c = false := jamo_no (by omega)
    rw [hs] at HS
    rw [hj] at HJ
    clear hs hj hc hv hg
    go_enter Tryd.func69, Tryd.ntmps69
    go_wp2_with (first | (go_at_call 50; refine (HS.out _).mono ?_; rintro e w1 ⟨rfl, rfl⟩) | (go_at_call 117; refine (HJ.out _).mono ?_; rintro e w1 ⟨rfl, rfl⟩) | (go_at_call 119; refine (HR.out _).mono ?_; rintro e w1 ⟨rfl, b1⟩))
    go_ret
    exact ⟨rfl, (Below.refl _ _).alloc (Nat.le_refl _) _⟩
  · have hv : T.scriptOf c = 1 := by
      unfold Tab.scriptOf
      rw [propL_res hg (by unfold ownR; omega)]
      unfold fixC
      repeat (first | rw [if_pos (by omega)] | rw [if_neg (by omega)])
    rw [hv]
    have p0 : decide ((97 : Int) ≤ c) = false := decide_eq_false (by omega)
    have p1 : decide (c ≤ (122 : Int)) = true := decide_eq_true (by omega)
    have p2 : decide ((65 : Int) ≤ c) = false := decide_eq_false (by omega)
    have p3 : decide (c ≤ (90 : Int)) = true := decide_eq_true (by omega)
    have p4 : decide ((0 : Int) ≤ c) = true := decide_eq_true (by omega)
    have p5 : decide (c ≤ (127 : Int)) = true := decide_eq_true (by omega)
    have hs : sylB c = false := syl_no (by omega)
    have hj : jamoB c = false := jamo_no (by omega)
    rw [hs] at HS
    rw [hj] at HJ
    clear hs hj hc hv hg
    go_enter Tryd.func69, Tryd.ntmps69
    go_wp2_with (first | (go_at_call 50; refine (HS.out _).mono ?_; rintro e w1 ⟨rfl, rfl⟩) | (go_at_call 117; refine (HJ.out _).mono ?_; rintro e w1 ⟨rfl, rfl⟩) | (go_at_call 119; refine (HR.out _).mono ?_; rintro e w1 ⟨rfl, b1⟩))
    go_ret
    exact ⟨rfl, (Below.refl _ _).alloc (Nat.le_refl _) _⟩
  · have hv : T.scriptOf c = 3 := by
      unfold Tab.scriptOf
      rw [propL_res hg (by unfold ownR; omega)]
      unfold fixC
      repeat (first | rw [if_pos (by omega)] | rw [if_neg (by omega)])
    rw [hv]
    have p0 : decide ((97 : Int) ≤ c) = false := decide_eq_false (by omega)
    have p1 : decide (c ≤ (122 : Int)) = true := decide_eq_true (by omega)
    have p2 : decide ((65 : Int) ≤ c) = true := decide_eq_true (by omega)
    have p3 : decide (c ≤ (90 : Int)) = true := decide_eq_true (by omega)
    have p4 : decide ((0 : Int) ≤ c) = true := decide_eq_true (by omega)
    have p5 : decide (c ≤ (127 : Int)) = true := decide_eq_true (by omega)
    have hs : sylB c = false := syl_no (by omega)
    have hj : jamoB c = false := jamo_no (by omega)
    rw [hs] at HS
    rw [hj] at HJ
    clear hs hj hc hv hg
    go_enter Tryd.func69, Tryd.ntmps69
    go_wp2_with (first | (go_at_call 50; refine (HS.out _).mono ?_; rintro e w1 ⟨rfl, rfl⟩) | (go_at_call 117; refine (HJ.out _).mono ?_; rintro e w1 ⟨rfl, rfl⟩) | (go_at_call 119; refine (HR.out _).mono ?_; rintro e w1 ⟨rfl, b1⟩))
    go_ret
    exact ⟨rfl, (Below.refl _ _).alloc (Nat.le_refl _) _⟩
  · have hv : T.scriptOf c = 1 := by
      unfold Tab.scriptOf
      rw [propL_res hg (by unfold ownR; omega)]
      unfold fixC
      repeat (first | rw [if_pos (by omega)] | rw [if_neg (by omega)])
    rw [hv]
    have p0 : decide ((97 : Int) ≤ c) = false := decide_eq_false (by omega)
    have p1 : decide (c ≤ (122 : Int)) = true := decide_eq_true (by omega)
    have p2 : decide ((65 : Int) ≤ c) = true := decide_eq_true (by omega)
    have p3 : decide (c ≤ (90 : Int)) = false := decide_eq_false (by omega)
    have p4 : decide ((0 : Int) ≤ c) = true := decide_eq_true (by omega)
    have p5 : decide (c ≤ (127 : Int)) = true := decide_eq_true (by omega)
    have hs : sylB c = false := syl_no (by omega)
    have hj : jamoB c = false := jamo_no (by omega)
    rw [hs] at HS
    rw [hj] at HJ
    clear hs hj hc hv hg
    go_enter Tryd.func69, Tryd.ntmps69
    go_wp2_with (first | (go_at_call 50; refine (HS.out _).mono ?_; rintro e w1 ⟨rfl, rfl⟩) | (go_at_call 117; refine (HJ.out _).mono ?_; rintro e w1 ⟨rfl, rfl⟩) | (go_at_call 119; refine (HR.out _).mono ?_; rintro e w1 ⟨rfl, b1⟩))
    go_ret
    exact ⟨rfl, (Below.refl _ _).alloc (Nat.le_refl _) _⟩
  · have hv : T.scriptOf c = 3 := by
      unfold Tab.scriptOf
      rw [propL_res hg (by unfold ownR; omega)]
      unfold fixC
      repeat (first | rw [if_pos (by omega)] | rw [if_neg (by omega)])
    rw [hv]
    have p0 : decide ((97 : Int) ≤ c) = true := decide_eq_true (by omega)
    have p1 : decide (c ≤ (122 : Int)) = true := decide_eq_true (by omega)
    have p2 : decide ((65 : Int) ≤ c) = true := decide_eq_true (by omega)
    have p3 : decide (c ≤ (90 : Int)) = false := decide_eq_false (by omega)
    have p4 : decide ((0 : Int) ≤ c) = true := decide_eq_true (by omega)
    have p5 : decide (c ≤ (127 : Int)) = true := decide_eq_true (by omega)
    have hs : sylB c = false := syl_no (by omega)
    have hj : jamoB c = false := jamo_no (by omega)
    rw [hs] at HS
    rw [hj] at HJ
    clear hs hj hc hv hg
    go_enter Tryd.func69, Tryd.ntmps69
    go_wp2_with (first | (go_at_call 50; refine (HS.out _).mono ?_; rintro e w1 ⟨rfl, rfl⟩) | (go_at_call 117; refine (HJ.out _).mono ?_; rintro e w1 ⟨rfl, rfl⟩) | (go_at_call 119; refine (HR.out _).mono ?_; rintro e w1 ⟨rfl, b1⟩))
    go_ret
    exact ⟨rfl, (Below.refl _ _).alloc (Nat.le_refl _) _⟩
  · have hv : T.scriptOf c = 1 := by
      unfold Tab.scriptOf
      rw [propL_res hg (by unfold ownR; omega)]
      unfold fixC
      repeat (first | rw [if_pos (by omega)] | rw [if_neg (by omega)])
    rw [hv]
    have p0 : decide ((97 : Int) ≤ c) = true := decide_eq_true (by omega)
    have p1 : decide (c ≤ (122 : Int)) = false := decide_eq_false (by omega)
    have p2 : decide ((65 : Int) ≤ c) = true := decide_eq_true (by omega)
    have p3 : decide (c ≤ (90 : Int)) = false := decide_eq_false (by omega)
    have p4 : decide ((0 : Int) ≤ c) = true := decide_eq_true (by omega)
    have p5 : decide (c ≤ (127 : Int)) = true := decide_eq_true (by omega)
    have hs : sylB c = false := syl_no (by omega)
    have hj : jamoB c = false := jamo_no (by omega)
    rw [hs] at HS
    rw [hj] at HJ
    clear hs hj hc hv hg
    go_enter Tryd.func69, Tryd.ntmps69
    go_wp2_with (first | (go_at_call 50; refine (HS.out _).mono ?_; rintro e w1 ⟨rfl, rfl⟩) | (go_at_call 117; refine (HJ.out _).mono ?_; rintro e w1 ⟨rfl, rfl⟩) | (go_at_call 119; refine (HR.out _).mono ?_; rintro e w1 ⟨rfl, b1⟩))
    go_ret
    exact ⟨rfl, (Below.refl _ _).alloc (Nat.le_refl _) _⟩
  · have hv : T.scriptOf c = 1 := by
      unfold Tab.scriptOf
      rw [propL_res hg (by unfold ownR; omega)]
      unfold fixC
      repeat (first | rw [if_pos (by omega)] | rw [if_neg (by omega)])
    rw [hv]
    have p0 : decide ((97 : Int) ≤ c) = true := decide_eq_true (by omega)
    have p1 : decide (c ≤ (122 : Int)) = false := decide_eq_false (by omega)
    have p2 : decide ((65 : Int) ≤ c) = true := decide_eq_true (by omega)
    have p3 : decide (c ≤ (90 : Int)) = false := decide_eq_false (by omega)
    have p4 : decide ((0 : Int) ≤ c) = true := decide_eq_true (by omega)
    have p5 : decide (c ≤ (127 : Int)) = true := decide_eq_true (by omega)
    have hs : sylB c = false := syl_no (by omega)
    have hj : jamoB c = false := jamo_no (by omega)
    rw [hs] at HS
    rw [hj] at HJ
    clear hs hj hc hv hg
    go_enter Tryd.func69, Tryd.ntmps69
    go_wp2_with (first | (go_at_call 50; refine (HS.out _).mono ?_; rintro e w1 ⟨rfl, rfl⟩) | (go_at_call 117; refine (HJ.out _).mono ?_; rintro e w1 ⟨rfl, rfl⟩) | (go_at_call 119; refine (HR.out _).mono ?_; rintro e w1 ⟨rfl, b1⟩))
    go_ret
    exact ⟨rfl, (Below.refl _ _).alloc (Nat.le_refl _) _⟩
  · have hv : T.scriptOf c = 9 := by
      unfold Tab.scriptOf
      rw [propL_res hg (by unfold ownR; omega)]
      unfold fixC
      repeat (first | rw [if_pos (by omega)] | rw [if_neg (by omega)])
    rw [hv]
    have p0 : decide ((97 : Int) ≤ c) = true := decide_eq_true (by omega)
    have p1 : decide (c ≤ (122 : Int)) = false := decide_eq_false (by omega)
    have p2 : decide ((65 : Int) ≤ c) = true := decide_eq_true (by omega)
    have p3 : decide (c ≤ (90 : Int)) = false := decide_eq_false (by omega)
    have p4 : decide ((0 : Int) ≤ c) = true := decide_eq_true (by omega)
    have p5 : decide (c ≤ (127 : Int)) = false := decide_eq_false (by omega)
    have hs : sylB c = true := (sylB_iff c).2 (by omega)
    have hj : jamoB c = false := jamo_no (by omega)
    rw [hs] at HS
    rw [hj] at HJ
    clear hs hj hc hv hg
    go_enter Tryd.func69, Tryd.ntmps69
    go_wp2_with (first | (go_at_call 50; refine (HS.out _).mono ?_; rintro e w1 ⟨rfl, rfl⟩) | (go_at_call 117; refine (HJ.out _).mono ?_; rintro e w1 ⟨rfl, rfl⟩) | (go_at_call 119; refine (HR.out _).mono ?_; rintro e w1 ⟨rfl, b1⟩))
    go_ret
    exact ⟨rfl, (Below.refl _ _).alloc (Nat.le_refl _) _⟩
  · have hv : T.scriptOf c = 9 := by
      unfold Tab.scriptOf
      rw [propL_res hg (by unfold ownR; omega)]
      unfold fixC
      repeat (first | rw [if_pos (by omega)] | rw [if_neg (by omega)])
    rw [hv]
    have p0 : decide ((97 : Int) ≤ c) = true := decide_eq_true (by omega)
    have p1 : decide (c ≤ (122 : Int)) = false := decide_eq_false (by omega)
    have p2 : decide ((65 : Int) ≤ c) = true := decide_eq_true (by omega)
    have p3 : decide (c ≤ (90 : Int)) = false := decide_eq_false (by omega)
    have p4 : decide ((0 : Int) ≤ c) = true := decide_eq_true (by omega)
    have p5 : decide (c ≤ (127 : Int)) = false := decide_eq_false (by omega)
    have hs : sylB c = false := syl_no (by omega)
    have hj : jamoB c = true := (jamoB_iff c).2 (by omega)
    rw [hs] at HS
    rw [hj] at HJ
    clear hs hj hc hv hg
    go_enter Tryd.func69, Tryd.ntmps69
    go_wp2_with (first | (go_at_call 50; refine (HS.out _).mono ?_; rintro e w1 ⟨rfl, rfl⟩) | (go_at_call 117; refine (HJ.out _).mono ?_; rintro e w1 ⟨rfl, rfl⟩) | (go_at_call 119; refine (HR.out _).mono ?_; rintro e w1 ⟨rfl, b1⟩))
    go_ret
    exact ⟨rfl, (Below.refl _ _).alloc (Nat.le_refl _) _⟩
  · have hv : T.scriptOf c = 9 := by
      unfold Tab.scriptOf
      rw [propL_res hg (by unfold ownR; omega)]
      unfold fixC
      repeat (first | rw [if_pos (by omega)] | rw [if_neg (by omega)])
    rw [hv]
    have p0 : decide ((97 : Int) ≤ c) = true := decide_eq_true (by omega)
    have p1 : decide (c ≤ (122 : Int)) = false := decide_eq_false (by omega)
    have p2 : decide ((65 : Int) ≤ c) = true := decide_eq_true (by omega)
    have p3 : decide (c ≤ (90 : Int)) = false := decide_eq_false (by omega)
    have p4 : decide ((0 : Int) ≤ c) = true := decide_eq_true (by omega)
    have p5 : decide (c ≤ (127 : Int)) = false := decide_eq_false (by omega)
    have hs : sylB c = false := syl_no (by omega)
    have hj : jamoB c = true := (jamoB_iff c).2 (by omega)
    rw [hs] at HS
    rw [hj] at HJ
    clear hs hj hc hv hg
    go_enter Tryd.func69, Tryd.ntmps69
    go_wp2_with (first | (go_at_call 50; refine (HS.out _).mono ?_; rintro e w1 ⟨rfl, rfl⟩) | (go_at_call 117; refine (HJ.out _).mono ?_; rintro e w1 ⟨rfl, rfl⟩) | (go_at_call 119; refine (HR.out _).mono ?_; rintro e w1 ⟨rfl, b1⟩))
    go_ret
    exact ⟨rfl, (Below.refl _ _).alloc (Nat.le_refl _) _⟩
  · have hv : T.scriptOf c = 9 := by
      unfold Tab.scriptOf
      rw [propL_res hg (by unfold ownR; omega)]
      unfold fixC
      repeat (first | rw [if_pos (by omega)] | rw [if_neg (by omega)])
    rw [hv]
    have p0 : decide ((97 : Int) ≤ c) = true := decide_eq_true (by omega)
    have p1 : decide (c ≤ (122 : Int)) = false := decide_eq_false (by omega)
    have p2 : decide ((65 : Int) ≤ c) = true := decide_eq_true (by omega)
    have p3 : decide (c ≤ (90 : Int)) = false := decide_eq_false (by omega)
    have p4 : decide ((0 : Int) ≤ c) = true := decide_eq_true (by omega)
    have p5 : decide (c ≤ (127 : Int)) = false := decide_eq_false (by omega)
    have hs : sylB c = false := syl_no (by omega)
    have hj : jamoB c = true := (jamoB_iff c).2 (by omega)
    rw [hs] at HS
    rw [hj] at HJ
    clear hs hj hc hv hg
    go_enter Tryd.func69, Tryd.ntmps69
    go_wp2_with (first | (go_at_call 50; refine (HS.out _).mono ?_; rintro e w1 ⟨rfl, rfl⟩) | (go_at_call 117; refine (HJ.out _).mono ?_; rintro e w1 ⟨rfl, rfl⟩) | (go_at_call 119; refine (HR.out _).mono ?_; rintro e w1 ⟨rfl, b1⟩))
    go_ret
    exact ⟨rfl, (Below.refl _ _).alloc (Nat.le_refl _) _⟩
  · have hv : T.scriptOf c = valueL T.script c := propL_free hg (by unfold ownR; omega)
    rw [hv]
    have p0 : decide ((97 : Int) ≤ c) = true := decide_eq_true (by omega)
    have p1 : decide (c ≤ (122 : Int)) = false := decide_eq_false (by omega)
    have p2 : decide ((65 : Int) ≤ c) = true := decide_eq_true (by omega)
    have p3 : decide (c ≤ (90 : Int)) = false := decide_eq_false (by omega)
    have p4 : decide ((0 : Int) ≤ c) = true := decide_eq_true (by omega)
    have p5 : decide (c ≤ (127 : Int)) = false := decide_eq_false (by omega)
    have hs : sylB c = false := syl_no (by omega)
    have hj : jamoB c = false := jamo_no (by omega)
    rw [hs] at HS
    rw [hj] at HJ
    clear hs hj hc hv hg
    go_enter Tryd.func69, Tryd.ntmps69
    go_wp2_with (first | (go_at_call 50; refine (HS.out _).mono ?_; rintro e w1 ⟨rfl, rfl⟩) | (go_at_call 117; refine (HJ.out _).mono ?_; rintro e w1 ⟨rfl, rfl⟩) | (go_at_call 119; refine (HR.out _).mono ?_; rintro e w1 ⟨rfl, b1⟩))
    go_ret
    exact ⟨rfl, below_next ((Below.refl _ _).alloc (Nat.le_refl _) _) b1⟩

set_option maxRecDepth 100000 in
set_option maxHeartbeats 400000 in
theorem refJoining_any (t : Tv) (T : Tab) (c : Int) (w : World) (ht : TabR w w.heap.size t T) :
    Calls Tryd.prog 67 #[t.val, .int .i64 c] w fun e w' => e = .returned (.int .i64 (T.joiningOf c)) ∧ Below w.heap.size w w' := by
  have HR := Lib.hid (fun o : Obj => ht.r2.later ((Below.refl _ _).alloc (Nat.le_refl _) o))
  clear ht
  go_enter Tryd.func67, Tryd.ntmps67
  go_wp2_with fail
  refine (refValue_any t.c2 T.joining c _ (HR.out _)).mono ?_
  rintro e w1 ⟨rfl, b1⟩
  go_wp2_with fail
  go_ret
  exact ⟨rfl, below_next ((Below.refl _ _).alloc (Nat.le_refl _) _) b1⟩


set_option maxRecDepth 100000 in
set_option maxHeartbeats 400000 in
theorem refScripts_any (t : Tv) (T : Tab) (c : Int) (w : World) (ht : TabR w w.heap.size t T) :
    Calls Tryd.prog 74 #[t.val, .int .i64 c] w (RetInts w (findL T.extensions c)) := by
  have HR := Lib.hid (fun o : Obj => ht.r7.later ((Below.refl _ _).alloc (Nat.le_refl _) o))
  clear ht
  go_enter Tryd.func74, Tryd.ntmps74
  go_wp2_with fail
  refine (refFind_any t.c7 T.extensions c _ (HR.out _)).mono ?_
  rintro e w1 ⟨v, rfl, hv, b1⟩
  go_wp2_with fail
  go_ret
  exact ⟨v, rfl, hv, below_next ((Below.refl _ _).alloc (Nat.le_refl _) _) b1⟩


set_option maxRecDepth 100000 in
set_option maxHeartbeats 400000 in
theorem refDecomp_any (t : Tv) (T : Tab) (c : Int) (w : World) (ht : TabR w w.heap.size t T) :
    Calls Tryd.prog 76 #[t.val, .int .i64 c] w (RetInts w (findL T.decomps c)) := by
  have HR := Lib.hid (fun o : Obj => ht.r9.later ((Below.refl _ _).alloc (Nat.le_refl _) o))
  clear ht
  go_enter Tryd.func76, Tryd.ntmps76
  go_wp2_with fail
  refine (refFind_any t.c9 T.decomps c _ (HR.out _)).mono ?_
  rintro e w1 ⟨v, rfl, hv, b1⟩
  go_wp2_with fail
  go_ret
  exact ⟨v, rfl, hv, below_next ((Below.refl _ _).alloc (Nat.le_refl _) _) b1⟩


set_option maxRecDepth 100000 in
set_option maxHeartbeats 400000 in
theorem refPrototype_any (t : Tv) (T : Tab) (c : Int) (w : World) (ht : TabR w w.heap.size t T) :
    Calls Tryd.prog 78 #[t.val, .int .i64 c] w (RetInts w (findL T.prototypes c)) := by
  have HR := Lib.hid (fun o : Obj => ht.r11.later ((Below.refl _ _).alloc (Nat.le_refl _) o))
  clear ht
  go_enter Tryd.func78, Tryd.ntmps78
  go_wp2_with fail
  refine (refFind_any t.c11 T.prototypes c _ (HR.out _)).mono ?_
  rintro e w1 ⟨v, rfl, hv, b1⟩
  go_wp2_with fail
  go_ret
  exact ⟨v, rfl, hv, below_next ((Below.refl _ _).alloc (Nat.le_refl _) _) b1⟩


set_option maxRecDepth 100000 in
set_option maxHeartbeats 1000000 in
theorem refMaps_any (t : Tv) (T : Tab) (c : Int) (w : World) (ht : TabR w w.heap.size t T) :
    Calls Tryd.prog 75 #[t.val, .int .i64 c] w (RetInts w (T.mapsOf c)) := by
  have HR := Lib.hid (fun o : Obj => ht.r8.later ((Below.refl _ _).alloc (Nat.le_refl _) o))
  clear ht
  rcases show c < 65 ∨ (65 ≤ c ∧ c ≤ 90) ∨ 90 < c by omega with hc | ⟨h1, h2⟩ | hc
  · have hm : T.mapsOf c = findL T.maps c := by unfold Tab.mapsOf; rw [if_neg (by omega)]
    rw [hm]
    clear hm
    go_enter Tryd.func75, Tryd.ntmps75
    go_wp2_with fail
    refine (refFind_any t.c8 T.maps c _ (HR.out _)).mono ?_
    rintro e w1 ⟨v, rfl, hv, b1⟩
    go_wp2_with fail
    go_ret
    exact ⟨v, rfl, hv, below_next ((Below.refl _ _).alloc (Nat.le_refl _) _) b1⟩
  · have hm : T.mapsOf c = [c + 32] := by unfold Tab.mapsOf; rw [if_pos (by omega)]
    rw [hm]
    clear hm
    go_enter Tryd.func75, Tryd.ntmps75
    go_wp2_with fail
    go_ret
    refine ⟨_, rfl, ?_, ((Below.refl _ _).alloc (Nat.le_refl _) _).alloc (by simp) _⟩
    have h := Ints.of_own (own_new (w.alloc (.cells t.cells 26)) 3 [c + 32] (by simp))
    simpa using h
  · have hm : T.mapsOf c = findL T.maps c := by unfold Tab.mapsOf; rw [if_neg (by omega)]
    rw [hm]
    clear hm
    have h0 : decide ((65 : Int) ≤ c) = true := decide_eq_true (by omega)
    go_enter Tryd.func75, Tryd.ntmps75
    go_wp2_with fail
    refine (refFind_any t.c8 T.maps c _ (HR.out _)).mono ?_
    rintro e w1 ⟨v, rfl, hv, b1⟩
    go_wp2_with fail
    go_ret
    exact ⟨v, rfl, hv, below_next ((Below.refl _ _).alloc (Nat.le_refl _) _) b1⟩
end Go.Proofs.YtkdhldhbjomiaaaDoor
/-
  A region that draws its order, walked by what holds of each slot: one obligation for each operation serves every order.
-/
namespace Go.Proofs.YtkdhldhbjomiaaaDoor
open Go.RowKit

/-- How many operations are still to come. -/
def unl (n : Nat) (listed : Array Bool) : Nat := (List.range n).countP fun i => !listed.getD i true
theorem countP_one {l : List Nat} {p q : Nat → Bool} {i : Nat} (hnd : l.Nodup) (hi : i ∈ l) (hp : p i = true) (hq : q i = false) (he : ∀ j, j ≠ i → q j = p j) : l.countP q + 1 = l.countP p := by
  induction l with
  | nil => cases hi
  | cons a r ih =>
    rw [List.nodup_cons] at hnd
    rw [List.countP_cons, List.countP_cons]
    by_cases h : a = i
    · subst h
      rw [hp, hq]
      have : r.countP q = r.countP p := List.countP_congr fun j hj => by
        have hne : j ≠ a := fun e => hnd.1 (e ▸ hj)
        rw [he j hne]
      simp [this]
    · have hi' : i ∈ r := by
        rcases List.mem_cons.1 hi with e | e
        · exact absurd e.symm h
        · exact e
      have := ih hnd.2 hi'
      rw [he a h]
      omega
theorem unl_set {n i : Nat} {listed : Array Bool} (hi : i < n) (hs : i < listed.size) (hu : listed.getD i true = false) : unl n (listed.setIfInBounds i true) + 1 = unl n listed := by
  unfold unl
  refine countP_one List.nodup_range (List.mem_range.2 hi) (by rw [hu]; rfl) ?_ fun j hj => ?_
  · simp [Array.getD_eq_getD_getElem?, hs]
  · simp [Array.getD_eq_getD_getElem?, Ne.symm hj]

/-- What holds in the midst of the region. -/
structure InvS (ops : Array Oper) (F : Act → Prop) (C : World → Prop) (R : Nat → Value → World → Prop) (listed : Array Bool) (a : Act) (w : World) : Prop where
  size : listed.size = ops.size
  c : C w
  f : F a
  r : ∀ (i : Nat) (o : Oper) (d : Tmp), ops[i]? = some o → listed.getD i false = true → o.dst = some d → ∃ v, a.tmps[d]? = some v ∧ R i v w

/-- What an operation may lean on. -/
def Deps (md : Region.Mode) (ops : Array Oper) (R : Nat → Value → World → Prop) (o : Oper) (a : Act) (w : World) : Prop :=
  ∀ e ∈ o.after, Region.binds md e = true → ∀ (oe : Oper) (d : Tmp), ops[e.on]? = some oe → oe.dst = some d → ∃ v, a.tmps[d]? = some v ∧ R e.on v w

theorem ready_spec {md : Region.Mode} {ops : Array Oper} {listed : Array Bool} {i : Nat} (h : i ∈ Region.ready md ops listed) : i < ops.size ∧ listed.getD i true = false ∧ ∃ o, ops[i]? = some o ∧ ∀ e ∈ o.after, Region.binds md e = true → listed.getD e.on false = true := by
  unfold Region.ready at h
  obtain ⟨h1, h2⟩ := List.mem_filter.1 h
  have h1 := List.mem_range.1 h1
  rw [Bool.and_eq_true] at h2
  refine ⟨h1, by simpa using h2.1, ops[i], Array.getElem?_eq_getElem h1, fun e he hb => ?_⟩
  have h3 := h2.2
  rw [Array.getElem?_eq_getElem h1] at h3
  simp only [Option.map_some, Option.getD_some, Array.all_eq_true'] at h3
  have h4 := h3 e he
  rw [hb] at h4
  simpa using h4

/-- All operations are listed, if none may come up. -/
theorem ready_nil {md : Region.Mode} {ops : Array Oper} {listed : Array Bool} (hs : listed.size = ops.size) (hlow : ∀ (i : Nat) (o : Oper), ops[i]? = some o → ∀ e ∈ o.after, Region.binds md e = true → e.on < i) (h : Region.ready md ops listed = []) : ∀ i, i < ops.size → listed.getD i false = true := by
  intro i
  induction i using Nat.strongRecOn with
  | ind i ih =>
    intro hi
    cases hl : listed.getD i false with
    | true => rfl
    | false =>
      have hm : i ∈ Region.ready md ops listed := by
        unfold Region.ready
        refine List.mem_filter.2 ⟨List.mem_range.2 hi, ?_⟩
        rw [Bool.and_eq_true]
        refine ⟨?_, ?_⟩
        · have : listed.getD i true = false := by
            rw [Array.getD_eq_getD_getElem?, Array.getElem?_eq_getElem (by omega)] at hl ⊢
            simpa using hl
          rw [this]; rfl
        · rw [Array.getElem?_eq_getElem hi]
          simp only [Option.map_some, Option.getD_some, Array.all_eq_true']
          intro e he
          cases hb : Region.binds md e with
          | false => rfl
          | true =>
            have := hlow i _ (Array.getElem?_eq_getElem hi) e he hb
            simp [ih e.on this (by omega)]
      rw [h] at hm; cases hm

theorem wpAny_inv {P : Program} {md : Region.Mode} {ops : Array Oper} {Q : Exit → Act → World → Prop} {F : Act → Prop} {C : World → Prop} {R : Nat → Value → World → Prop}
    (hlow : ∀ (i : Nat) (o : Oper), ops[i]? = some o → ∀ e ∈ o.after, Region.binds md e = true → e.on < i)
    (hdst : ∀ (i j : Nat) (o o' : Oper) (d : Tmp), ops[i]? = some o → ops[j]? = some o' → i ≠ j → o.dst = some d → o'.dst ≠ some d)
    (hF : ∀ (i : Nat) (o : Oper) (a : Act) (v : Value), ops[i]? = some o → F a → F (a.put o.dst v))
    (hput : ∀ (i : Nat) (o : Oper) (d : Tmp) (a : Act), ops[i]? = some o → o.dst = some d → F a → d < a.tmps.size)
    (hst : ∀ i v w w', R i v w → Below w.heap.size w w' → R i v w')
    (hob : ∀ (i : Nat) (o : Oper), ops[i]? = some o → ∀ a w, C w → F a → Deps md ops R o a w → ∀ K : Act → World → Prop, (∀ v w', (∀ d, o.dst = some d → R i v w') → C w' → Below w.heap.size w w' → K (a.put o.dst v) w') →
      if Region.wanted o (yielded ops a.tmps) = true then o.wp P a w K Q else K (a.put o.dst undef) w)
    (hend : ∀ a w, C w → F a → (∀ (i : Nat) (o : Oper) (d : Tmp), ops[i]? = some o → o.dst = some d → ∃ v, a.tmps[d]? = some v ∧ R i v w) → Q .normal a w) :
    ∀ (fuel : Nat) (listed : Array Bool) (a : Act) (w : World), InvS ops F C R listed a w → unl ops.size listed ≤ fuel → wpAny P md ops Q fuel listed a w := by
  have fin : ∀ listed a w, InvS ops F C R listed a w → Region.ready md ops listed = [] → Q .normal a w := fun listed a w h hr =>
    hend a w h.c h.f fun i o d ho hd => h.r i o d ho (ready_nil h.size hlow hr i (Array.getElem?_eq_some_iff.1 ho).1) hd
  intro fuel
  induction fuel with
  | zero =>
    intro listed a w h hu
    have hr : Region.ready md ops listed = [] := by
      refine List.eq_nil_iff_forall_not_mem.2 fun i hi => ?_
      obtain ⟨h1, h2, _⟩ := ready_spec hi
      have := unl_set h1 (by rw [h.size]; exact h1) h2
      omega
    exact ⟨hr, fin _ _ _ h hr⟩
  | succ fuel ih =>
    intro listed a w h hu
    refine ⟨fin _ _ _ h, fun i hi => ?_⟩
    obtain ⟨h1, h2, o, ho, hdep⟩ := ready_spec hi
    have hsz := unl_set h1 (by rw [h.size]; exact h1) h2
    have hd : Deps md ops R o a w := fun e he hb oe d hoe hd => h.r e.on oe d hoe (hdep e he hb) hd
    have key : ∀ v w', (∀ d, o.dst = some d → R i v w') → C w' → Below w.heap.size w w' → wpAny P md ops Q fuel (listed.setIfInBounds i true) (a.put o.dst v) w' := fun v w' hv hc hb => by
      refine ih _ _ _ ⟨by simpa using h.size, hc, hF i o a v ho h.f, fun j oj d hj hlj hdj => ?_⟩ (by omega)
      by_cases hji : j = i
      · subst hji
        rw [ho] at hj; cases hj
        refine ⟨v, ?_, hv d hdj⟩
        rw [hdj]
        simp [Act.put, hput j o d a ho hdj h.f]
      · have hlj' : listed.getD j false = true := by
          rw [Array.getD_eq_getD_getElem?, Array.getElem?_setIfInBounds, if_neg (Ne.symm hji)] at hlj
          rw [Array.getD_eq_getD_getElem?]; exact hlj
        obtain ⟨u, hu1, hu2⟩ := h.r j oj d hj hlj' hdj
        refine ⟨u, ?_, hst j u w w' hu2 hb⟩
        cases hod : o.dst with
        | none => exact hu1
        | some d' =>
          have hne : d' ≠ d := fun e => hdst j i oj o d hj ho hji hdj (by rw [hod, e])
          simp [Act.put, hne, hu1]
    have h3 := hob i o ho a w h.c h.f hd (fun a' w' => wpAny P md ops Q fuel (listed.setIfInBounds i true) a' w') key
    unfold wpOp
    rw [ho]
    simp only
    split
    · rename_i hw; rw [if_pos hw] at h3; exact .inl h3
    · rename_i hw; rw [if_neg hw] at h3; exact h3
end Go.Proofs.YtkdhldhbjomiaaaDoor
/-
  A variable that holds tables.
-/
namespace Go.Proofs.YtkdhldhbjomiaaaDoor
open Go.RowKit ND

/-- A variable that holds tables. -/
def Tbl (W : World) (b : Nat) (t : Tv) (T : Tab) : Prop := Blk W b 26 #[t.c0, t.c1, t.c2, t.c3, t.c4, t.c5, t.c6, t.c7, t.c8, t.c9, t.c10, t.c11] ∧ TabR W W.heap.size t T
theorem Tbl.later {W W' : World} {b : Nat} {t : Tv} {T : Tab} (h : Tbl W b t T) (hb : Below W.heap.size W W') : Tbl W' b t T := ⟨h.1.later hb, h.2.later hb⟩
/-- Tables are laid into a variable. -/
theorem Tbl.new {w1 : World} {T : Tab} {A0 A1 A2 A3 A4 A5 A6 A7 A8 A9 A10 A11 : Option Addr} {k0 k1 k2 k3 k4 k5 k6 k7 k8 k9 k10 k11 : Nat} (h : TabR w1 w1.heap.size ⟨.slice A0 T.category.length k0, .slice A1 T.cls.length k1, .slice A2 T.joining.length k2, .slice A3 T.bidi.length k3, .slice A4 T.script.length k4, .slice A5 T.status.length k5, .slice A6 T.ignorable.length k6, .slice A7 T.extensions.length k7, .slice A8 T.maps.length k8, .slice A9 T.decomps.length k9, .slice A10 T.excluded.length k10, .slice A11 T.prototypes.length k11⟩ T) :
    ∃ t : Tv, t = ⟨.slice A0 T.category.length k0, .slice A1 T.cls.length k1, .slice A2 T.joining.length k2, .slice A3 T.bidi.length k3, .slice A4 T.script.length k4, .slice A5 T.status.length k5, .slice A6 T.ignorable.length k6, .slice A7 T.extensions.length k7, .slice A8 T.maps.length k8, .slice A9 T.decomps.length k9, .slice A10 T.excluded.length k10, .slice A11 T.prototypes.length k11⟩ ∧ Tbl (w1.alloc (.cells #[.slice A0 T.category.length k0, .slice A1 T.cls.length k1, .slice A2 T.joining.length k2, .slice A3 T.bidi.length k3, .slice A4 T.script.length k4, .slice A5 T.status.length k5, .slice A6 T.ignorable.length k6, .slice A7 T.extensions.length k7, .slice A8 T.maps.length k8, .slice A9 T.decomps.length k9, .slice A10 T.excluded.length k10, .slice A11 T.prototypes.length k11] 26)) w1.heap.size t T :=
  ⟨_, rfl, Blk.new _ _ _, h.later ((Below.refl _ _).alloc (Nat.le_refl _) _)⟩
end Go.Proofs.YtkdhldhbjomiaaaDoor
/-
  The obligations of single operations: moves, loads of tables, calls, comparisons, picks.
-/
namespace Go.Proofs.YtkdhldhbjomiaaaDoor
open Go.RowKit ND

section
variable {P : Program} {o : Oper} {a : Act} {w : World} {K : Act → World → Prop} {Q : Exit → Act → World → Prop}
theorem ob_move {x : Operand} {v : Value} (ho : o.op = .move x) (hv : a.eval x = v) (h : K (a.put o.dst v) w) : o.wp P a w K Q := by
  unfold Oper.wp execOp
  rw [ho]
  simp only [hv]
  exact h
theorem ob_assign {x : Operand} {v : Value} (ho : o.op = .assign x) (hv : a.eval x = v) (h : K (a.put o.dst v) w) : o.wp P a w K Q := by
  unfold Oper.wp execOp
  rw [ho]
  simp only [hv]
  exact h
theorem ob_pick {c x y : Operand} {b : Bool} {v : Value} (ho : o.op = .pick c x y) (hc : a.eval c = .bool b) (hx : a.eval (if b then x else y) = v) (h : K (a.put o.dst v) w) : o.wp P a w K Q := by
  unfold Oper.wp execOp
  rw [ho]
  subst hx
  cases b <;> simpa [hc, asBool, Oper.upon] using h
theorem ob_not {t : TypeId} {x : Operand} {b : Bool} (ho : o.op = .unOp .not t x) (hx : a.eval x = .bool b) (h : K (a.put o.dst (.bool (!b))) w) : o.wp P a w K Q := by
  unfold Oper.wp execOp
  rw [ho]
  simpa [hx, Op.unary, Oper.upon] using h
theorem ob_enter {f : FuncId} {vs : Array Value} {post : Ending → World → Prop} (hr : (execOp a.eval o).run P w = .ok (.enter f vs) w) (hc : Calls P f vs w post) (h : ∀ e w', post e w' → ∃ v, e = .returned v ∧ K (a.put o.dst v) w') : o.wp P a w K Q := by
  unfold Oper.wp
  rw [hr]
  refine Calls.mono hc fun e w' hp => ?_
  obtain ⟨v, rfl, hk⟩ := h e w' hp
  exact hk
theorem ob_value {v : Value} (hr : (execOp a.eval o).run P w = .ok (.value v) w) (h : K (a.put o.dst v) w) : o.wp P a w K Q := by
  unfold Oper.wp
  rw [hr]
  exact h
theorem wanted_none (ops : Array Oper) (hg : o.guard = none) : Region.wanted o (yielded ops a.tmps) = true := by simp [Region.wanted, hg]
theorem wanted_some (ops : Array Oper) {g : Nat} {b : Bool} {og : Oper} {d : Tmp} (hg : o.guard = some (g, b)) (ho : ops[g]? = some og) (hd : og.dst = some d) (hv : a.tmps[d]? = some (.bool b)) : Region.wanted o (yielded ops a.tmps) = true := by
  simp [Region.wanted, hg, yielded, ho, hd, hv]
end
theorem eval_tmp {a : Act} {d : Tmp} {v : Value} (h : a.tmps[d]? = some v) : a.eval (.tmp d) = v := by
  simp [Act.eval, h]
/-- Tables out of a variable. -/
theorem load_tab {W : World} {b : Nat} {t : Tv} {T : Tab} (h : Tbl W b t T) {a : Act} {o : Oper} {x : Operand} (ho : o.op = .load 26 x) (hx : a.eval x = .pointer (some ⟨b, 0, none⟩)) : (execOp a.eval o).run Tryd.prog W = .ok (.value t.val) W := by
  obtain ⟨x0, x1, x2, x3, x4, x5, x6, x7, x8, x9, x10, x11⟩ := h.1.tab
  unfold execOp
  rw [ho]
  simp only [hx]
  go_simp
theorem eql_int {W : World} {a : Act} {o : Oper} {x y : Operand} {n m : Int} (ho : o.op = .binOp .eql 3 x y 3) (hx : a.eval x = .int .i64 n) (hy : a.eval y = .int .i64 m) : (execOp a.eval o).run Tryd.prog W = .ok (.value (.bool (n == m))) W := by
  unfold execOp
  rw [ho]
  simp only [hx, hy]
  go_simp
theorem eql_bool {W : World} {a : Act} {o : Oper} {x y : Operand} {n m : Bool} (ho : o.op = .binOp .eql 4 x y 4) (hx : a.eval x = .bool n) (hy : a.eval y = .bool m) : (execOp a.eval o).run Tryd.prog W = .ok (.value (.bool (n == m))) W := by
  unfold execOp
  rw [ho]
  simp only [hx, hy]
  go_simp
end Go.Proofs.YtkdhldhbjomiaaaDoor
/-
  A drawn region by what holds of each slot, as the programs' regions are given: checks by the kernel, the obligations one by one.
-/
namespace Go.Proofs.YtkdhldhbjomiaaaDoor
open Go.RowKit ND

/-- The operations of a region, read off a function's text. -/
def findR : Code → Nat → Option (Array Oper)
  | .region n ops _, k => if n = k then some ops else none
  | .seq a b, k => (findR a k).or (findR b k)
  | .cond _ a b, k => (findR a k).or (findR b k)
  | .block _ a, k => findR a k
  | .loop a, k => findR a k
  | .scope a, k => findR a k
  | _, _ => none
def opsAt (f : Func) (k : Nat) : Array Oper := (f.body.bind (findR · k)).getD #[]
theorem wp_region_as {P : Program} {id : Nat} {L ops : Array Oper} {b : Bool} {Q : Exit → Act → World → Prop} {a : Act} {w : World} (h : L = ops) (hw : (Code.region id ops b).wp P Q a w) : (Code.region id L b).wp P Q a w := by
  subst h; exact hw

/-- What is said of a slot: its value, or the list that it reads as. -/
inductive SpecV where
  | val (v : Value)
  | seq (l : List Int)
def SpecV.ok : SpecV → Value → World → Prop
  | .val u, v, _ => v = u
  | .seq l, v, w => Ints w w.heap.size .i64 v l
def RS (specs : List SpecV) (i : Nat) (v : Value) (w : World) : Prop := ∀ s, specs[i]? = some s → s.ok v w
theorem RS.later {specs : List SpecV} {i : Nat} {v : Value} {w w' : World} (h : RS specs i v w) (hb : Below w.heap.size w w') : RS specs i v w' := fun s hs => by
  have h1 := h s hs
  cases s with
  | val u => exact h1
  | seq l => exact Ints.later h1 hb

def FS (n : Nat) (ds : List Deferred) (fixed : List (Tmp × Value)) (a : Act) : Prop := a.tmps.size = n ∧ a.defers = ds ∧ ∀ p ∈ fixed, a.tmps[p.1]? = some p.2

def nodupB : List (Option Tmp) → Bool
  | [] => true
  | a :: r => r.all (fun b => a != b || a == none) && nodupB r
def lowB : Nat → List Oper → Bool
  | _, [] => true
  | k, o :: r => o.after.all (fun e => decide (e.on < k)) && lowB (k + 1) r
def checksB (ops : Array Oper) (n : Nat) (fx : List Tmp) : Bool :=
  lowB 0 ops.toList && nodupB (ops.toList.map (·.dst)) && ops.toList.all fun o => match o.dst with | some d => decide (d < n) && !fx.contains d | none => true

theorem nodupB_at : ∀ {l : List (Option Tmp)} {i j : Nat} {d : Tmp}, nodupB l = true → i < j → l[i]? = some (some d) → l[j]? ≠ some (some d) := by
  intro l
  induction l with
  | nil => intro i j d _ _ h; simp at h
  | cons a r ih =>
    intro i j d h hij hi hj
    rw [nodupB, Bool.and_eq_true, List.all_eq_true] at h
    obtain ⟨k, rfl⟩ : ∃ k, j = k + 1 := ⟨j - 1, by omega⟩
    rw [List.getElem?_cons_succ] at hj
    cases i with
    | zero =>
      simp only [List.getElem?_cons_zero, Option.some.injEq] at hi
      subst hi
      have := h.1 _ (List.mem_of_getElem? hj)
      simp at this
    | succ i =>
      rw [List.getElem?_cons_succ] at hi
      exact ih h.2 (by omega) hi hj
theorem lowB_at : ∀ {l : List Oper} {k i : Nat} {o : Oper}, lowB k l = true → l[i]? = some o → ∀ e ∈ o.after, e.on < k + i := by
  intro l
  induction l with
  | nil => intro k i o _ h; simp at h
  | cons a r ih =>
    intro k i o h hi e he
    rw [lowB, Bool.and_eq_true] at h
    cases i with
    | zero =>
      simp only [List.getElem?_cons_zero, Option.some.injEq] at hi
      subst hi
      have := Array.all_eq_true'.1 h.1 e he
      simpa using this
    | succ i =>
      rw [List.getElem?_cons_succ] at hi
      have := ih h.2 hi e he
      omega

/-- The obligation of one operation. -/
def Ob (P : Program) (ops : Array Oper) (n : Nat) (ds : List Deferred) (fixed : List (Tmp × Value)) (C : World → Prop) (specs : List SpecV) (Q : Exit → Act → World → Prop) (i : Nat) (o : Oper) : Prop :=
  ∀ a w, C w → FS n ds fixed a → Deps .any ops (RS specs) o a w → ∀ K : Act → World → Prop, (∀ v w', RS specs i v w' → C w' → Below w.heap.size w w' → K (a.put o.dst v) w') →
    if Region.wanted o (yielded ops a.tmps) = true then o.wp P a w K Q else K (a.put o.dst undef) w

theorem get_op {β : Type} (f : Oper → β) {ops : Array Oper} {k : Nat} {o : Oper} {x : β} (ho : ops[k]? = some o) (h : (ops[k]?).map f = some x) : f o = x := by
  rw [ho] at h; exact Option.some.inj h
theorem dep_of {ops : Array Oper} {specs : List SpecV} {k : Nat} {o : Oper} {a : Act} {w : World} (ho : ops[k]? = some o) (hd : Deps .any ops (RS specs) o a w) (j : Nat) (d : Tmp) (s : SpecV)
    (h1 : ((ops[k]?).map fun o => o.after.any fun e => Region.binds .any e && e.on == j) = some true) (h2 : ((ops[j]?).map (·.dst)) = some (some d)) (h3 : specs[j]? = some s) : ∃ v, a.tmps[d]? = some v ∧ s.ok v w := by
  have h4 := get_op (fun o => o.after.any fun e => Region.binds .any e && e.on == j) ho h1
  obtain ⟨e, he, hb⟩ := Array.any_eq_true'.1 h4
  rw [Bool.and_eq_true, beq_iff_eq] at hb
  cases hj : ops[j]? with
  | none => rw [hj] at h2; cases h2
  | some oj =>
    rw [hj] at h2
    obtain ⟨v, hv, hr⟩ := hd e he hb.1 oj d (by rw [hb.2, hj]) (by simpa using h2)
    exact ⟨v, hv, hr s (by rw [hb.2]; exact h3)⟩

theorem rs_of {specs : List SpecV} {k : Nat} {s0 : SpecV} {v : Value} {w : World} (h : specs[k]? = some s0) (hok : s0.ok v w) : RS specs k v w := fun s hs => by
  rw [h] at hs; cases hs; exact hok
theorem wanted_at {ops : Array Oper} {k g : Nat} {b : Bool} {o : Oper} {a : Act} {d : Tmp} {v : Value} (ho : ops[k]? = some o) (hg : ((ops[k]?).map (·.guard)) = some (some (g, b))) (h2 : ((ops[g]?).map (·.dst)) = some (some d)) (hv : a.tmps[d]? = some v) (he : v = .bool b) : Region.wanted o (yielded ops a.tmps) = true := by
  subst he
  cases hj : ops[g]? with
  | none => rw [hj] at h2; cases h2
  | some og =>
    rw [hj] at h2
    exact wanted_some ops (get_op (·.guard) ho hg) hj (by simpa using h2) hv
theorem enter2 {P : Program} {f : FuncId} {x y : Operand} {vx vy : Value} {tys : Array TypeId} {a : Act} {o : Oper} {w : World} (ho : o.op = .call { callee := .value (.func f), args := #[x, y], argTypes := tys }) (hx : a.eval x = vx) (hy : a.eval y = vy)
    (eg : ∀ args w, (callFunc f args).run P w = .ok (.enter f args) w) : (execOp a.eval o).run P w = .ok (.enter f #[vx, vy]) w := by
  unfold execOp
  rw [ho]
  have hf : a.eval (.func f) = .func (.func f) #[] #[] := rfl
  simp [resolve, invoke, Deferred.ofValue, hx, hy, hf, eg]

theorem end_at {ops : Array Oper} {specs : List SpecV} {a : Act} {w : World} (hr : ∀ (i : Nat) (o : Oper) (d : Tmp), ops[i]? = some o → o.dst = some d → ∃ v, a.tmps[d]? = some v ∧ RS specs i v w) (i : Nat) (d : Tmp) (s : SpecV)
    (h2 : ((ops[i]?).map (·.dst)) = some (some d)) (h3 : specs[i]? = some s) : ∃ v, a.tmps[d]? = some v ∧ s.ok v w := by
  cases hj : ops[i]? with
  | none => rw [hj] at h2; cases h2
  | some oj =>
    rw [hj] at h2
    obtain ⟨v, hv, h⟩ := hr i oj d hj (by simpa using h2)
    exact ⟨v, hv, h s h3⟩

theorem wp_region_spec {P : Program} {id n : Nat} {ops : Array Oper} {Q : Exit → Act → World → Prop} {a : Act} {w : World} {ds : List Deferred} {fixed : List (Tmp × Value)} {C : World → Prop} {specs : List SpecV} (hm : P.follows .mixedOrders = true)
    (hck : checksB ops n (fixed.map (·.1)) = true) (hf : FS n ds fixed a) (hc : C w.drew)
    (hob : ∀ (i : Nat) (o : Oper), ops[i]? = some o → Ob P ops n ds fixed C specs Q i o)
    (hend : ∀ a w, C w → FS n ds fixed a → (∀ (i : Nat) (o : Oper) (d : Tmp), ops[i]? = some o → o.dst = some d → ∃ v, a.tmps[d]? = some v ∧ RS specs i v w) → Q .normal a w) : (Code.region id ops true).wp P Q a w := by
  unfold checksB at hck
  rw [Bool.and_eq_true, Bool.and_eq_true, List.all_eq_true] at hck
  obtain ⟨⟨h1, h2⟩, h3⟩ := hck
  have hat : ∀ {i : Nat} {o : Oper}, ops[i]? = some o → ops.toList[i]? = some o := fun h => by simpa using h
  have hin : ∀ {i : Nat} {o : Oper} {d : Tmp}, ops[i]? = some o → o.dst = some d → d < n ∧ d ∉ fixed.map (·.1) := fun h hd => by
    have := h3 _ (List.mem_of_getElem? (hat h))
    rw [hd] at this
    simpa using this
  refine wp_region_any hm (wpAny_inv (F := FS n ds fixed) (C := C) (R := RS specs) ?_ ?_ ?_ ?_ (fun i v w w' h hb => h.later hb) ?_ hend _ _ _ _ ⟨by simp, hc, hf, fun i o d _ hl _ => ?_⟩ ?_)
  · intro i o ho e he _
    have := lowB_at h1 (hat ho) e he
    omega
  · intro i j o o' d hi hj hij hd hd'
    have hi' : (ops.toList.map (·.dst))[i]? = some (some d) := by rw [List.getElem?_map, hat hi]; simp [hd]
    have hj' : (ops.toList.map (·.dst))[j]? = some (some d) := by rw [List.getElem?_map, hat hj]; simp [hd']
    rcases Nat.lt_or_gt_of_ne hij with h | h
    · exact nodupB_at h2 h hi' hj'
    · exact nodupB_at h2 h hj' hi'
  · intro i o a v ho ⟨q1, q2, q3⟩
    cases hd : o.dst with
    | none => exact ⟨q1, q2, q3⟩
    | some d =>
      obtain ⟨_, hn⟩ := hin ho hd
      refine ⟨by simpa [Act.put] using q1, q2, fun p hp => ?_⟩
      have hne : d ≠ p.1 := fun e => hn (e ▸ List.mem_map_of_mem hp)
      simp [Act.put, hne, q3 p hp]
  · intro i o d a ho hd hf
    rw [hf.1]; exact (hin ho hd).1
  · intro i o ho a w hc hf hd K hK
    refine hob i o ho a w hc hf hd K fun v w' hr hc' hb => hK v w' (fun _ _ => hr) hc' hb
  · rw [Array.getD_eq_getD_getElem?, Array.getElem?_replicate] at hl
    split at hl <;> simp at hl
  · unfold unl
    exact Nat.le_trans List.countP_le_length (by simp)
end Go.Proofs.YtkdhldhbjomiaaaDoor
