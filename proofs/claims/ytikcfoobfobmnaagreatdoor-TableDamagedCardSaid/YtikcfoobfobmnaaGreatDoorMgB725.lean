/-
  Merged texts: lemmas and walks that the last text of this claim leans on.
-/
import Derived.Test.YtikcfoobfobmnaaGreatDoorMgB724
import Derived.Test.YtikcfoobfobmnaaGreatDoorMgB76
/-
  The walk through table.Check.
-/
namespace Go.Proofs.YtikcfoobfobmnaaGreatDoor
open Go.RowKit ND

def rulesL (T : Tab) : List Bool := [T.rule1, T.rule2, T.rule3, T.rule4, T.rule5, T.rule6, T.rule7, T.rule8, T.rule9]
theorem check_first {T : Tab} {k : Nat} (h : rulesL T = (List.replicate k true ++ false :: (rulesL T).drop (k + 1))) : T.check = (k : Int) + 1 := by
  have hk : k < 9 := by
    have := congrArg List.length h
    simp [rulesL] at this
    omega
  unfold Tab.check
  have h9 : k = 0 ∨ k = 1 ∨ k = 2 ∨ k = 3 ∨ k = 4 ∨ k = 5 ∨ k = 6 ∨ k = 7 ∨ k = 8 := by omega
  rcases h9 with rfl | rfl | rfl | rfl | rfl | rfl | rfl | rfl | rfl <;> simp [rulesL, List.replicate] at h <;> simp [h]
theorem check_all {T : Tab} (h : rulesL T = List.replicate 9 true) : T.check = 0 := by
  simp [rulesL, List.replicate] at h
  unfold Tab.check
  simp [h]
/-- The first k rules hold. -/
def HoldTo (T : Tab) (k : Nat) : Prop := (rulesL T).take k = List.replicate k true
theorem HoldTo.parts {T : Tab} {k : Nat} (h : HoldTo T k) (hk : k ≤ 9) : (1 ≤ k → T.rule1 = true) ∧ (2 ≤ k → T.rule2 = true) ∧ (3 ≤ k → T.rule3 = true) ∧ (4 ≤ k → T.rule4 = true) ∧ (5 ≤ k → T.rule5 = true) ∧ (6 ≤ k → T.rule6 = true) ∧ (7 ≤ k → T.rule7 = true) ∧ (8 ≤ k → T.rule8 = true) ∧ (9 ≤ k → T.rule9 = true) := by
  have key : ∀ i, i < k → (rulesL T)[i]? = some true := by
    intro i hi
    have h1 : ((rulesL T).take k)[i]? = some true := by rw [h]; simp [hi]
    rw [List.getElem?_take, if_pos hi] at h1
    exact h1
  exact ⟨fun h => Option.some.inj (key 0 (by omega)), fun h => Option.some.inj (key 1 (by omega)), fun h => Option.some.inj (key 2 (by omega)), fun h => Option.some.inj (key 3 (by omega)), fun h => Option.some.inj (key 4 (by omega)), fun h => Option.some.inj (key 5 (by omega)), fun h => Option.some.inj (key 6 (by omega)), fun h => Option.some.inj (key 7 (by omega)), fun h => Option.some.inj (key 8 (by omega))⟩
theorem HoldTo.zero (T : Tab) : HoldTo T 0 := rfl
theorem HoldTo.next {T : Tab} {k : Nat} (h : HoldTo T k) (hr : (rulesL T)[k]? = some true) : HoldTo T (k + 1) := by
  unfold HoldTo at h ⊢
  rw [take_snoc' hr, h, List.replicate_succ']
theorem HoldTo.fail {T : Tab} {k : Nat} (h : HoldTo T k) (hr : (rulesL T)[k]? = some false) : T.check = (k : Int) + 1 := by
  refine check_first ?_
  rw [← h, ← drop_of_get hr, List.take_append_drop]
theorem HoldTo.all {T : Tab} (h : HoldTo T 9) : T.check = 0 := check_all (by rw [← h]; rfl)

set_option maxRecDepth 100000 in
set_option maxHeartbeats 4000000 in
theorem check_table (t : Tv) (T : Tab) (w : World) (ht : TabR w w.heap.size t T) (hg : Glob w) :
    Calls Tryz.prog 29 #[t.val] w fun e w' => e = .returned (.int .i64 T.check) ∧ Below w.heap.size w w' := by
  obtain ⟨tc, htc⟩ : ∃ tc, tc = t.cells := ⟨_, rfl⟩
  have HT := Lib.hid (fun W (h : Below w.heap.size w W) => ht.later h)
  have HG := Lib.hid (fun W (h : Below w.heap.size w W) => hg.later h)
  have H0 := Lib.hid (fun W h => rows_any t T W h)
  have H1 := Lib.hid (fun W h h2 => shape_any t T W h h2)
  have H2 := Lib.hid (fun W h => values_any t T W h)
  have H3 := Lib.hid (fun W h => targets_any t T W h)
  have H4 := Lib.hid (fun (hs : Shape T) W h => mapped_any t T W h hs.c5)
  have H5 := Lib.hid (fun (hs : Shape T) (hz : Sized T) W h => decomposed_any t T W h (keysB_sort hs.kd) hz.nd hs.ld)
  have H6 := Lib.hid (fun (hs : Shape T) (hz : Sized T) W h => excluded_rule t T W h (keysB_sort hs.kd) hz.nd hs.ld hs.lenX)
  have H7 := Lib.hid (fun (hs : Shape T) (hz : Sized T) (he : Ends T) W h => unique_any t T hs hz.nd he W h)
  have H8 := Lib.hid (fun (hs : Shape T) (hz : Sized T) W h => prototyped_any t T hs hz W h)
  obtain ⟨A0, A1, A2, A3, A4, A5, A6, A7, A8, A9, A10, A11, k0, k1, k2, k3, k4, k5, k6, k7, k8, k9, k10, k11, rfl⟩ := ht.shape
  have HTC := Lib.hid htc
  clear ht htc hg
  obtain ⟨R, hR⟩ : ∃ R, R = T.check := ⟨_, rfl⟩
  rw [← hR]
  have HR := Lib.hid hR
  clear hR
  obtain ⟨fc, hfc⟩ : ∃ fc : Array Value, fc = #[.func (.func 55) #[] #[], .func (.func 56) #[] #[], .func (.func 57) #[] #[], .func (.func 58) #[] #[], .func (.func 59) #[] #[], .func (.func 60) #[] #[], .func (.func 61) #[] #[], .func (.func 62) #[] #[], .func (.func 63) #[] #[]] := ⟨_, rfl⟩
  have HFC := Lib.hid hfc
  clear hfc
  go_enter Tryz.func29, Tryz.ntmps29
  go_wp2_with fail
  go_loopw [7] (fun i wr => ∃ (k : Nat), k ≤ 9 ∧ i = .int .i64 k ∧ Hid (HoldTo T k) ∧ Below w.heap.size w wr ∧ Hid (Blk wr w.heap.size 29 tc) ∧ Hid (Blk wr (w.heap.size + 1) 81 fc)) (fun i _ => 9 - (intOf i).toNat)
  case atStart =>
    refine ⟨0, by omega, rfl, Lib.hid (HoldTo.zero T), ((Below.refl _ _).alloc (Nat.le_refl _) _).alloc (by simp) _, Lib.hid (by rw [HTC.out]; exact (Blk.new _ _ _).alloc _), Lib.hid ?_⟩
    have h := Blk.new (w.alloc (.cells tc 29)) 81 fc
    rw [show (w.alloc (.cells tc 29)).heap.size = w.heap.size + 1 by simp, HTC.out, HFC.out] at h
    rw [HFC.out]
    exact h
  case round =>
    obtain ⟨k, hk, rfl, HS, hbel, HB, HF⟩ := hrel
    by_cases hlt : k < 9
    · obtain ⟨x0, x1, x2, x3, x4, x5, x6, x7, x8, x9, x10, x11⟩ := (show Blk _ _ _ #[_, _, _, _, _, _, _, _, _, _, _, _] from by have h := HB.out; rw [HTC.out] at h; exact h).tab
      have hHT := HT.out _ hbel
      have HHT := Lib.hid hHT
      have HHG := Lib.hid (HG.out _ hbel)
      have hpp := HS.out.parts hk
      have HPP := Lib.hid hpp
      have HFB := Lib.hid (show Blk wr (w.heap.size + 1) 81 #[.func (.func 55) #[] #[], .func (.func 56) #[] #[], .func (.func 57) #[] #[], .func (.func 58) #[] #[], .func (.func 59) #[] #[], .func (.func 60) #[] #[], .func (.func 61) #[] #[], .func (.func 62) #[] #[], .func (.func 63) #[] #[]] from by rw [← HFC.out]; exact HF.out)
      clear hHT hpp
      have h9 : k = 0 ∨ k = 1 ∨ k = 2 ∨ k = 3 ∨ k = 4 ∨ k = 5 ∨ k = 6 ∨ k = 7 ∨ k = 8 := by omega
      rcases h9 with rfl | rfl | rfl | rfl | rfl | rfl | rfl | rfl | rfl
      · have HCA := Lib.hid (H0.out _ HHT.out)
        have f0 := HFB.out.at_ (i := 0) rfl
        cases hr : T.rule1
        · rw [hr] at HCA
          have HN := Lib.hid (HR.out.trans (HS.out.fail (by show some T.rule1 = some false; rw [hr])))
          clear hr
          go_wp2_with fail
          refine HCA.out.mono ?_
          rintro e w2 ⟨rfl, b2⟩
          clear x0 x1 x2 x3 x4 x5 x6 x7 x8 x9 x10 x11 f0
          go_wp2_with fail
          go_ret
          rw [HN.out]
          exact ⟨rfl, below_next hbel b2⟩
        · rw [hr] at HCA
          have HN := Lib.hid (HS.out.next (by show some T.rule1 = some true; rw [hr]))
          clear hr
          go_wp2_with fail
          refine HCA.out.mono ?_
          rintro e w2 ⟨rfl, b2⟩
          have HB2 := Lib.hid (HB.out.later b2)
          have HF2 := Lib.hid (HF.out.later b2)
          clear x0 x1 x2 x3 x4 x5 x6 x7 x8 x9 x10 x11 f0
          go_wp2_with fail
          go_roundw
          case rel => exact ⟨1, by omega, by rfl, HN, below_next hbel b2, HB2, HF2⟩
          case measure => simp [intOf]
      · have HCA := Lib.hid (H1.out _ HHT.out HHG.out)
        have f0 := HFB.out.at_ (i := 1) rfl
        cases hr : T.rule2
        · rw [hr] at HCA
          have HN := Lib.hid (HR.out.trans (HS.out.fail (by show some T.rule2 = some false; rw [hr])))
          clear hr
          go_wp2_with fail
          refine HCA.out.mono ?_
          rintro e w2 ⟨rfl, b2⟩
          clear x0 x1 x2 x3 x4 x5 x6 x7 x8 x9 x10 x11 f0
          go_wp2_with fail
          go_ret
          rw [HN.out]
          exact ⟨rfl, below_next hbel b2⟩
        · rw [hr] at HCA
          have HN := Lib.hid (HS.out.next (by show some T.rule2 = some true; rw [hr]))
          clear hr
          go_wp2_with fail
          refine HCA.out.mono ?_
          rintro e w2 ⟨rfl, b2⟩
          have HB2 := Lib.hid (HB.out.later b2)
          have HF2 := Lib.hid (HF.out.later b2)
          clear x0 x1 x2 x3 x4 x5 x6 x7 x8 x9 x10 x11 f0
          go_wp2_with fail
          go_roundw
          case rel => exact ⟨2, by omega, by rfl, HN, below_next hbel b2, HB2, HF2⟩
          case measure => simp [intOf]
      · have HCA := Lib.hid (H2.out _ HHT.out)
        have f0 := HFB.out.at_ (i := 2) rfl
        cases hr : T.rule3
        · rw [hr] at HCA
          have HN := Lib.hid (HR.out.trans (HS.out.fail (by show some T.rule3 = some false; rw [hr])))
          clear hr
          go_wp2_with fail
          refine HCA.out.mono ?_
          rintro e w2 ⟨rfl, b2⟩
          clear x0 x1 x2 x3 x4 x5 x6 x7 x8 x9 x10 x11 f0
          go_wp2_with fail
          go_ret
          rw [HN.out]
          exact ⟨rfl, below_next hbel b2⟩
        · rw [hr] at HCA
          have HN := Lib.hid (HS.out.next (by show some T.rule3 = some true; rw [hr]))
          clear hr
          go_wp2_with fail
          refine HCA.out.mono ?_
          rintro e w2 ⟨rfl, b2⟩
          have HB2 := Lib.hid (HB.out.later b2)
          have HF2 := Lib.hid (HF.out.later b2)
          clear x0 x1 x2 x3 x4 x5 x6 x7 x8 x9 x10 x11 f0
          go_wp2_with fail
          go_roundw
          case rel => exact ⟨3, by omega, by rfl, HN, below_next hbel b2, HB2, HF2⟩
          case measure => simp [intOf]
      · have HCA := Lib.hid (H3.out _ HHT.out)
        have f0 := HFB.out.at_ (i := 3) rfl
        cases hr : T.rule4
        · rw [hr] at HCA
          have HN := Lib.hid (HR.out.trans (HS.out.fail (by show some T.rule4 = some false; rw [hr])))
          clear hr
          go_wp2_with fail
          refine HCA.out.mono ?_
          rintro e w2 ⟨rfl, b2⟩
          clear x0 x1 x2 x3 x4 x5 x6 x7 x8 x9 x10 x11 f0
          go_wp2_with fail
          go_ret
          rw [HN.out]
          exact ⟨rfl, below_next hbel b2⟩
        · rw [hr] at HCA
          have HN := Lib.hid (HS.out.next (by show some T.rule4 = some true; rw [hr]))
          clear hr
          go_wp2_with fail
          refine HCA.out.mono ?_
          rintro e w2 ⟨rfl, b2⟩
          have HB2 := Lib.hid (HB.out.later b2)
          have HF2 := Lib.hid (HF.out.later b2)
          clear x0 x1 x2 x3 x4 x5 x6 x7 x8 x9 x10 x11 f0
          go_wp2_with fail
          go_roundw
          case rel => exact ⟨4, by omega, by rfl, HN, below_next hbel b2, HB2, HF2⟩
          case measure => simp [intOf]
      · have HCA := Lib.hid (H4.out (Shape.of (HPP.out.1 (by omega)) (HPP.out.2.1 (by omega))) _ HHT.out)
        have f0 := HFB.out.at_ (i := 4) rfl
        cases hr : T.rule5
        · rw [hr] at HCA
          have HN := Lib.hid (HR.out.trans (HS.out.fail (by show some T.rule5 = some false; rw [hr])))
          clear hr
          go_wp2_with fail
          refine HCA.out.mono ?_
          rintro e w2 ⟨rfl, b2⟩
          clear x0 x1 x2 x3 x4 x5 x6 x7 x8 x9 x10 x11 f0
          go_wp2_with fail
          go_ret
          rw [HN.out]
          exact ⟨rfl, below_next hbel b2⟩
        · rw [hr] at HCA
          have HN := Lib.hid (HS.out.next (by show some T.rule5 = some true; rw [hr]))
          clear hr
          go_wp2_with fail
          refine HCA.out.mono ?_
          rintro e w2 ⟨rfl, b2⟩
          have HB2 := Lib.hid (HB.out.later b2)
          have HF2 := Lib.hid (HF.out.later b2)
          clear x0 x1 x2 x3 x4 x5 x6 x7 x8 x9 x10 x11 f0
          go_wp2_with fail
          go_roundw
          case rel => exact ⟨5, by omega, by rfl, HN, below_next hbel b2, HB2, HF2⟩
          case measure => simp [intOf]
      · have HCA := Lib.hid (H5.out (Shape.of (HPP.out.1 (by omega)) (HPP.out.2.1 (by omega))) (Sized.of (HPP.out.2.2.2.1 (by omega))) _ HHT.out)
        have f0 := HFB.out.at_ (i := 5) rfl
        cases hr : T.rule6
        · rw [hr] at HCA
          have HN := Lib.hid (HR.out.trans (HS.out.fail (by show some T.rule6 = some false; rw [hr])))
          clear hr
          go_wp2_with fail
          refine HCA.out.mono ?_
          rintro e w2 ⟨rfl, b2⟩
          clear x0 x1 x2 x3 x4 x5 x6 x7 x8 x9 x10 x11 f0
          go_wp2_with fail
          go_ret
          rw [HN.out]
          exact ⟨rfl, below_next hbel b2⟩
        · rw [hr] at HCA
          have HN := Lib.hid (HS.out.next (by show some T.rule6 = some true; rw [hr]))
          clear hr
          go_wp2_with fail
          refine HCA.out.mono ?_
          rintro e w2 ⟨rfl, b2⟩
          have HB2 := Lib.hid (HB.out.later b2)
          have HF2 := Lib.hid (HF.out.later b2)
          clear x0 x1 x2 x3 x4 x5 x6 x7 x8 x9 x10 x11 f0
          go_wp2_with fail
          go_roundw
          case rel => exact ⟨6, by omega, by rfl, HN, below_next hbel b2, HB2, HF2⟩
          case measure => simp [intOf]
      · have HCA := Lib.hid (H6.out (Shape.of (HPP.out.1 (by omega)) (HPP.out.2.1 (by omega))) (Sized.of (HPP.out.2.2.2.1 (by omega))) _ HHT.out)
        have f0 := HFB.out.at_ (i := 6) rfl
        cases hr : T.rule7
        · rw [hr] at HCA
          have HN := Lib.hid (HR.out.trans (HS.out.fail (by show some T.rule7 = some false; rw [hr])))
          clear hr
          go_wp2_with fail
          refine HCA.out.mono ?_
          rintro e w2 ⟨rfl, b2⟩
          clear x0 x1 x2 x3 x4 x5 x6 x7 x8 x9 x10 x11 f0
          go_wp2_with fail
          go_ret
          rw [HN.out]
          exact ⟨rfl, below_next hbel b2⟩
        · rw [hr] at HCA
          have HN := Lib.hid (HS.out.next (by show some T.rule7 = some true; rw [hr]))
          clear hr
          go_wp2_with fail
          refine HCA.out.mono ?_
          rintro e w2 ⟨rfl, b2⟩
          have HB2 := Lib.hid (HB.out.later b2)
          have HF2 := Lib.hid (HF.out.later b2)
          clear x0 x1 x2 x3 x4 x5 x6 x7 x8 x9 x10 x11 f0
          go_wp2_with fail
          go_roundw
          case rel => exact ⟨7, by omega, by rfl, HN, below_next hbel b2, HB2, HF2⟩
          case measure => simp [intOf]
      · have HCA := Lib.hid (H7.out (Shape.of (HPP.out.1 (by omega)) (HPP.out.2.1 (by omega))) (Sized.of (HPP.out.2.2.2.1 (by omega))) (Ends.of (Shape.of (HPP.out.1 (by omega)) (HPP.out.2.1 (by omega))).ld (HPP.out.2.2.2.2.2.1 (by omega))) _ HHT.out)
        have f0 := HFB.out.at_ (i := 7) rfl
        cases hr : T.rule8
        · rw [hr] at HCA
          have HN := Lib.hid (HR.out.trans (HS.out.fail (by show some T.rule8 = some false; rw [hr])))
          clear hr
          go_wp2_with fail
          refine HCA.out.mono ?_
          rintro e w2 ⟨rfl, b2⟩
          clear x0 x1 x2 x3 x4 x5 x6 x7 x8 x9 x10 x11 f0
          go_wp2_with fail
          go_ret
          rw [HN.out]
          exact ⟨rfl, below_next hbel b2⟩
        · rw [hr] at HCA
          have HN := Lib.hid (HS.out.next (by show some T.rule8 = some true; rw [hr]))
          clear hr
          go_wp2_with fail
          refine HCA.out.mono ?_
          rintro e w2 ⟨rfl, b2⟩
          have HB2 := Lib.hid (HB.out.later b2)
          have HF2 := Lib.hid (HF.out.later b2)
          clear x0 x1 x2 x3 x4 x5 x6 x7 x8 x9 x10 x11 f0
          go_wp2_with fail
          go_roundw
          case rel => exact ⟨8, by omega, by rfl, HN, below_next hbel b2, HB2, HF2⟩
          case measure => simp [intOf]
      · have HCA := Lib.hid (H8.out (Shape.of (HPP.out.1 (by omega)) (HPP.out.2.1 (by omega))) (Sized.of (HPP.out.2.2.2.1 (by omega))) _ HHT.out)
        have f0 := HFB.out.at_ (i := 8) rfl
        cases hr : T.rule9
        · rw [hr] at HCA
          have HN := Lib.hid (HR.out.trans (HS.out.fail (by show some T.rule9 = some false; rw [hr])))
          clear hr
          go_wp2_with fail
          refine HCA.out.mono ?_
          rintro e w2 ⟨rfl, b2⟩
          clear x0 x1 x2 x3 x4 x5 x6 x7 x8 x9 x10 x11 f0
          go_wp2_with fail
          go_ret
          rw [HN.out]
          exact ⟨rfl, below_next hbel b2⟩
        · rw [hr] at HCA
          have HN := Lib.hid (HS.out.next (by show some T.rule9 = some true; rw [hr]))
          clear hr
          go_wp2_with fail
          refine HCA.out.mono ?_
          rintro e w2 ⟨rfl, b2⟩
          have HB2 := Lib.hid (HB.out.later b2)
          have HF2 := Lib.hid (HF.out.later b2)
          clear x0 x1 x2 x3 x4 x5 x6 x7 x8 x9 x10 x11 f0
          go_wp2_with fail
          go_roundw
          case rel => exact ⟨9, by omega, by rfl, HN, below_next hbel b2, HB2, HF2⟩
          case measure => simp [intOf]
    · obtain rfl : k = 9 := by omega
      have HN := Lib.hid (HR.out.trans HS.out.all)
      go_wp2_with fail
      go_ret
      rw [HN.out]
      exact ⟨rfl, hbel⟩
end Go.Proofs.YtikcfoobfobmnaaGreatDoor
/-
  The walk through the reference's small: rule 1.
-/
namespace Go.Proofs.YtikcfoobfobmnaaGreatDoor
open Go.RowKit ND

set_option maxRecDepth 100000 in
set_option maxHeartbeats 1000000 in
theorem small_any (t : Tv) (T : Tab) (w : World) (ht : TabR w w.heap.size t T) :
    Calls Tryz.prog 43 #[t.val] w fun e w' => e = .returned (.bool T.rule1) ∧ Below w.heap.size w w' := by
  obtain ⟨A0, A1, A2, A3, A4, A5, A6, A7, A8, A9, A10, A11, k0, k1, k2, k3, k4, k5, k6, k7, k8, k9, k10, k11, rfl⟩ := ht.shape
  have HR := Lib.hid (fun o : Obj => ht.later ((Below.refl _ _).alloc (Nat.le_refl _) o))
  clear ht
  obtain ⟨R, hR⟩ : ∃ R, R = T.rule1 := ⟨_, rfl⟩
  rw [← hR]
  obtain ⟨R1, hR1⟩ : ∃ R1, R1 = T.cols.all lenC_ := ⟨_, rfl⟩
  obtain ⟨R2, hR2⟩ : ∃ R2, R2 = T.mps.all lenM_ := ⟨_, rfl⟩
  have HR1 : Hid ((T.cols.drop 0).all lenC_ = R1) := Lib.hid hR1.symm
  have HR2 : Hid ((T.mps.drop 0).all lenM_ = R2) := Lib.hid hR2.symm
  have HRR : Hid (R = (decide ((T.excluded.length : Int) ≤ 256) && (R1 && R2))) := Lib.hid (by rw [hR, hR1, hR2, rule1_cast])
  clear hR hR1 hR2
  go_enter Tryz.func43, Tryz.ntmps43
  go_wp2_with fail
  refine (refSpans_any _ T _ (HR.out _)).mono ?_
  rintro e w1 ⟨ad, as_, rfl, hc, _, b1⟩
  have HC := Lib.hid hc.2
  have HB := Lib.hid ((Blk.new w 29 _).later b1)
  have HT := Lib.hid ((HR.out _).later b1)
  have hbel1 := below_next ((Below.refl _ _).alloc (Nat.le_refl _) _) b1
  clear hc b1 HR
  go_wp2_with fail
  go_loop [17] (fun i => ∃ (k : Nat), k ≤ 7 ∧ i = .int .i64 k ∧ Hid ((T.cols.drop k).all lenC_ = R1)) (fun i => 7 - (intOf i).toNat)
  case atStart => exact ⟨0, by omega, rfl, HR1⟩
  case round =>
    obtain ⟨k, hk, rfl, HS⟩ := hrel
    clear HR1
    by_cases hlt : k < 7
    · obtain ⟨⟨l, lo, hi⟩, hxk, _⟩ := get_el (xs := T.cols) (k := k) hlt
      obtain ⟨v, d0, A, c, rfl, _⟩ := HC.out k _ hxk
      have HX := Lib.hid hxk
      simp only at d0
      clear hxk
      have k0 : (0 : Int) ≤ (k : Int) := by omega
      have k1 : (k : Int) < (7 : Int) := by omega
      by_cases hl : (l.length : Int) ≤ 256
      · have HN := Lib.hid (each_go HX.out HS.out (decide_eq_true hl))
        go_wp2_with fail
        go_round
        case rel => exact ⟨k + 1, by omega, by go_num, HN⟩
        case measure => simp [intOf]; omega
      · have HN := Lib.hid (each_no HX.out HS.out (decide_eq_false hl))
        have hl' : 256 < (l.length : Int) := by omega
        clear hl
        go_wp2_with fail
        go_ret
        rw [HRR.out, HN.out]
        exact ⟨by simp, hbel1⟩
    · have HN := Lib.hid (each_end (by show 7 ≤ k; omega) HS.out)
      obtain ⟨x0, x1, x2, x3, x4, x5, x6, x7, x8, x9, x10, x11⟩ := HB.out.tab
      go_wp2_with fail
      refine (refMappings_any _ T _ HT.out).mono ?_
      rintro e w2 ⟨am, rfl, hm, b2⟩
      have HM := Lib.hid hm.2
      have hbel2 := below_next hbel1 b2
      have y10 := (HB.out.later b2).at_ (i := 10) rfl
      clear hm HT HB HC HS hbel1 b2 x0 x1 x2 x3 x4 x5 x6 x7 x8 x9 x10 x11
      go_wp2_with fail
      go_loop [29] (fun i => ∃ (k : Nat), k ≤ 4 ∧ i = .int .i64 k ∧ Hid ((T.mps.drop k).all lenM_ = R2)) (fun i => 4 - (intOf i).toNat)
      case atStart => exact ⟨0, by omega, rfl, HR2⟩
      case round =>
        obtain ⟨k, hk, rfl, HS⟩ := hrel
        clear HR2
        by_cases hlt : k < 4
        · obtain ⟨l, hxk, _⟩ := get_el (xs := T.mps) (k := k) hlt
          obtain ⟨v, d0, A, c, rfl, _⟩ := HM.out k _ hxk
          have HX := Lib.hid hxk
          clear hxk
          have k0 : (0 : Int) ≤ (k : Int) := by omega
          have k1 : (k : Int) < (4 : Int) := by omega
          by_cases hl : (l.length : Int) ≤ 256
          · have HN := Lib.hid (each_go HX.out HS.out (decide_eq_true hl))
            go_wp2_with fail
            go_round
            case rel => exact ⟨k + 1, by omega, by go_num, HN⟩
            case measure => simp [intOf]; omega
          · have HN := Lib.hid (each_no HX.out HS.out (decide_eq_false hl))
            have hl' : 256 < (l.length : Int) := by omega
            clear hl
            go_wp2_with fail
            go_ret
            rw [HRR.out, HN.out]
            exact ⟨by simp, hbel2⟩
        · have HN2 := Lib.hid (each_end (by show 4 ≤ k; omega) HS.out)
          go_wp2_with fail
          go_ret
          rw [HRR.out, HN.out, HN2.out]
          exact ⟨by simp, hbel2⟩
end Go.Proofs.YtikcfoobfobmnaaGreatDoor
