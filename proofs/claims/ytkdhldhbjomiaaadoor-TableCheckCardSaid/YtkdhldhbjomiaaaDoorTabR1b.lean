/-
  The walk through the reference's small: rule 1.
-/
import Derived.Test.YtkdhldhbjomiaaaDoorTabR1
namespace Go.Proofs.YtkdhldhbjomiaaaDoor
open Go.RowKit ND

set_option maxRecDepth 100000 in
set_option maxHeartbeats 1000000 in
theorem small_any (t : Tv) (T : Tab) (w : World) (ht : TabR w w.heap.size t T) :
    Calls Tryd.prog 41 #[t.val] w fun e w' => e = .returned (.bool T.rule1) ∧ Below w.heap.size w w' := by
  obtain ⟨A0, A1, A2, A3, A4, A5, A6, A7, A8, A9, A10, A11, k0, k1, k2, k3, k4, k5, k6, k7, k8, k9, k10, k11, rfl⟩ := ht.shape
  have HR := Lib.hid (fun o : Obj => ht.later ((Below.refl _ _).alloc (Nat.le_refl _) o))
  clear ht
  obtain ⟨R, hR⟩ : ∃ R, R = T.rule1 := ⟨_, rfl⟩
  rw [← hR]
  obtain ⟨R1, hR1⟩ : ∃ R1, R1 = T.cols.all lenC_ := ⟨_, rfl⟩
  obtain ⟨R2, hR2⟩ : ∃ R2, R2 = T.mps.all lenM_ := ⟨_, rfl⟩
  have HR1 : Hid ((T.cols.drop 0).all lenC_ = R1) := Lib.hid hR1.symm
  have HR2 : Hid ((T.mps.drop 0).all lenM_ = R2) := Lib.hid hR2.symm
  have HRR : Hid (R = (decide ((T.excluded.length : Int) ≤ 256) && (R1 && R2))) := Lib.hid (by rw [hR, hR1, hR2, rule1_cast])
  clear hR hR1 hR2
  go_enter Tryd.func41, Tryd.ntmps41
  go_wp2_with fail
  refine (refSpans_any _ T _ (HR.out _)).mono ?_
  rintro e w1 ⟨ad, as_, rfl, hc, _, b1⟩
  have HC := Lib.hid hc.2
  have HB := Lib.hid ((Blk.new w 26 _).later b1)
  have HT := Lib.hid ((HR.out _).later b1)
  have hbel1 := below_next ((Below.refl _ _).alloc (Nat.le_refl _) _) b1
  clear hc b1 HR
  go_wp2_with fail
  go_loop [17] (fun i => ∃ (k : Nat), k ≤ 7 ∧ i = .int .i64 k ∧ Hid ((T.cols.drop k).all lenC_ = R1)) (fun i => 7 - (intOf i).toNat)
  case atStart => exact ⟨0, by omega, rfl, HR1⟩
  case round =>
    obtain ⟨k, hk, rfl, HS⟩ := hrel
    clear HR1
    by_cases hlt : k < 7
    · obtain ⟨⟨l, lo, hi⟩, hxk, _⟩ := get_el (xs := T.cols) (k := k) hlt
      obtain ⟨v, d0, A, c, rfl, _⟩ := HC.out k _ hxk
      have HX := Lib.hid hxk
      simp only at d0
      clear hxk
      have k0 : (0 : Int) ≤ (k : Int) := by omega
      have k1 : (k : Int) < (7 : Int) := by omega
      by_cases hl : (l.length : Int) ≤ 256
      · have HN := Lib.hid (each_go HX.out HS.out (decide_eq_true hl))
        go_wp2_with fail
        go_round
        case rel => exact ⟨k + 1, by omega, by go_num, HN⟩
        case measure => simp [intOf]; omega
      · have HN := Lib.hid (each_no HX.out HS.out (decide_eq_false hl))
        have hl' : 256 < (l.length : Int) := by omega
        clear hl
        go_wp2_with fail
        go_ret
        rw [HRR.out, HN.out]
        exact ⟨by simp, hbel1⟩
    · have HN := Lib.hid (each_end (by show 7 ≤ k; omega) HS.out)
      obtain ⟨x0, x1, x2, x3, x4, x5, x6, x7, x8, x9, x10, x11⟩ := HB.out.tab
      go_wp2_with fail
      refine (refMappings_any _ T _ HT.out).mono ?_
      rintro e w2 ⟨am, rfl, hm, b2⟩
      have HM := Lib.hid hm.2
      have hbel2 := below_next hbel1 b2
      have y10 := (HB.out.later b2).at_ (i := 10) rfl
      clear hm HT HB HC HS hbel1 b2 x0 x1 x2 x3 x4 x5 x6 x7 x8 x9 x10 x11
      go_wp2_with fail
      go_loop [29] (fun i => ∃ (k : Nat), k ≤ 4 ∧ i = .int .i64 k ∧ Hid ((T.mps.drop k).all lenM_ = R2)) (fun i => 4 - (intOf i).toNat)
      case atStart => exact ⟨0, by omega, rfl, HR2⟩
      case round =>
        obtain ⟨k, hk, rfl, HS⟩ := hrel
        clear HR2
        by_cases hlt : k < 4
        · obtain ⟨l, hxk, _⟩ := get_el (xs := T.mps) (k := k) hlt
          obtain ⟨v, d0, A, c, rfl, _⟩ := HM.out k _ hxk
          have HX := Lib.hid hxk
          clear hxk
          have k0 : (0 : Int) ≤ (k : Int) := by omega
          have k1 : (k : Int) < (4 : Int) := by omega
          by_cases hl : (l.length : Int) ≤ 256
          · have HN := Lib.hid (each_go HX.out HS.out (decide_eq_true hl))
            go_wp2_with fail
            go_round
            case rel => exact ⟨k + 1, by omega, by go_num, HN⟩
            case measure => simp [intOf]; omega
          · have HN := Lib.hid (each_no HX.out HS.out (decide_eq_false hl))
            have hl' : 256 < (l.length : Int) := by omega
            clear hl
            go_wp2_with fail
            go_ret
            rw [HRR.out, HN.out]
            exact ⟨by simp, hbel2⟩
        · have HN2 := Lib.hid (each_end (by show 4 ≤ k; omega) HS.out)
          go_wp2_with fail
          go_ret
          rw [HRR.out, HN.out, HN2.out]
          exact ⟨by simp, hbel2⟩
end Go.Proofs.YtkdhldhbjomiaaaDoor
