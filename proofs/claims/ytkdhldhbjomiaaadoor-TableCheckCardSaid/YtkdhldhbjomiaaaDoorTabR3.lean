/-
  The walks through table.values and the reference's ranged: rule 3.
-/
import Derived.Test.YtkdhldhbjomiaaaDoorTabR1
import Derived.Test.YtkdhldhbjomiaaaDoorMem
import Derived.BigQuiet
namespace Go.Proofs.YtkdhldhbjomiaaaDoor
open Go.RowKit ND

def spVal (lo hi : Int) (s : Sp) : Bool := decide (lo ≤ s.2.2 ∧ s.2.2 ≤ hi)
theorem valsOk_eq (l : List Sp) (lo hi : Int) : valsOk (l, lo, hi) = l.all (spVal lo hi) := rfl
theorem val_ways (lo hi v : Int) : (decide (lo ≤ v ∧ v ≤ hi) = true ∧ decide (v < lo) = false ∧ decide (hi < v) = false) ∨ (decide (lo ≤ v ∧ v ≤ hi) = false ∧ decide (v < lo) = true) ∨
    (decide (lo ≤ v ∧ v ≤ hi) = false ∧ decide (v < lo) = false ∧ decide (hi < v) = true) := by
  simp only [decide_eq_true_eq, decide_eq_false_iff_not]; omega

set_option maxRecDepth 100000 in
set_option maxHeartbeats 2000000 in
theorem values_any (t : Tv) (T : Tab) (w : World) (ht : TabR w w.heap.size t T) :
    Calls Tryd.prog 34 #[t.val] w fun e w' => e = .returned (.bool T.rule3) ∧ Below w.heap.size w w' := by
  obtain ⟨A0, A1, A2, A3, A4, A5, A6, A7, A8, A9, A10, A11, k0, k1, k2, k3, k4, k5, k6, k7, k8, k9, k10, k11, rfl⟩ := ht.shape
  have HR := Lib.hid (fun o : Obj => ht.later ((Below.refl _ _).alloc (Nat.le_refl _) o))
  clear ht
  obtain ⟨R, hR⟩ : ∃ R, R = T.rule3 := ⟨_, rfl⟩
  rw [← hR]
  have HR1 : Hid ((T.cols.drop 0).all valsOk = R) := Lib.hid hR.symm
  clear hR
  go_enter Tryd.func34, Tryd.ntmps34
  go_wp2_with fail
  refine (columns_any _ T _ (HR.out _)).mono ?_
  rintro e w1 ⟨ad, rfl, hc, b1⟩
  have HC := Lib.hid hc.2
  have hca := hc.1
  have hbel1 := below_next ((Below.refl _ _).alloc (Nat.le_refl _) _) b1
  clear hc b1 HR
  go_wp2_with fail
  go_loopw [10] (fun i wr => ∃ (k : Nat), k ≤ 7 ∧ i = .int .i64 k ∧ Hid ((T.cols.drop k).all valsOk = R) ∧ Below w1.heap.size w1 wr) (fun i _ => 7 - (intOf i).toNat)
  case atStart => exact ⟨0, by omega, rfl, HR1, Below.refl _ _⟩
  case round =>
    obtain ⟨k, hk, rfl, HS, hbel⟩ := hrel
    clear HR1
    by_cases hlt : k < 7
    · obtain ⟨⟨l, lo, hi⟩, hxk, _⟩ := get_el (xs := T.cols) (k := k) hlt
      obtain ⟨v, d0, d1, d2, hv⟩ := HC.out k _ hxk
      simp only at d0 d1 d2 hv
      obtain ⟨A, c, rfl, hc1, hc2, _, hcell⟩ := id hv
      have HCE := Lib.hid hcell
      have hlm : l.length ≤ 9223372036854775807 := by unfold maxLen at hc2; omega
      obtain ⟨e0, e1, e2⟩ := span_cells hbel hca d0 d1 d2
      have HX := Lib.hid hxk
      clear d0 d1 d2 hxk hcell hv hc1 hc2
      have q0 : (0 : Int) ≤ (k : Int) := by omega
      have q1 : (k : Int) < (7 : Int) := by omega
      obtain ⟨Ro, hRo⟩ : ∃ Ro, Ro = l.all (spVal lo hi) := ⟨_, rfl⟩
      have HO : Hid ((l.drop 0).all (spVal lo hi) = Ro) := Lib.hid hRo.symm
      have HCO : Hid (valsOk (l, lo, hi) = Ro) := Lib.hid hRo.symm
      clear hRo
      go_wp2_with fail
      have hbw := hbel.alloc hbel.size (.cells #[.slice A l.length c, .int .i64 lo, .int .i64 hi] 79)
      have HBC := Lib.hid (Blk.new wr 79 #[.slice A l.length c, .int .i64 lo, .int .i64 hi])
      generalize wr.alloc (.cells #[.slice A l.length c, .int .i64 lo, .int .i64 hi] 79) = wo at *
      clear e0 e1 e2 hbel
      go_loopw [17] (fun i wj => ∃ (j : Nat), j ≤ l.length ∧ i = .int .i64 j ∧ Hid ((l.drop j).all (spVal lo hi) = Ro) ∧ Below wo.heap.size wo wj) (fun i _ => l.length - (intOf i).toNat)
      case atStart => exact ⟨0, by omega, rfl, HO, Below.refl _ _⟩
      case round =>
        obtain ⟨j, hj, rfl, HSj, hbelj⟩ := hrel
        clear HO
        by_cases hjl : j < l.length
        · obtain ⟨⟨f, t, x⟩, hxj, _⟩ := get_el hjl
          obtain ⟨aj, rfl, ha, d0, d1, d2⟩ := HCE.out j _ hxj
          simp only at d0 d1 d2
          obtain ⟨e0, e1, e2⟩ := span_cells (below_next hbw hbelj) ha d0 d1 d2
          have HXj := Lib.hid hxj
          have hbc := (HBC.out.later hbelj).alloc (.cells #[.int .i64 f, .int .i64 t, .int .i64 x] 64)
          have c1 := hbc.at_ (i := 1) (u := .int .i64 lo) rfl
          have c2 := hbc.at_ (i := 2) (u := .int .i64 hi) rfl
          clear d0 d1 d2 hxj ha hbc
          have r0 : (0 : Int) ≤ (j : Int) := by omega
          have r1 : (j : Int) < (l.length : Int) := by omega
          rcases val_ways lo hi x with ⟨ho, p0, p1⟩ | ⟨ho, p0⟩ | ⟨ho, p0, p1⟩
          · have HN := Lib.hid (each_go HXj.out HSj.out ho)
            clear ho
            go_wp2_with fail
            go_roundw
            case rel => exact ⟨j + 1, by omega, by go_num, HN, hbelj.alloc hbelj.size _⟩
            case measure => simp [intOf]; omega
          · have HN := Lib.hid (each_no HXj.out HSj.out ho)
            clear ho
            go_wp2_with fail
            go_ret
            rw [each_no HX.out HS.out (HCO.out.trans HN.out)]
            exact ⟨rfl, below_next hbel1 (below_next hbw (hbelj.alloc hbelj.size _))⟩
          · have HN := Lib.hid (each_no HXj.out HSj.out ho)
            clear ho
            go_wp2_with fail
            go_ret
            rw [each_no HX.out HS.out (HCO.out.trans HN.out)]
            exact ⟨rfl, below_next hbel1 (below_next hbw (hbelj.alloc hbelj.size _))⟩
        · have HN := Lib.hid (each_go HX.out HS.out (HCO.out.trans (each_end (by omega) HSj.out)))
          go_wp2_with fail
          go_roundw
          case rel => exact ⟨k + 1, by omega, by go_num, HN, below_next hbw hbelj⟩
          case measure => simp [intOf]; omega
    · have HN := Lib.hid (each_end (by show 7 ≤ k; omega) HS.out)
      go_wp2_with fail
      go_ret
      rw [HN.out]
      exact ⟨rfl, below_next hbel1 hbel⟩

theorem cols_most {T : Tab} {k : Nat} {l : List Sp} {lo hi : Int} (h : T.cols[k]? = some (l, lo, hi)) : mostL[k]? = some hi ∧ (lo = 1 ∧ (k = 1 ∨ k = 6) ∨ lo = 0 ∧ k ≠ 1 ∧ k ≠ 6) := by
  have hk7 : k < 7 := (List.getElem?_eq_some_iff.1 h).1
  have h7 : k = 0 ∨ k = 1 ∨ k = 2 ∨ k = 3 ∨ k = 4 ∨ k = 5 ∨ k = 6 := by omega
  rcases h7 with rfl | rfl | rfl | rfl | rfl | rfl | rfl <;> cases h
  · exact ⟨rfl, .inr ⟨rfl, by decide, by decide⟩⟩
  · exact ⟨rfl, .inl ⟨rfl, .inl rfl⟩⟩
  · exact ⟨rfl, .inr ⟨rfl, by decide, by decide⟩⟩
  · exact ⟨rfl, .inr ⟨rfl, by decide, by decide⟩⟩
  · exact ⟨rfl, .inr ⟨rfl, by decide, by decide⟩⟩
  · exact ⟨rfl, .inr ⟨rfl, by decide, by decide⟩⟩
  · exact ⟨rfl, .inl ⟨rfl, .inr rfl⟩⟩
theorem rng_ways {lo hi x : Int} {k : Nat} (h : lo = 1 ∧ (k = 1 ∨ k = 6) ∨ lo = 0 ∧ k ≠ 1 ∧ k ≠ 6) :
    (decide (lo ≤ x ∧ x ≤ hi) = false ∧ decide (x < 0) = true) ∨ (decide (lo ≤ x ∧ x ≤ hi) = false ∧ decide (x < 0) = false ∧ decide (hi < x) = true) ∨
    (decide (lo ≤ x ∧ x ≤ hi) = true ∧ decide (x < 0) = false ∧ decide (hi < x) = false ∧ (x == 0) = false) ∨
    (decide (lo ≤ x ∧ x ≤ hi) = false ∧ decide (x < 0) = false ∧ decide (hi < x) = false ∧ (x == 0) = true ∧ ((k : Int) == 1) = true) ∨
    (decide (lo ≤ x ∧ x ≤ hi) = false ∧ decide (x < 0) = false ∧ decide (hi < x) = false ∧ (x == 0) = true ∧ ((k : Int) == 1) = false ∧ ((k : Int) == 6) = true) ∨
    (decide (lo ≤ x ∧ x ≤ hi) = true ∧ decide (x < 0) = false ∧ decide (hi < x) = false ∧ (x == 0) = true ∧ ((k : Int) == 1) = false ∧ ((k : Int) == 6) = false) := by
  simp only [decide_eq_true_eq, decide_eq_false_iff_not, beq_iff_eq, beq_eq_false_iff_ne, ne_eq]
  omega

set_option maxRecDepth 100000 in
set_option maxHeartbeats 4000000 in
theorem ranged_any (t : Tv) (T : Tab) (w : World) (ht : TabR w w.heap.size t T) :
    Calls Tryd.prog 43 #[t.val] w fun e w' => e = .returned (.bool T.rule3) ∧ Below w.heap.size w w' := by
  obtain ⟨A0, A1, A2, A3, A4, A5, A6, A7, A8, A9, A10, A11, k0, k1, k2, k3, k4, k5, k6, k7, k8, k9, k10, k11, rfl⟩ := ht.shape
  have HR := Lib.hid (fun o : Obj => ht.later ((Below.refl _ _).alloc (Nat.le_refl _) o))
  clear ht
  obtain ⟨R, hR⟩ : ∃ R, R = T.rule3 := ⟨_, rfl⟩
  rw [← hR]
  have HR1 : Hid ((T.cols.drop 0).all valsOk = R) := Lib.hid hR.symm
  clear hR
  go_enter Tryd.func43, Tryd.ntmps43
  go_wp2_with fail
  refine (refSpans_any _ T _ (HR.out _)).mono ?_
  rintro e w1 ⟨ad, am, rfl, hc, hm, b1⟩
  have HC := Lib.hid hc.2
  have hca := hc.1
  have HM := Lib.hid hm.2
  have hma := hm.1
  have hbel1 := below_next ((Below.refl _ _).alloc (Nat.le_refl _) _) b1
  clear hc hm b1 HR
  go_wp2_with fail
  go_loopw [16] (fun i wr => ∃ (k : Nat), k ≤ 7 ∧ i = .int .i64 k ∧ Hid ((T.cols.drop k).all valsOk = R) ∧ Below w1.heap.size w1 wr) (fun i _ => 7 - (intOf i).toNat)
  case atStart => exact ⟨0, by omega, rfl, HR1, Below.refl _ _⟩
  case round =>
    obtain ⟨k, hk, rfl, HS, hbel⟩ := hrel
    clear HR1
    by_cases hlt : k < 7
    · obtain ⟨⟨l, lo, hi⟩, hxk, _⟩ := get_el (xs := T.cols) (k := k) hlt
      obtain ⟨v, d0, hv⟩ := HC.out k _ hxk
      simp only at d0 hv
      obtain ⟨A, c, rfl, hc1, hc2, _, hcell⟩ := id hv
      have HCE := Lib.hid hcell
      have hlm : l.length ≤ 9223372036854775807 := by unfold maxLen at hc2; omega
      obtain ⟨hmo, hlo⟩ := cols_most hxk
      have m0 := HM.out k hi hmo
      have HLO := Lib.hid hlo
      have e0 := (hbel.cell (p := ad.add k) (by rw [block_of_add]; exact hca)).trans d0
      have HX := Lib.hid hxk
      have HM0 := Lib.hid m0
      clear d0 hxk hcell hv hc1 hc2 hmo hlo m0
      have q0 : (0 : Int) ≤ (k : Int) := by omega
      have q1 : (k : Int) < (7 : Int) := by omega
      obtain ⟨Ro, hRo⟩ : ∃ Ro, Ro = l.all (spVal lo hi) := ⟨_, rfl⟩
      have HO : Hid ((l.drop 0).all (spVal lo hi) = Ro) := Lib.hid hRo.symm
      have HCO : Hid (valsOk (l, lo, hi) = Ro) := Lib.hid hRo.symm
      clear hRo
      go_wp2_with fail
      clear e0
      go_loopw [23] (fun i wj => ∃ (j : Nat), j ≤ l.length ∧ i = .int .i64 j ∧ Hid ((l.drop j).all (spVal lo hi) = Ro) ∧ Below w1.heap.size w1 wj) (fun i _ => l.length - (intOf i).toNat)
      case atStart => exact ⟨0, by omega, rfl, HO, hbel⟩
      case round =>
        obtain ⟨j, hj, rfl, HSj, hbelj⟩ := hrel
        clear HO hbel
        by_cases hjl : j < l.length
        · obtain ⟨⟨f, t, x⟩, hxj, _⟩ := get_el hjl
          obtain ⟨aj, rfl, ha, d0, d1, d2⟩ := HCE.out j _ hxj
          simp only at d0 d1 d2
          obtain ⟨e0, e1, e2⟩ := span_cells hbelj ha d0 d1 d2
          have HXj := Lib.hid hxj
          have f0 := (hbelj.cell (p := am.add k) (by rw [block_of_add]; exact hma)).trans HM0.out
          have g0 := fun o : Obj => (World.cell?_alloc_lt _ o (am.add k) (World.block_lt_of_cell? _ _ f0)).trans f0
          clear d0 d1 d2 hxj ha f0
          have r0 : (0 : Int) ≤ (j : Int) := by omega
          have r1 : (j : Int) < (l.length : Int) := by omega
          rcases rng_ways (x := x) (hi := hi) HLO.out with ⟨ho, p0⟩ | ⟨ho, p0, p1⟩ | ⟨ho, p0, p1, p2⟩ | ⟨ho, p0, p1, p2, p3⟩ | ⟨ho, p0, p1, p2, p3, p4⟩ | ⟨ho, p0, p1, p2, p3, p4⟩
          · have HN := Lib.hid (each_no HXj.out HSj.out ho)
            clear ho
            go_wp2_with fail
            go_quiet (fail)
            go_wp2_with fail
            go_ret
            rw [each_no HX.out HS.out (HCO.out.trans HN.out)]
            exact ⟨rfl, below_next hbel1 (below_drewN (hbelj.alloc hbelj.size _) nq)⟩
          · have HN := Lib.hid (each_no HXj.out HSj.out ho)
            clear ho
            go_wp2_with fail
            go_quiet (fail)
            go_wp2_with fail
            go_ret
            rw [each_no HX.out HS.out (HCO.out.trans HN.out)]
            exact ⟨rfl, below_next hbel1 (below_drewN (hbelj.alloc hbelj.size _) nq)⟩
          · have HN := Lib.hid (each_go HXj.out HSj.out ho)
            clear ho
            go_wp2_with fail
            go_quiet (fail)
            go_wp2_with fail
            go_roundw
            case rel => exact ⟨j + 1, by omega, by go_num, HN, below_drewN (hbelj.alloc hbelj.size _) nq⟩
            case measure => simp [intOf]; omega
          · have HN := Lib.hid (each_no HXj.out HSj.out ho)
            clear ho
            go_wp2_with fail
            go_quiet (fail)
            go_wp2_with fail
            go_ret
            rw [each_no HX.out HS.out (HCO.out.trans HN.out)]
            exact ⟨rfl, below_next hbel1 (below_drewN (hbelj.alloc hbelj.size _) nq)⟩
          · have HN := Lib.hid (each_no HXj.out HSj.out ho)
            clear ho
            go_wp2_with fail
            go_quiet (fail)
            go_wp2_with fail
            go_ret
            rw [each_no HX.out HS.out (HCO.out.trans HN.out)]
            exact ⟨rfl, below_next hbel1 (below_drewN (hbelj.alloc hbelj.size _) nq)⟩
          · have HN := Lib.hid (each_go HXj.out HSj.out ho)
            clear ho
            go_wp2_with fail
            go_quiet (fail)
            go_wp2_with fail
            go_roundw
            case rel => exact ⟨j + 1, by omega, by go_num, HN, below_drewN (hbelj.alloc hbelj.size _) nq⟩
            case measure => simp [intOf]; omega
        · have HN := Lib.hid (each_go HX.out HS.out (HCO.out.trans (each_end (by omega) HSj.out)))
          go_wp2_with fail
          go_roundw
          case rel => exact ⟨k + 1, by omega, by go_num, HN, hbelj⟩
          case measure => simp [intOf]; omega
    · have HN := Lib.hid (each_end (by show 7 ≤ k; omega) HS.out)
      go_wp2_with fail
      go_ret
      rw [HN.out]
      exact ⟨rfl, below_next hbel1 hbel⟩
end Go.Proofs.YtkdhldhbjomiaaaDoor
