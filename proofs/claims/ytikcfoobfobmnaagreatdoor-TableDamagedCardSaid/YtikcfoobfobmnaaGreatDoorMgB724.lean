/-
  Merged texts: lemmas and walks that the last text of this claim leans on.
-/
import Derived.Test.YtikcfoobfobmnaaGreatDoorMgB76
import Derived.Test.YtikcfoobfobmnaaGreatDoorMgB71
import Derived.BigQuiet
import Derived.Test.YtikcfoobfobmnaaGreatDoorMgB77
import Derived.Test.YtikcfoobfobmnaaGreatDoorMgB722
import Derived.Test.YtikcfoobfobmnaaGreatDoorMgB723
/-
  The walks through table.values and the reference's ranged: rule 3.
-/
namespace Go.Proofs.YtikcfoobfobmnaaGreatDoor
open Go.RowKit ND

def spVal (lo hi : Int) (s : Sp) : Bool := decide (lo ≤ s.2.2 ∧ s.2.2 ≤ hi)
theorem valsOk_eq (l : List Sp) (lo hi : Int) : valsOk (l, lo, hi) = l.all (spVal lo hi) := rfl
theorem val_ways (lo hi v : Int) : (decide (lo ≤ v ∧ v ≤ hi) = true ∧ decide (v < lo) = false ∧ decide (hi < v) = false) ∨ (decide (lo ≤ v ∧ v ≤ hi) = false ∧ decide (v < lo) = true) ∨
    (decide (lo ≤ v ∧ v ≤ hi) = false ∧ decide (v < lo) = false ∧ decide (hi < v) = true) := by
  simp only [decide_eq_true_eq, decide_eq_false_iff_not]; omega

set_option maxRecDepth 100000 in
set_option maxHeartbeats 2000000 in
theorem values_any (t : Tv) (T : Tab) (w : World) (ht : TabR w w.heap.size t T) :
    Calls Tryz.prog 57 #[t.val] w fun e w' => e = .returned (.bool T.rule3) ∧ Below w.heap.size w w' := by
  obtain ⟨A0, A1, A2, A3, A4, A5, A6, A7, A8, A9, A10, A11, k0, k1, k2, k3, k4, k5, k6, k7, k8, k9, k10, k11, rfl⟩ := ht.shape
  have HR := Lib.hid (fun o : Obj => ht.later ((Below.refl _ _).alloc (Nat.le_refl _) o))
  clear ht
  obtain ⟨R, hR⟩ : ∃ R, R = T.rule3 := ⟨_, rfl⟩
  rw [← hR]
  have HR1 : Hid ((T.cols.drop 0).all valsOk = R) := Lib.hid hR.symm
  clear hR
  go_enter Tryz.func57, Tryz.ntmps57
  go_wp2_with fail
  refine (columns_any _ T _ (HR.out _)).mono ?_
  rintro e w1 ⟨ad, rfl, hc, b1⟩
  have HC := Lib.hid hc.2
  have hca := hc.1
  have hbel1 := below_next ((Below.refl _ _).alloc (Nat.le_refl _) _) b1
  clear hc b1 HR
  go_wp2_with fail
  go_loopw [10] (fun i wr => ∃ (k : Nat), k ≤ 7 ∧ i = .int .i64 k ∧ Hid ((T.cols.drop k).all valsOk = R) ∧ Below w1.heap.size w1 wr) (fun i _ => 7 - (intOf i).toNat)
  case atStart => exact ⟨0, by omega, rfl, HR1, Below.refl _ _⟩
  case round =>
    obtain ⟨k, hk, rfl, HS, hbel⟩ := hrel
    clear HR1
    by_cases hlt : k < 7
    · obtain ⟨⟨l, lo, hi⟩, hxk, _⟩ := get_el (xs := T.cols) (k := k) hlt
      obtain ⟨v, d0, d1, d2, hv⟩ := HC.out k _ hxk
      simp only at d0 d1 d2 hv
      obtain ⟨A, c, rfl, hc1, hc2, _, hcell⟩ := id hv
      have HCE := Lib.hid hcell
      have hlm : l.length ≤ 9223372036854775807 := by unfold maxLen at hc2; omega
      obtain ⟨e0, e1, e2⟩ := span_cells hbel hca d0 d1 d2
      have HX := Lib.hid hxk
      clear d0 d1 d2 hxk hcell hv hc1 hc2
      have q0 : (0 : Int) ≤ (k : Int) := by omega
      have q1 : (k : Int) < (7 : Int) := by omega
      obtain ⟨Ro, hRo⟩ : ∃ Ro, Ro = l.all (spVal lo hi) := ⟨_, rfl⟩
      have HO : Hid ((l.drop 0).all (spVal lo hi) = Ro) := Lib.hid hRo.symm
      have HCO : Hid (valsOk (l, lo, hi) = Ro) := Lib.hid hRo.symm
      clear hRo
      go_wp2_with fail
      have hbw := hbel.alloc hbel.size (.cells #[.slice A l.length c, .int .i64 lo, .int .i64 hi] 112)
      have HBC := Lib.hid (Blk.new wr 112 #[.slice A l.length c, .int .i64 lo, .int .i64 hi])
      generalize wr.alloc (.cells #[.slice A l.length c, .int .i64 lo, .int .i64 hi] 112) = wo at *
      clear e0 e1 e2 hbel
      go_loopw [17] (fun i wj => ∃ (j : Nat), j ≤ l.length ∧ i = .int .i64 j ∧ Hid ((l.drop j).all (spVal lo hi) = Ro) ∧ Below wo.heap.size wo wj) (fun i _ => l.length - (intOf i).toNat)
      case atStart => exact ⟨0, by omega, rfl, HO, Below.refl _ _⟩
      case round =>
        obtain ⟨j, hj, rfl, HSj, hbelj⟩ := hrel
        clear HO
        by_cases hjl : j < l.length
        · obtain ⟨⟨f, t, x⟩, hxj, _⟩ := get_el hjl
          obtain ⟨aj, rfl, ha, d0, d1, d2⟩ := HCE.out j _ hxj
          simp only at d0 d1 d2
          obtain ⟨e0, e1, e2⟩ := span_cells (below_next hbw hbelj) ha d0 d1 d2
          have HXj := Lib.hid hxj
          have hbc := (HBC.out.later hbelj).alloc (.cells #[.int .i64 f, .int .i64 t, .int .i64 x] 61)
          have c1 := hbc.at_ (i := 1) (u := .int .i64 lo) rfl
          have c2 := hbc.at_ (i := 2) (u := .int .i64 hi) rfl
          clear d0 d1 d2 hxj ha hbc
          have r0 : (0 : Int) ≤ (j : Int) := by omega
          have r1 : (j : Int) < (l.length : Int) := by omega
          rcases val_ways lo hi x with ⟨ho, p0, p1⟩ | ⟨ho, p0⟩ | ⟨ho, p0, p1⟩
          · have HN := Lib.hid (each_go HXj.out HSj.out ho)
            clear ho
            go_wp2_with fail
            go_roundw
            case rel => exact ⟨j + 1, by omega, by go_num, HN, hbelj.alloc hbelj.size _⟩
            case measure => simp [intOf]; omega
          · have HN := Lib.hid (each_no HXj.out HSj.out ho)
            clear ho
            go_wp2_with fail
            go_ret
            rw [each_no HX.out HS.out (HCO.out.trans HN.out)]
            exact ⟨rfl, below_next hbel1 (below_next hbw (hbelj.alloc hbelj.size _))⟩
          · have HN := Lib.hid (each_no HXj.out HSj.out ho)
            clear ho
            go_wp2_with fail
            go_ret
            rw [each_no HX.out HS.out (HCO.out.trans HN.out)]
            exact ⟨rfl, below_next hbel1 (below_next hbw (hbelj.alloc hbelj.size _))⟩
        · have HN := Lib.hid (each_go HX.out HS.out (HCO.out.trans (each_end (by omega) HSj.out)))
          go_wp2_with fail
          go_roundw
          case rel => exact ⟨k + 1, by omega, by go_num, HN, below_next hbw hbelj⟩
          case measure => simp [intOf]; omega
    · have HN := Lib.hid (each_end (by show 7 ≤ k; omega) HS.out)
      go_wp2_with fail
      go_ret
      rw [HN.out]
      exact ⟨rfl, below_next hbel1 hbel⟩

theorem cols_most {T : Tab} {k : Nat} {l : List Sp} {lo hi : Int} (h : T.cols[k]? = some (l, lo, hi)) : mostL[k]? = some hi ∧ (lo = 1 ∧ (k = 1 ∨ k = 6) ∨ lo = 0 ∧ k ≠ 1 ∧ k ≠ 6) := by
  have hk7 : k < 7 := (List.getElem?_eq_some_iff.1 h).1
  have h7 : k = 0 ∨ k = 1 ∨ k = 2 ∨ k = 3 ∨ k = 4 ∨ k = 5 ∨ k = 6 := by omega
  rcases h7 with rfl | rfl | rfl | rfl | rfl | rfl | rfl <;> cases h
  · exact ⟨rfl, .inr ⟨rfl, by decide, by decide⟩⟩
  · exact ⟨rfl, .inl ⟨rfl, .inl rfl⟩⟩
  · exact ⟨rfl, .inr ⟨rfl, by decide, by decide⟩⟩
  · exact ⟨rfl, .inr ⟨rfl, by decide, by decide⟩⟩
  · exact ⟨rfl, .inr ⟨rfl, by decide, by decide⟩⟩
  · exact ⟨rfl, .inr ⟨rfl, by decide, by decide⟩⟩
  · exact ⟨rfl, .inl ⟨rfl, .inr rfl⟩⟩
theorem rng_ways {lo hi x : Int} {k : Nat} (h : lo = 1 ∧ (k = 1 ∨ k = 6) ∨ lo = 0 ∧ k ≠ 1 ∧ k ≠ 6) :
    (decide (lo ≤ x ∧ x ≤ hi) = false ∧ decide (x < 0) = true) ∨ (decide (lo ≤ x ∧ x ≤ hi) = false ∧ decide (x < 0) = false ∧ decide (hi < x) = true) ∨
    (decide (lo ≤ x ∧ x ≤ hi) = true ∧ decide (x < 0) = false ∧ decide (hi < x) = false ∧ (x == 0) = false) ∨
    (decide (lo ≤ x ∧ x ≤ hi) = false ∧ decide (x < 0) = false ∧ decide (hi < x) = false ∧ (x == 0) = true ∧ ((k : Int) == 1) = true) ∨
    (decide (lo ≤ x ∧ x ≤ hi) = false ∧ decide (x < 0) = false ∧ decide (hi < x) = false ∧ (x == 0) = true ∧ ((k : Int) == 1) = false ∧ ((k : Int) == 6) = true) ∨
    (decide (lo ≤ x ∧ x ≤ hi) = true ∧ decide (x < 0) = false ∧ decide (hi < x) = false ∧ (x == 0) = true ∧ ((k : Int) == 1) = false ∧ ((k : Int) == 6) = false) := by
  simp only [decide_eq_true_eq, decide_eq_false_iff_not, beq_iff_eq, beq_eq_false_iff_ne, ne_eq]
  omega

set_option maxRecDepth 100000 in
set_option maxHeartbeats 4000000 in
theorem ranged_any (t : Tv) (T : Tab) (w : World) (ht : TabR w w.heap.size t T) :
    Calls Tryz.prog 45 #[t.val] w fun e w' => e = .returned (.bool T.rule3) ∧ Below w.heap.size w w' := by
  obtain ⟨A0, A1, A2, A3, A4, A5, A6, A7, A8, A9, A10, A11, k0, k1, k2, k3, k4, k5, k6, k7, k8, k9, k10, k11, rfl⟩ := ht.shape
  have HR := Lib.hid (fun o : Obj => ht.later ((Below.refl _ _).alloc (Nat.le_refl _) o))
  clear ht
  obtain ⟨R, hR⟩ : ∃ R, R = T.rule3 := ⟨_, rfl⟩
  rw [← hR]
  have HR1 : Hid ((T.cols.drop 0).all valsOk = R) := Lib.hid hR.symm
  clear hR
  go_enter Tryz.func45, Tryz.ntmps45
  go_wp2_with fail
  refine (refSpans_any _ T _ (HR.out _)).mono ?_
  rintro e w1 ⟨ad, am, rfl, hc, hm, b1⟩
  have HC := Lib.hid hc.2
  have hca := hc.1
  have HM := Lib.hid hm.2
  have hma := hm.1
  have hbel1 := below_next ((Below.refl _ _).alloc (Nat.le_refl _) _) b1
  clear hc hm b1 HR
  go_wp2_with fail
  go_loopw [16] (fun i wr => ∃ (k : Nat), k ≤ 7 ∧ i = .int .i64 k ∧ Hid ((T.cols.drop k).all valsOk = R) ∧ Below w1.heap.size w1 wr) (fun i _ => 7 - (intOf i).toNat)
  case atStart => exact ⟨0, by omega, rfl, HR1, Below.refl _ _⟩
  case round =>
    obtain ⟨k, hk, rfl, HS, hbel⟩ := hrel
    clear HR1
    by_cases hlt : k < 7
    · obtain ⟨⟨l, lo, hi⟩, hxk, _⟩ := get_el (xs := T.cols) (k := k) hlt
      obtain ⟨v, d0, hv⟩ := HC.out k _ hxk
      simp only at d0 hv
      obtain ⟨A, c, rfl, hc1, hc2, _, hcell⟩ := id hv
      have HCE := Lib.hid hcell
      have hlm : l.length ≤ 9223372036854775807 := by unfold maxLen at hc2; omega
      obtain ⟨hmo, hlo⟩ := cols_most hxk
      have m0 := HM.out k hi hmo
      have HLO := Lib.hid hlo
      have e0 := (hbel.cell (p := ad.add k) (by rw [block_of_add]; exact hca)).trans d0
      have HX := Lib.hid hxk
      have HM0 := Lib.hid m0
      clear d0 hxk hcell hv hc1 hc2 hmo hlo m0
      have q0 : (0 : Int) ≤ (k : Int) := by omega
      have q1 : (k : Int) < (7 : Int) := by omega
      obtain ⟨Ro, hRo⟩ : ∃ Ro, Ro = l.all (spVal lo hi) := ⟨_, rfl⟩
      have HO : Hid ((l.drop 0).all (spVal lo hi) = Ro) := Lib.hid hRo.symm
      have HCO : Hid (valsOk (l, lo, hi) = Ro) := Lib.hid hRo.symm
      clear hRo
      go_wp2_with fail
      clear e0
      go_loopw [23] (fun i wj => ∃ (j : Nat), j ≤ l.length ∧ i = .int .i64 j ∧ Hid ((l.drop j).all (spVal lo hi) = Ro) ∧ Below w1.heap.size w1 wj) (fun i _ => l.length - (intOf i).toNat)
      case atStart => exact ⟨0, by omega, rfl, HO, hbel⟩
      case round =>
        obtain ⟨j, hj, rfl, HSj, hbelj⟩ := hrel
        clear HO hbel
        by_cases hjl : j < l.length
        · obtain ⟨⟨f, t, x⟩, hxj, _⟩ := get_el hjl
          obtain ⟨aj, rfl, ha, d0, d1, d2⟩ := HCE.out j _ hxj
          simp only at d0 d1 d2
          obtain ⟨e0, e1, e2⟩ := span_cells hbelj ha d0 d1 d2
          have HXj := Lib.hid hxj
          have f0 := (hbelj.cell (p := am.add k) (by rw [block_of_add]; exact hma)).trans HM0.out
          have g0 := fun o : Obj => (World.cell?_alloc_lt _ o (am.add k) (World.block_lt_of_cell? _ _ f0)).trans f0
          clear d0 d1 d2 hxj ha f0
          have r0 : (0 : Int) ≤ (j : Int) := by omega
          have r1 : (j : Int) < (l.length : Int) := by omega
          rcases rng_ways (x := x) (hi := hi) HLO.out with ⟨ho, p0⟩ | ⟨ho, p0, p1⟩ | ⟨ho, p0, p1, p2⟩ | ⟨ho, p0, p1, p2, p3⟩ | ⟨ho, p0, p1, p2, p3, p4⟩ | ⟨ho, p0, p1, p2, p3, p4⟩
          · have HN := Lib.hid (each_no HXj.out HSj.out ho)
            clear ho
            go_wp2_with fail
            go_quiet (fail)
            go_wp2_with fail
            go_ret
            rw [each_no HX.out HS.out (HCO.out.trans HN.out)]
            exact ⟨rfl, below_next hbel1 (below_drewN (hbelj.alloc hbelj.size _) nq)⟩
          · have HN := Lib.hid (each_no HXj.out HSj.out ho)
            clear ho
            go_wp2_with fail
            go_quiet (fail)
            go_wp2_with fail
            go_ret
            rw [each_no HX.out HS.out (HCO.out.trans HN.out)]
            exact ⟨rfl, below_next hbel1 (below_drewN (hbelj.alloc hbelj.size _) nq)⟩
          · have HN := Lib.hid (each_go HXj.out HSj.out ho)
            clear ho
            go_wp2_with fail
            go_quiet (fail)
            go_wp2_with fail
            go_roundw
            case rel => exact ⟨j + 1, by omega, by go_num, HN, below_drewN (hbelj.alloc hbelj.size _) nq⟩
            case measure => simp [intOf]; omega
          · have HN := Lib.hid (each_no HXj.out HSj.out ho)
            clear ho
            go_wp2_with fail
            go_quiet (fail)
            go_wp2_with fail
            go_ret
            rw [each_no HX.out HS.out (HCO.out.trans HN.out)]
            exact ⟨rfl, below_next hbel1 (below_drewN (hbelj.alloc hbelj.size _) nq)⟩
          · have HN := Lib.hid (each_no HXj.out HSj.out ho)
            clear ho
            go_wp2_with fail
            go_quiet (fail)
            go_wp2_with fail
            go_ret
            rw [each_no HX.out HS.out (HCO.out.trans HN.out)]
            exact ⟨rfl, below_next hbel1 (below_drewN (hbelj.alloc hbelj.size _) nq)⟩
          · have HN := Lib.hid (each_go HXj.out HSj.out ho)
            clear ho
            go_wp2_with fail
            go_quiet (fail)
            go_wp2_with fail
            go_roundw
            case rel => exact ⟨j + 1, by omega, by go_num, HN, below_drewN (hbelj.alloc hbelj.size _) nq⟩
            case measure => simp [intOf]; omega
        · have HN := Lib.hid (each_go HX.out HS.out (HCO.out.trans (each_end (by omega) HSj.out)))
          go_wp2_with fail
          go_roundw
          case rel => exact ⟨k + 1, by omega, by go_num, HN, hbelj⟩
          case measure => simp [intOf]; omega
    · have HN := Lib.hid (each_end (by show 7 ≤ k; omega) HS.out)
      go_wp2_with fail
      go_ret
      rw [HN.out]
      exact ⟨rfl, below_next hbel1 hbel⟩
end Go.Proofs.YtikcfoobfobmnaaGreatDoor
/-
  The walk through the reference's Scalar.
-/
namespace Go.Proofs.YtikcfoobfobmnaaGreatDoor
open Go.RowKit ND

set_option maxHeartbeats 400000 in
theorem refScalar_any (c : Int) (w : World) : Calls Tryz.prog 81 #[.int .i64 c] w fun e w' => e = .returned (.bool (scalarB c)) ∧ w = w' := by
  go_enter Tryz.func81, Tryz.ntmps81
  go_wp2
  all_goals go_ret
  all_goals refine ⟨ret_bool (bool_eq ?_), rfl⟩
  all_goals rw [scalarB_iff]
  all_goals simp
  all_goals omega
end Go.Proofs.YtikcfoobfobmnaaGreatDoor
/-
  The walks through table.scripts, table.targets and the reference's sized: rule 4.
-/
namespace Go.Proofs.YtikcfoobfobmnaaGreatDoor
open Go.RowKit ND

/-- What is asked of a script number behind another one. -/
def scrOk (last s : Int) : Bool := decide (3 ≤ s ∧ s ≤ 60 ∧ last < s)
theorem scr_go {last c : Int} {xs : List Int} {k : Nat} {R : Bool} (hx : xs[k]? = some c) (h : scrG last (xs.drop k) = R) (h1 : scrOk last c = true) : scrG c (xs.drop (k + 1)) = R := by
  rw [drop_of_get hx, scrG] at h; unfold scrOk at h1; rw [h1, Bool.true_and] at h; exact h
theorem scr_no {last c : Int} {xs : List Int} {k : Nat} {R : Bool} (hx : xs[k]? = some c) (h : scrG last (xs.drop k) = R) (h1 : scrOk last c = false) : R = false := by
  rw [drop_of_get hx, scrG] at h; unfold scrOk at h1; rw [h1, Bool.false_and] at h; exact h.symm
theorem scr_end {last : Int} {xs : List Int} {k : Nat} {R : Bool} (hk : xs.length ≤ k) (h : scrG last (xs.drop k) = R) : R = true := by
  rw [List.drop_eq_nil_of_le hk] at h; exact h.symm
/-- The ways through the test of a script number; j: its index. -/
theorem scr_ways (last s : Int) (j : Nat) (h : j = 0 → last = 2) : (scrOk last s = false ∧ decide (s < 3) = true) ∨ (scrOk last s = false ∧ decide (s < 3) = false ∧ decide (60 < s) = true) ∨
    (scrOk last s = true ∧ decide (s < 3) = false ∧ decide (60 < s) = false ∧ j = 0) ∨ (scrOk last s = false ∧ decide (s < 3) = false ∧ decide (60 < s) = false ∧ 0 < j ∧ decide (s ≤ last) = true) ∨
    (scrOk last s = true ∧ decide (s < 3) = false ∧ decide (60 < s) = false ∧ 0 < j ∧ decide (s ≤ last) = false) := by
  unfold scrOk
  simp only [decide_eq_true_eq, decide_eq_false_iff_not]
  rcases Nat.eq_zero_or_pos j with hj | hj
  · have := h hj; omega
  · omega

set_option maxRecDepth 100000 in
set_option maxHeartbeats 1000000 in
theorem scripts_check (v : Value) (xs : List Int) (w : World) (hv : Ints w w.heap.size .i64 v xs) :
    Calls Tryz.prog 94 #[v] w fun e w' => e = .returned (.bool (scrG 2 xs)) ∧ w = w' := by
  obtain ⟨A, c, rfl, hc1, hc2, _, hcell⟩ := hv
  have HC := Lib.hid hcell
  have hlm : xs.length ≤ 9223372036854775807 := by unfold maxLen at hc2; omega
  clear hcell hc1 hc2
  obtain ⟨R, hR⟩ : ∃ R, R = scrG 2 xs := ⟨_, rfl⟩
  rw [← hR]
  have HR : Hid (scrG 2 (xs.drop 0) = R) := Lib.hid hR.symm
  clear hR
  go_enter Tryz.func94, Tryz.ntmps94
  go_wp2_with fail
  go_loop [7] (fun i => ∃ (j : Nat) (last : Int), j ≤ xs.length ∧ i = .int .i64 j ∧ Hid ((j = 0 → last = 2) ∧ (∀ i, j = i + 1 → xs[i]? = some last)) ∧ Hid (scrG last (xs.drop j) = R)) (fun i => xs.length - (intOf i).toNat)
  case atStart => exact ⟨0, 2, by omega, rfl, Lib.hid ⟨fun _ => rfl, fun i h => by omega⟩, HR⟩
  case round =>
    obtain ⟨j, last, hj, rfl, HL, HS⟩ := hrel
    clear HR
    by_cases hjl : j < xs.length
    · obtain ⟨s, hxj, _⟩ := get_el hjl
      obtain ⟨aj, rfl, ha, d0⟩ := HC.out j _ hxj
      have HX := Lib.hid hxj
      have HL2 : Hid ((j + 1 = 0 → s = 2) ∧ (∀ i, j + 1 = i + 1 → xs[i]? = some s)) := Lib.hid ⟨fun h => by omega, fun i h => by rw [show i = j by omega]; exact hxj⟩
      have r0 : (0 : Int) ≤ (j : Int) := by omega
      have r1 : (j : Int) < (xs.length : Int) := by omega
      clear hxj ha
      rcases scr_ways last s j HL.out.1 with ⟨ho, p0⟩ | ⟨ho, p0, p1⟩ | ⟨ho, p0, p1, p2⟩ | ⟨ho, p0, p1, p2, p3⟩ | ⟨ho, p0, p1, p2, p3⟩
      · have HN := Lib.hid (scr_no HX.out HS.out ho)
        clear ho HL
        go_wp2_with fail
        go_ret
        rw [HN.out]
        exact ⟨rfl, rfl⟩
      · have HN := Lib.hid (scr_no HX.out HS.out ho)
        clear ho HL
        go_wp2_with fail
        go_ret
        rw [HN.out]
        exact ⟨rfl, rfl⟩
      · have HN := Lib.hid (scr_go HX.out HS.out ho)
        have g0 : decide (0 < j) = false := by rw [decide_eq_false_iff_not]; omega
        clear ho HL p2
        go_wp2_with fail
        go_round
        case rel => exact ⟨j + 1, s, by omega, by go_num, HL2, HN⟩
        case measure => simp [intOf]; omega
      · have HN := Lib.hid (scr_no HX.out HS.out ho)
        obtain ⟨j', hj'⟩ : ∃ j', j = j' + 1 := ⟨j - 1, by omega⟩
        have hxp := HL.out.2 j' hj'
        obtain ⟨ap, hap, _, e0⟩ := HC.out j' _ hxp
        cases hap
        have hw : IntKind.i64.wrap ((j : Int) - 1) = j' := by rw [IntWalk.i64_in _ (by omega)]; omega
        have hw2 : (j : Int) - 1 = j' := by omega
        have s0 : (0 : Int) ≤ (j' : Int) := by omega
        have s1 : (j' : Int) < (xs.length : Int) := by omega
        have HJ := Lib.hid hj'
        clear ho HL hxp hj'
        go_wp2_with fail
        go_ret
        rw [HN.out]
        exact ⟨rfl, rfl⟩
      · have HN := Lib.hid (scr_go HX.out HS.out ho)
        obtain ⟨j', hj'⟩ : ∃ j', j = j' + 1 := ⟨j - 1, by omega⟩
        have hxp := HL.out.2 j' hj'
        obtain ⟨ap, hap, _, e0⟩ := HC.out j' _ hxp
        cases hap
        have hw : IntKind.i64.wrap ((j : Int) - 1) = j' := by rw [IntWalk.i64_in _ (by omega)]; omega
        have hw2 : (j : Int) - 1 = j' := by omega
        have s0 : (0 : Int) ≤ (j' : Int) := by omega
        have s1 : (j' : Int) < (xs.length : Int) := by omega
        have HJ := Lib.hid hj'
        clear ho HL hxp hj'
        go_wp2_with fail
        go_round
        case rel => exact ⟨j + 1, s, by omega, by go_num, HL2, HN⟩
        case measure => simp [intOf]; omega
    · have HN := Lib.hid (scr_end (by omega) HS.out)
      go_wp2_with fail
      go_ret
      rw [HN.out]
      exact ⟨rfl, rfl⟩

/-- Rule 4, list by list. -/
def mpTo (p : List Mp × Nat) : Bool := p.1.all (toB (p.2 == 0))
theorem rule4_zip (T : Tab) : T.rule4 = T.mps.zipIdx.all mpTo := by
  unfold Tab.rule4 Tab.mps
  simp only [List.zipIdx_cons, List.zipIdx_nil, List.all_cons, List.all_nil, Bool.and_true]
  rfl
theorem zip_at' {T : Tab} {k : Nat} {p : List Mp × Nat} (h : T.mps.zipIdx[k]? = some p) : p.2 = k ∧ T.mps[k]? = some p.1 := by
  rw [List.getElem?_zipIdx] at h
  cases hm : T.mps[k]? with
  | none => rw [hm] at h; cases h
  | some m => rw [hm] at h; cases h; exact ⟨by simp, rfl⟩
theorem to_ways (k : Nat) (c : Int) (tg : List Int) : (toB (k == 0) (c, tg) = false ∧ decide ((tg.length : Int) < 1) = true) ∨ (toB (k == 0) (c, tg) = false ∧ decide ((tg.length : Int) < 1) = false ∧ decide (18 < (tg.length : Int)) = true) ∨
    (toB (k == 0) (c, tg) = scrG 2 tg ∧ decide ((tg.length : Int) < 1) = false ∧ decide (18 < (tg.length : Int)) = false ∧ ((k : Int) == 0) = true) ∨
    (toB (k == 0) (c, tg) = tg.all scalarB ∧ decide ((tg.length : Int) < 1) = false ∧ decide (18 < (tg.length : Int)) = false ∧ ((k : Int) == 0) = false) := by
  unfold toB
  simp only
  by_cases h1 : tg.length < 1
  · exact .inl ⟨by rw [decide_eq_false (by omega)]; rfl, decide_eq_true (by omega)⟩
  · by_cases h2 : 18 < tg.length
    · exact .inr (.inl ⟨by rw [decide_eq_false (by omega)]; rfl, decide_eq_false (by omega), decide_eq_true (by omega)⟩)
    · rw [decide_eq_true (show 1 ≤ tg.length ∧ tg.length ≤ 18 by omega), Bool.true_and]
      by_cases hk : k = 0
      · subst hk
        exact .inr (.inr (.inl ⟨rfl, decide_eq_false (by omega), decide_eq_false (by omega), rfl⟩))
      · have e2 : (k == 0) = false := by rw [beq_eq_false_iff_ne]; exact hk
        have e : ((k : Int) == 0) = false := by rw [beq_eq_false_iff_ne]; omega
        rw [e, e2]
        exact .inr (.inr (.inr ⟨rfl, decide_eq_false (by omega), decide_eq_false (by omega), rfl⟩))
theorem len_ways (c : Int) : (scalarB c = true ∧ ((lenC c : Int) == 0) = false) ∨ (scalarB c = false ∧ ((lenC c : Int) == 0) = true) := by
  cases h : scalarB c
  · exact .inr ⟨rfl, by rw [beq_iff_eq]; have := lenC_zero.2 h; omega⟩
  · exact .inl ⟨rfl, by rw [beq_eq_false_iff_ne]; intro e; have := lenC_zero.1 (show lenC c = 0 by omega); rw [h] at this; cases this⟩

set_option maxRecDepth 100000 in
set_option maxHeartbeats 4000000 in
theorem targets_any (t : Tv) (T : Tab) (w : World) (ht : TabR w w.heap.size t T) :
    Calls Tryz.prog 58 #[t.val] w fun e w' => e = .returned (.bool T.rule4) ∧ Below w.heap.size w w' := by
  obtain ⟨A0, A1, A2, A3, A4, A5, A6, A7, A8, A9, A10, A11, k0, k1, k2, k3, k4, k5, k6, k7, k8, k9, k10, k11, rfl⟩ := ht.shape
  have HR := Lib.hid (fun o : Obj => ht.later ((Below.refl _ _).alloc (Nat.le_refl _) o))
  clear ht
  obtain ⟨R, hR⟩ : ∃ R, R = T.rule4 := ⟨_, rfl⟩
  rw [← hR]
  have HR2 : Hid ((T.mps.zipIdx.drop 0).all mpTo = R) := Lib.hid (by rw [hR, rule4_zip]; rfl)
  clear hR
  go_enter Tryz.func58, Tryz.ntmps58
  go_wp2_with fail
  refine (mappings_any _ T _ (HR.out _)).mono ?_
  rintro e w2 ⟨am, rfl, hm, b2⟩
  have HM := Lib.hid hm.2
  have hma := hm.1
  have hbel2 := below_next ((Below.refl _ _).alloc (Nat.le_refl _) _) b2
  clear hm b2 HR
  go_wp2_with fail
  go_loopw [12] (fun i wr => ∃ (k : Nat), k ≤ 4 ∧ i = .int .i64 k ∧ Hid ((T.mps.zipIdx.drop k).all mpTo = R) ∧ Below w2.heap.size w2 wr) (fun i _ => 4 - (intOf i).toNat)
  case atStart => exact ⟨0, by omega, rfl, HR2, Below.refl _ _⟩
  case round =>
    obtain ⟨k, hk, rfl, HS, hbel⟩ := hrel
    clear HR2
    by_cases hlt : k < 4
    · obtain ⟨⟨l, k'⟩, hxk, _⟩ := get_el (xs := T.mps.zipIdx) (k := k) hlt
      obtain ⟨hk', hxm⟩ := zip_at' hxk
      simp only at hk' hxm
      subst hk'
      obtain ⟨v, d0, hv⟩ := HM.out k' _ hxm
      obtain ⟨A, c, rfl, hc1, hc2, _, hcell⟩ := id hv
      have HCE := Lib.hid hcell
      have hlm : l.length ≤ 9223372036854775807 := by unfold maxLen at hc2; omega
      have e0 := (hbel.cell (p := am.add k') (by rw [block_of_add]; exact hma)).trans d0
      have HX := Lib.hid hxk
      obtain ⟨Ro, hRo⟩ : ∃ Ro, Ro = l.all (toB (k' == 0)) := ⟨_, rfl⟩
      have HO : Hid ((l.drop 0).all (toB (k' == 0)) = Ro) := Lib.hid hRo.symm
      have HCO : Hid (mpTo (l, k') = Ro) := Lib.hid hRo.symm
      clear d0 hxk hxm hcell hv hc1 hc2 hRo
      have q0 : (0 : Int) ≤ (k' : Int) := by omega
      have q1 : (k' : Int) < (4 : Int) := by omega
      go_wp2_with fail
      clear e0
      go_loopw [19] (fun i wr => ∃ (j : Nat), j ≤ l.length ∧ i = .int .i64 j ∧ Hid ((l.drop j).all (toB (k' == 0)) = Ro) ∧ Below w2.heap.size w2 wr) (fun i _ => l.length - (intOf i).toNat)
      case atStart => exact ⟨0, by omega, rfl, HO, hbel⟩
      case round =>
        obtain ⟨j, hj, rfl, HSj, hbelj⟩ := hrel
        clear HO hbel
        by_cases hjl : j < l.length
        · obtain ⟨⟨cc, tg⟩, hxj, _⟩ := get_el hjl
          obtain ⟨aj, sv, rfl, ha, d0, d1, hto⟩ := HCE.out j _ hxj
          simp only at d0 d1 hto
          obtain ⟨A', c', rfl, hd1, hd2, _, hcell⟩ := id hto
          have HTO := Lib.hid (fun o => (hto.below hbelj |>.more hbelj.size).later ((Below.refl _ _).alloc (Nat.le_refl _) o))
          have HTC := Lib.hid hcell
          obtain ⟨e0, e1⟩ := map_cells hbelj ha d0 d1
          have HXj := Lib.hid hxj
          have hlt2 : tg.length ≤ 9223372036854775807 := by unfold maxLen at hd2; omega
          clear d0 d1 hxj ha hto hcell hd1 hd2
          have r0 : (0 : Int) ≤ (j : Int) := by omega
          have r1 : (j : Int) < (l.length : Int) := by omega
          rcases to_ways k' cc tg with ⟨ho, p0⟩ | ⟨ho, p0, p1⟩ | ⟨ho, p0, p1, p2⟩ | ⟨ho, p0, p1, p2⟩
          · have HN := Lib.hid (each_no HXj.out HSj.out ho)
            clear ho HTO
            go_wp2_with fail
            go_ret
            rw [each_no HX.out HS.out (HCO.out.trans HN.out)]
            exact ⟨rfl, below_next hbel2 (hbelj.alloc hbelj.size _)⟩
          · have HN := Lib.hid (each_no HXj.out HSj.out ho)
            clear ho HTO
            go_wp2_with fail
            go_ret
            rw [each_no HX.out HS.out (HCO.out.trans HN.out)]
            exact ⟨rfl, below_next hbel2 (hbelj.alloc hbelj.size _)⟩
          · have HSC := Lib.hid (fun W h => scripts_check (.slice A' tg.length c') tg W h)
            cases hsc : scrG 2 tg
            · rw [hsc] at HSC
              have HN := Lib.hid (each_no HXj.out HSj.out (ho.trans hsc))
              clear ho hsc
              go_wp2_with fail
              refine (HSC.out _ (HTO.out _)).mono ?_
              rintro e w' ⟨rfl, rfl⟩
              go_wp2_with fail
              go_ret
              rw [each_no HX.out HS.out (HCO.out.trans HN.out)]
              exact ⟨rfl, below_next hbel2 (hbelj.alloc hbelj.size _)⟩
            · rw [hsc] at HSC
              have HN := Lib.hid (each_go HXj.out HSj.out (ho.trans hsc))
              clear ho hsc
              go_wp2_with fail
              refine (HSC.out _ (HTO.out _)).mono ?_
              rintro e w' ⟨rfl, rfl⟩
              go_wp2_with fail
              go_roundw
              case rel => exact ⟨j + 1, by omega, by go_num, HN, hbelj.alloc hbelj.size _⟩
              case measure => simp [intOf]; omega
          · obtain ⟨Rs, hRs⟩ : ∃ Rs, Rs = tg.all scalarB := ⟨_, rfl⟩
            have HO : Hid ((tg.drop 0).all scalarB = Rs) := Lib.hid hRs.symm
            have HTS : Hid (toB (k' == 0) (cc, tg) = Rs) := Lib.hid (ho.trans hRs.symm)
            have hbelw := hbelj.alloc hbelj.size (.cells #[.int .i64 cc, .slice A' tg.length c'] 51)
            clear ho hRs HTO
            go_wp2_with fail
            generalize World.alloc _ (.cells #[.int .i64 cc, .slice A' tg.length c'] 51) = wo at *
            clear e0 e1 hbelj
            go_loop [42] (fun i => ∃ (m : Nat), m ≤ tg.length ∧ i = .int .i64 m ∧ Hid ((tg.drop m).all scalarB = Rs)) (fun i => tg.length - (intOf i).toNat)
            case atStart => exact ⟨0, by omega, rfl, HO⟩
            case round =>
              obtain ⟨m, hm, rfl, HSm⟩ := hrel
              clear HO
              by_cases hml : m < tg.length
              · obtain ⟨x, hxm, _⟩ := get_el hml
                obtain ⟨ax, rfl, hax, d0⟩ := HTC.out m _ hxm
                have e0 := (hbelw.cell (p := ax.add m) (by rw [block_of_add]; exact hax)).trans d0
                have HXm := Lib.hid hxm
                have s0 : (0 : Int) ≤ (m : Int) := by omega
                have s1 : (m : Int) < (tg.length : Int) := by omega
                have HLE := Lib.hid (fun W => length_any x W)
                clear d0 hxm hax
                rcases len_ways x with ⟨hx, pz⟩ | ⟨hx, pz⟩
                · have HN := Lib.hid (each_go HXm.out HSm.out hx)
                  clear hx
                  go_wp2_with fail
                  refine (HLE.out _).mono ?_
                  rintro e w' ⟨rfl, rfl⟩
                  go_wp2_with fail
                  go_round
                  case rel => exact ⟨m + 1, by omega, by go_num, HN⟩
                  case measure => simp [intOf]; omega
                · have HN := Lib.hid (each_no HXm.out HSm.out hx)
                  clear hx
                  go_wp2_with fail
                  refine (HLE.out _).mono ?_
                  rintro e w' ⟨rfl, rfl⟩
                  go_wp2_with fail
                  go_ret
                  rw [each_no HX.out HS.out (HCO.out.trans (each_no HXj.out HSj.out (HTS.out.trans HN.out)))]
                  exact ⟨rfl, below_next hbel2 hbelw⟩
              · have HN := Lib.hid (each_go HXj.out HSj.out (HTS.out.trans (each_end (by omega) HSm.out)))
                go_wp2_with fail
                go_roundw
                case rel => exact ⟨j + 1, by omega, by go_num, HN, hbelw⟩
                case measure => simp [intOf]; omega
        · have HN := Lib.hid (each_go HX.out HS.out (HCO.out.trans (each_end (by omega) HSj.out)))
          go_wp2_with fail
          go_roundw
          case rel => exact ⟨k' + 1, by omega, by go_num, HN, hbelj⟩
          case measure => simp [intOf]; omega
    · have HN := Lib.hid (each_end (by show 4 ≤ k; omega) HS.out)
      go_wp2_with fail
      go_ret
      rw [HN.out]
      exact ⟨rfl, below_next hbel2 hbel⟩
end Go.Proofs.YtikcfoobfobmnaaGreatDoor
/-
  The walks through table.plain, table.prototyped and table.Check.
-/
namespace Go.Proofs.YtikcfoobfobmnaaGreatDoor
open Go.RowKit ND

set_option maxRecDepth 100000 in
set_option maxHeartbeats 1000000 in
theorem plain_any (t : Tv) (T : Tab) (hsh : Shape T) (hne : ∀ m ∈ T.decomps, m.2 ≠ [] ∧ m.2.length ≤ 1000) (c : Int) (w : World) (ht : TabR w w.heap.size t T) :
    Calls Tryz.prog 100 #[t.val, .int .i64 c] w fun e w' => e = .returned (.bool (T.plainB c)) ∧ Below w.heap.size w w' := by
  have HT := Lib.hid (fun W (h : Below w.heap.size w W) => ht.later h)
  have HI := Lib.hid (fun W h => ignorable_any t T c 0 1114111 W h hsh.c6.1 hsh.c6.2.1)
  obtain ⟨tc, htc⟩ : ∃ tc, tc = t.cells := ⟨_, rfl⟩
  obtain ⟨A0, A1, A2, A3, A4, A5, A6, A7, A8, A9, A10, A11, k0, k1, k2, k3, k4, k5, k6, k7, k8, k9, k10, k11, rfl⟩ := ht.shape
  have HF := Lib.hid (fun W (h : Mapps W W.heap.size (.slice A9 T.decomps.length k9) T.decomps) => find_any _ T.decomps c W h (keysB_sort hsh.kd) (fun m hm => (hne m hm).1) hsh.ld)
  have HTC := Lib.hid htc
  have heq := fun (w : World) (a : Option Addr) (n c : Nat) => Lib.run_eql_slice_nil (P := Tryz.prog) w 22 3 a n c 0 0 Tryz.underlying22
  have HB0 := Lib.hid (show Blk (w.alloc (.cells tc 29)) w.heap.size 29 tc from Blk.new _ _ _)
  rw [htc] at HB0
  clear ht htc hne hsh
  obtain ⟨R, hR⟩ : ∃ R, R = T.plainB c := ⟨_, rfl⟩
  rw [← hR]
  have HR : Hid (R = (decide (findL T.decomps c = []) && !T.ignB c)) := Lib.hid hR
  clear hR
  go_enter Tryz.func100, Tryz.ntmps100
  go_wp2_with fail
  refine (HF.out _ (HT.out _ ((Below.refl _ _).alloc (Nat.le_refl _) _)).r9).mono ?_
  rintro e w1 ⟨u, rfl, hu, hun, b1⟩
  have HB1 := Lib.hid (HB0.out.later b1)
  have hbel1 := below_next ((Below.refl w.heap.size w).alloc (Nat.le_refl _) _) b1
  rcases nilB_ways hu hun with ⟨hn, rfl⟩ | ⟨hn, ad, cu, rfl⟩
  · have HR2 : Hid (R = !T.ignB c) := Lib.hid (by rw [HR.out, decide_eq_true hn, Bool.true_and])
    obtain ⟨x0, x1, x2, x3, x4, x5, x6, x7, x8, x9, x10, x11⟩ := HB1.out.tab
    have HIW := Lib.hid (HI.out w1 (HT.out _ hbel1))
    clear hu hun hn HB0 HR b1
    go_wp2_with fail
    refine HIW.out.mono ?_
    rintro e w2 ⟨rfl, b2⟩
    clear x0 x1 x2 x3 x4 x5 x6 x7 x8 x9 x10 x11
    go_wp2_with fail
    go_ret
    rw [HR2.out]
    exact ⟨rfl, below_next hbel1 b2⟩
  · have HR2 : Hid (R = false) := Lib.hid (by rw [HR.out, decide_eq_false hn, Bool.false_and])
    clear hu hun hn HB0 HR b1
    go_wp2_with fail
    go_ret
    rw [HR2.out]
    exact ⟨rfl, hbel1⟩

theorem pel_ways (T : Tab) (c : Int) : (T.protoEl c = false ∧ T.plainB c = false) ∨ (T.protoEl c = false ∧ T.plainB c = true ∧ sylB c = true) ∨ (T.plainB c = true ∧ sylB c = false ∧ T.protoEl c = decide (findL T.prototypes c = [])) := by
  unfold Tab.protoEl
  cases T.plainB c <;> cases sylB c <;> simp

set_option maxRecDepth 100000 in
set_option maxHeartbeats 4000000 in
theorem prototyped_any (t : Tv) (T : Tab) (hsh : Shape T) (hsz : Sized T) (w : World) (ht : TabR w w.heap.size t T) :
    Calls Tryz.prog 63 #[t.val] w fun e w' => e = .returned (.bool T.rule9) ∧ Below w.heap.size w w' := by
  obtain ⟨tc, htc⟩ : ∃ tc, tc = t.cells := ⟨_, rfl⟩
  have HPL := Lib.hid (fun c W h => plain_any t T hsh hsz.nd c W h)
  have HT := Lib.hid (fun W (h : Below w.heap.size w W) => ht.later h)
  have hmp := ht.r11
  obtain ⟨A0, A1, A2, A3, A4, A5, A6, A7, A8, A9, A10, A11, k0, k1, k2, k3, k4, k5, k6, k7, k8, k9, k10, k11, rfl⟩ := ht.shape
  have HTC := Lib.hid htc
  have HFP := Lib.hid (fun c W (h : Mapps W W.heap.size (.slice A11 T.prototypes.length k11) T.prototypes) => find_any _ T.prototypes c W h (keysB_sort hsh.kp) (fun m hm => (hsz.np m hm).1) hsh.lp)
  obtain ⟨B, cq, hB, _, _, _, hcell2⟩ := hmp
  cases hB
  have HM := Lib.hid hcell2
  have hlp := hsh.lp
  have hnq := fun (w : World) (a : Option Addr) (n c : Nat) => run_neq_slice_nil_any (P := Tryz.prog) w 22 3 a n c 0 0 Tryz.underlying22
  clear ht htc hcell2 hsh hsz
  obtain ⟨R, hR⟩ : ∃ R, R = T.rule9 := ⟨_, rfl⟩
  rw [← hR]
  have HR0 : Hid ((T.prototypes.drop 0).all T.protoOk = R) := Lib.hid hR.symm
  clear hR
  go_enter Tryz.func63, Tryz.ntmps63
  go_wp2_with fail
  go_loopw [10] (fun i wr => ∃ (j : Nat), j ≤ T.prototypes.length ∧ i = .int .i64 j ∧ Hid ((T.prototypes.drop j).all T.protoOk = R) ∧ Below w.heap.size w wr ∧ Hid (Blk wr w.heap.size 29 tc)) (fun i _ => T.prototypes.length - (intOf i).toNat)
  case atStart => exact ⟨0, by omega, rfl, HR0, (Below.refl _ _).alloc (Nat.le_refl _) _, Lib.hid (by rw [HTC.out]; exact Blk.new _ _ _)⟩
  case round =>
    obtain ⟨j, hj, rfl, HS, hbel, HB⟩ := hrel
    clear HR0
    by_cases hjl : j < T.prototypes.length
    · obtain ⟨⟨cc, tg⟩, hxj, _⟩ := get_el hjl
      obtain ⟨aj, sv, rfl, ha, d0, d1, hto⟩ := HM.out j _ hxj
      simp only at d0 d1 hto
      obtain ⟨A', c', rfl, he1, he2, _, hcl⟩ := id hto
      have HTO := Lib.hid hcl
      have hlt : tg.length ≤ 9223372036854775807 := by unfold maxLen at he2; omega
      obtain ⟨e0, e1⟩ := map_cells hbel ha d0 d1
      have HX := Lib.hid hxj
      have hbelw := hbel.alloc hbel.size (.cells #[.int .i64 cc, .slice A' tg.length c'] 51)
      have HB' := Lib.hid (HB.out.alloc (.cells #[.int .i64 cc, .slice A' tg.length c'] 51))
      obtain ⟨x0, x1, x2, x3, x4, x5, x6, x7, x8, x9, x10, x11⟩ := (show Blk _ _ _ #[_, _, _, _, _, _, _, _, _, _, _, _] from by have h := HB'.out; rw [HTC.out] at h; exact h).tab
      have HP1 := Lib.hid (HPL.out cc _ (HT.out _ hbelw))
      clear d0 d1 hxj ha hto hcl he1 he2 HB
      have r0 : (0 : Int) ≤ (j : Int) := by omega
      have r1 : (j : Int) < (T.prototypes.length : Int) := by omega
      cases hpl : T.plainB cc
      · have HN := Lib.hid (each_no HX.out HS.out (by unfold Tab.protoOk; simp only; rw [hpl]; rfl))
        rw [hpl] at HP1
        clear hpl
        go_wp2_with fail
        refine HP1.out.mono ?_
        rintro e w2 ⟨rfl, b2⟩
        clear x0 x1 x2 x3 x4 x5 x6 x7 x8 x9 x10 x11 e0 e1
        go_wp2_with fail
        go_ret
        rw [HN.out]
        exact ⟨rfl, below_next hbelw b2⟩
      · obtain ⟨Rt, hRt⟩ : ∃ Rt, Rt = tg.all T.protoEl := ⟨_, rfl⟩
        have HO : Hid ((tg.drop 0).all T.protoEl = Rt) := Lib.hid hRt.symm
        have HOK : Hid (T.protoOk (cc, tg) = Rt) := Lib.hid (by rw [hRt]; unfold Tab.protoOk; simp only; rw [hpl, Bool.true_and])
        rw [hpl] at HP1
        clear hpl hRt
        go_wp2_with fail
        refine HP1.out.mono ?_
        rintro e w2 ⟨rfl, b2⟩
        have hbel2 := below_next hbelw b2
        have HB2 := Lib.hid (HB'.out.later b2)
        have m1 := ((Blk.new wr 51 #[.int .i64 cc, .slice A' tg.length c']).later b2).at_ (i := 1) (u := .slice A' tg.length c') rfl
        clear x0 x1 x2 x3 x4 x5 x6 x7 x8 x9 x10 x11 e0 e1 hbel hbelw HB' b2
        go_wp2_with fail
        clear m1
        go_loopw [22] (fun i wr => ∃ (q : Nat), q ≤ tg.length ∧ i = .int .i64 q ∧ Hid ((tg.drop q).all T.protoEl = Rt) ∧ Below w.heap.size w wr ∧ Hid (Blk wr w.heap.size 29 tc)) (fun i _ => tg.length - (intOf i).toNat)
        case atStart => exact ⟨0, by omega, rfl, HO, hbel2, HB2⟩
        case round =>
          obtain ⟨q, hq, rfl, HSq, hbelq, HBq⟩ := hrel
          clear HO HB2 hbel2
          by_cases hql : q < tg.length
          · obtain ⟨y, hyq, _⟩ := get_el hql
            obtain ⟨ay, rfl, hay, d0⟩ := HTO.out q _ hyq
            have e0 := (hbelq.cell (p := ay.add q) (by rw [block_of_add]; exact hay)).trans d0
            have HXq := Lib.hid hyq
            obtain ⟨x0, x1, x2, x3, x4, x5, x6, x7, x8, x9, x10, x11⟩ := (show Blk _ _ _ #[_, _, _, _, _, _, _, _, _, _, _, _] from by have h := HBq.out; rw [HTC.out] at h; exact h).tab
            have HP2 := Lib.hid (HPL.out y _ (HT.out _ hbelq))
            have HSY := Lib.hid (fun W => syl_any y W)
            clear d0 hyq hay
            have s0 : (0 : Int) ≤ (q : Int) := by omega
            have s1 : (q : Int) < (tg.length : Int) := by omega
            rcases pel_ways T y with ⟨ho, u0⟩ | ⟨ho, u0, u1⟩ | ⟨u0, u1, ho⟩
            · have HN := Lib.hid (each_no HXq.out HSq.out ho)
              rw [u0] at HP2
              clear ho u0
              go_wp2_with fail
              refine HP2.out.mono ?_
              rintro e w3 ⟨rfl, b3⟩
              clear x0 x1 x2 x3 x4 x5 x6 x7 x8 x9 x10 x11 e0
              go_wp2_with fail
              go_ret
              rw [each_no HX.out HS.out (HOK.out.trans HN.out)]
              exact ⟨rfl, below_next hbelq b3⟩
            · have HN := Lib.hid (each_no HXq.out HSq.out ho)
              rw [u0] at HP2
              rw [u1] at HSY
              clear ho u0 u1
              go_wp2_with fail
              refine HP2.out.mono ?_
              rintro e w3 ⟨rfl, b3⟩
              clear x0 x1 x2 x3 x4 x5 x6 x7 x8 x9 x10 x11 e0
              go_wp2_with fail
              refine (HSY.out _).mono ?_
              rintro e w4 ⟨rfl, rfl⟩
              go_wp2_with fail
              go_ret
              rw [each_no HX.out HS.out (HOK.out.trans HN.out)]
              exact ⟨rfl, below_next hbelq b3⟩
            · have HOE := Lib.hid ho
              rw [u0] at HP2
              rw [u1] at HSY
              clear ho u0 u1
              go_wp2_with fail
              refine HP2.out.mono ?_
              rintro e w3 ⟨rfl, b3⟩
              have hbel3 := below_next hbelq b3
              have HB3 := Lib.hid (HBq.out.later b3)
              have y11 := (show Blk _ _ _ #[_, _, _, _, _, _, _, _, _, _, _, _] from by have h := HB3.out; rw [HTC.out] at h; exact h).at_ (i := 11) rfl
              have HFQ := Lib.hid (HFP.out y _ (HT.out _ hbel3).r11)
              clear x0 x1 x2 x3 x4 x5 x6 x7 x8 x9 x10 x11 e0 b3 HBq
              go_wp2_with fail
              refine (HSY.out _).mono ?_
              rintro e w4 ⟨rfl, rfl⟩
              go_wp2_with fail
              refine HFQ.out.mono ?_
              rintro e w4 ⟨u, rfl, hu, hun, b4⟩
              rcases nilB_ways hu hun with ⟨hn, rfl⟩ | ⟨hn, adu, cu, rfl⟩
              · have HN := Lib.hid (each_go HXq.out HSq.out (HOE.out.trans (decide_eq_true hn)))
                have HB4 := Lib.hid (HB3.out.later b4)
                clear hu hun hn y11 HB3
                go_wp2_with fail
                go_roundw
                case rel => exact ⟨q + 1, by omega, by go_num, HN, below_next hbel3 b4, HB4⟩
                case measure => simp [intOf]; omega
              · have HN := Lib.hid (each_no HXq.out HSq.out (HOE.out.trans (decide_eq_false hn)))
                clear hu hun hn y11 HB3
                go_wp2_with fail
                go_ret
                rw [each_no HX.out HS.out (HOK.out.trans HN.out)]
                exact ⟨rfl, below_next hbel3 b4⟩
          · have HN := Lib.hid (each_go HX.out HS.out (HOK.out.trans (each_end (by omega) HSq.out)))
            go_wp2_with fail
            go_roundw
            case rel => exact ⟨j + 1, by omega, by go_num, HN, hbelq, HBq⟩
            case measure => simp [intOf]; omega
    · have HN := Lib.hid (each_end (by omega) HS.out)
      go_wp2_with fail
      go_ret
      rw [HN.out]
      exact ⟨rfl, hbel⟩
end Go.Proofs.YtikcfoobfobmnaaGreatDoor
