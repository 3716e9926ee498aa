/-
  The walk through the reference's sized: rule 4.
-/
import Derived.Test.YtkdhldhbjomiaaaDoorTabR4
namespace Go.Proofs.YtkdhldhbjomiaaaDoor
open Go.RowKit ND

set_option maxRecDepth 100000 in
set_option maxHeartbeats 4000000 in
theorem sized_any (t : Tv) (T : Tab) (w : World) (ht : TabR w w.heap.size t T) :
    Calls Tryd.prog 44 #[t.val] w fun e w' => e = .returned (.bool T.rule4) ∧ Below w.heap.size w w' := by
  obtain ⟨A0, A1, A2, A3, A4, A5, A6, A7, A8, A9, A10, A11, k0, k1, k2, k3, k4, k5, k6, k7, k8, k9, k10, k11, rfl⟩ := ht.shape
  have HR := Lib.hid (fun o : Obj => ht.later ((Below.refl _ _).alloc (Nat.le_refl _) o))
  clear ht
  obtain ⟨R, hR⟩ : ∃ R, R = T.rule4 := ⟨_, rfl⟩
  rw [← hR]
  have HR2 : Hid ((T.mps.zipIdx.drop 0).all mpTo = R) := Lib.hid (by rw [hR, rule4_zip]; rfl)
  clear hR
  go_enter Tryd.func44, Tryd.ntmps44
  go_wp2_with fail
  refine (refMappings_any _ T _ (HR.out _)).mono ?_
  rintro e w2 ⟨am, rfl, hm, b2⟩
  have HM := Lib.hid hm.2
  have hma := hm.1
  have hbel2 := below_next ((Below.refl _ _).alloc (Nat.le_refl _) _) b2
  clear hm b2 HR
  go_wp2_with fail
  go_loopw [14] (fun i wr => ∃ (k : Nat), k ≤ 4 ∧ i = .int .i64 k ∧ Hid ((T.mps.zipIdx.drop k).all mpTo = R) ∧ Below w2.heap.size w2 wr) (fun i _ => 4 - (intOf i).toNat)
  case atStart => exact ⟨0, by omega, rfl, HR2, Below.refl _ _⟩
  case round =>
    obtain ⟨k, hk, rfl, HS, hbel⟩ := hrel
    clear HR2
    by_cases hlt : k < 4
    · obtain ⟨⟨l, k'⟩, hxk, _⟩ := get_el (xs := T.mps.zipIdx) (k := k) hlt
      obtain ⟨hk', hxm⟩ := zip_at' hxk
      simp only at hk' hxm
      subst hk'
      obtain ⟨v, d0, hv⟩ := HM.out k' _ hxm
      obtain ⟨A, c, rfl, hc1, hc2, _, hcell⟩ := id hv
      have HCE := Lib.hid hcell
      have hlm : l.length ≤ 9223372036854775807 := by unfold maxLen at hc2; omega
      have e0 := (hbel.cell (p := am.add k') (by rw [block_of_add]; exact hma)).trans d0
      have HX := Lib.hid hxk
      obtain ⟨Ro, hRo⟩ : ∃ Ro, Ro = l.all (toB (k' == 0)) := ⟨_, rfl⟩
      have HO : Hid ((l.drop 0).all (toB (k' == 0)) = Ro) := Lib.hid hRo.symm
      have HCO : Hid (mpTo (l, k') = Ro) := Lib.hid hRo.symm
      clear d0 hxk hxm hcell hv hc1 hc2 hRo
      have q0 : (0 : Int) ≤ (k' : Int) := by omega
      have q1 : (k' : Int) < (4 : Int) := by omega
      go_wp2_with fail
      clear e0
      go_loopw [21] (fun i wr => ∃ (j : Nat), j ≤ l.length ∧ i = .int .i64 j ∧ Hid ((l.drop j).all (toB (k' == 0)) = Ro) ∧ Below w2.heap.size w2 wr) (fun i _ => l.length - (intOf i).toNat)
      case atStart => exact ⟨0, by omega, rfl, HO, hbel⟩
      case round =>
        obtain ⟨j, hj, rfl, HSj, hbelj⟩ := hrel
        clear HO hbel
        by_cases hjl : j < l.length
        · obtain ⟨⟨cc, to⟩, hxj, _⟩ := get_el hjl
          obtain ⟨aj, sv, rfl, ha, d0, d1, hto⟩ := HCE.out j _ hxj
          simp only at d0 d1 hto
          obtain ⟨A', c', rfl, hd1, hd2, _, hcell⟩ := id hto
          have HTC := Lib.hid hcell
          obtain ⟨e0, e1⟩ := map_cells hbelj ha d0 d1
          have HXj := Lib.hid hxj
          have hlt2 : to.length ≤ 9223372036854775807 := by unfold maxLen at hd2; omega
          clear d0 d1 hxj ha hto hcell hd1 hd2
          have r0 : (0 : Int) ≤ (j : Int) := by omega
          have r1 : (j : Int) < (l.length : Int) := by omega
          rcases to_ways k' cc to with ⟨ho, p0⟩ | ⟨ho, p0, p1⟩ | ⟨ho, p0, p1, p2⟩ | ⟨ho, p0, p1, p2⟩
          · have HN := Lib.hid (each_no HXj.out HSj.out ho)
            clear ho
            go_wp2_with fail
            go_ret
            rw [each_no HX.out HS.out (HCO.out.trans HN.out)]
            exact ⟨rfl, below_next hbel2 (hbelj.alloc hbelj.size _)⟩
          · have HN := Lib.hid (each_no HXj.out HSj.out ho)
            clear ho
            go_wp2_with fail
            go_ret
            rw [each_no HX.out HS.out (HCO.out.trans HN.out)]
            exact ⟨rfl, below_next hbel2 (hbelj.alloc hbelj.size _)⟩
          · obtain ⟨Rs, hRs⟩ : ∃ Rs, Rs = scrG 2 to := ⟨_, rfl⟩
            have HO : Hid (scrG 2 (to.drop 0) = Rs) := Lib.hid hRs.symm
            have HTS : Hid (toB (k' == 0) (cc, to) = Rs) := Lib.hid (ho.trans hRs.symm)
            have hbelw := hbelj.alloc hbelj.size (.cells #[.int .i64 cc, .slice A' to.length c'] 54)
            have HTB := Lib.hid (Blk.new wr 54 #[.int .i64 cc, .slice A' to.length c'])
            clear ho hRs
            go_wp2_with fail
            have HB1 := Lib.hid (HTB.out.at_ (i := 1) (u := .slice A' to.length c') rfl)
            clear HTB
            generalize World.alloc _ (.cells #[.int .i64 cc, .slice A' to.length c'] 54) = wo at *
            clear e0 e1 hbelj
            go_loop [38] (fun i => ∃ (m : Nat) (last : Int), m ≤ to.length ∧ i = .int .i64 m ∧ Hid ((m = 0 → last = 2) ∧ (∀ i, m = i + 1 → to[i]? = some last)) ∧ Hid (scrG last (to.drop m) = Rs)) (fun i => to.length - (intOf i).toNat)
            case atStart => exact ⟨0, 2, by omega, rfl, Lib.hid ⟨fun _ => rfl, fun i h => by omega⟩, HO⟩
            case round =>
              obtain ⟨m, last, hm, rfl, HL, HSm⟩ := hrel
              clear HO
              by_cases hml : m < to.length
              · obtain ⟨x, hxm, _⟩ := get_el hml
                obtain ⟨ax, rfl, hax, d0⟩ := HTC.out m _ hxm
                have e0 := (hbelw.cell (p := ax.add m) (by rw [block_of_add]; exact hax)).trans d0
                have HXm := Lib.hid hxm
                have HL2 : Hid ((m + 1 = 0 → x = 2) ∧ (∀ i, m + 1 = i + 1 → to[i]? = some x)) := Lib.hid ⟨fun h => by omega, fun i h => by rw [show i = m by omega]; exact hxm⟩
                have s0 : (0 : Int) ≤ (m : Int) := by omega
                have s1 : (m : Int) < (to.length : Int) := by omega
                clear d0 hxm
                rcases scr_ways last x m HL.out.1 with ⟨ho, u0⟩ | ⟨ho, u0, u1⟩ | ⟨ho, u0, u1, u2⟩ | ⟨ho, u0, u1, u2, u3⟩ | ⟨ho, u0, u1, u2, u3⟩
                · have HN := Lib.hid (scr_no HXm.out HSm.out ho)
                  clear ho HL
                  go_wp2_with fail
                  go_ret
                  rw [each_no HX.out HS.out (HCO.out.trans (each_no HXj.out HSj.out (HTS.out.trans HN.out)))]
                  exact ⟨rfl, below_next hbel2 hbelw⟩
                · have HN := Lib.hid (scr_no HXm.out HSm.out ho)
                  clear ho HL
                  go_wp2_with fail
                  go_ret
                  rw [each_no HX.out HS.out (HCO.out.trans (each_no HXj.out HSj.out (HTS.out.trans HN.out)))]
                  exact ⟨rfl, below_next hbel2 hbelw⟩
                · have HN := Lib.hid (scr_go HXm.out HSm.out ho)
                  have g0 : decide (0 < m) = false := by rw [decide_eq_false_iff_not]; omega
                  have g1 : decide (0 < (k' : Int)) = false := by rw [beq_iff_eq] at p2; rw [decide_eq_false_iff_not]; omega
                  have g2 : decide (0 < k') = false := by rw [beq_iff_eq] at p2; rw [decide_eq_false_iff_not]; omega
                  clear ho HL u2
                  go_wp2_with fail
                  go_round
                  case rel => exact ⟨m + 1, x, by omega, by go_num, HL2, HN⟩
                  case measure => simp [intOf]; omega
                · have HN := Lib.hid (scr_no HXm.out HSm.out ho)
                  obtain ⟨j', hj'⟩ : ∃ j', m = j' + 1 := ⟨m - 1, by omega⟩
                  have hxp := HL.out.2 j' hj'
                  obtain ⟨ap, hap, _, d0⟩ := HTC.out j' _ hxp
                  cases hap
                  have f0 := (hbelw.cell (p := ax.add j') (by rw [block_of_add]; exact hax)).trans d0
                  have hw2 : (m : Int) - 1 = j' := by omega
                  have v0 : (0 : Int) ≤ (j' : Int) := by omega
                  have v1 : (j' : Int) < (to.length : Int) := by omega
                  have b1 := HB1.out
                  have HJ := Lib.hid hj'
                  clear ho HL hxp hj' d0
                  go_wp2_with fail
                  go_ret
                  rw [each_no HX.out HS.out (HCO.out.trans (each_no HXj.out HSj.out (HTS.out.trans HN.out)))]
                  exact ⟨rfl, below_next hbel2 hbelw⟩
                · have HN := Lib.hid (scr_go HXm.out HSm.out ho)
                  obtain ⟨j', hj'⟩ : ∃ j', m = j' + 1 := ⟨m - 1, by omega⟩
                  have hxp := HL.out.2 j' hj'
                  obtain ⟨ap, hap, _, d0⟩ := HTC.out j' _ hxp
                  cases hap
                  have f0 := (hbelw.cell (p := ax.add j') (by rw [block_of_add]; exact hax)).trans d0
                  have hw2 : (m : Int) - 1 = j' := by omega
                  have v0 : (0 : Int) ≤ (j' : Int) := by omega
                  have v1 : (j' : Int) < (to.length : Int) := by omega
                  have b1 := HB1.out
                  have g1 : decide (0 < (k' : Int)) = false := by rw [beq_iff_eq] at p2; rw [decide_eq_false_iff_not]; omega
                  have g2 : decide (0 < k') = false := by rw [beq_iff_eq] at p2; rw [decide_eq_false_iff_not]; omega
                  have HJ := Lib.hid hj'
                  clear ho HL hxp hj' d0
                  go_wp2_with fail
                  go_round
                  case rel => exact ⟨m + 1, x, by omega, by go_num, HL2, HN⟩
                  case measure => simp [intOf]; omega
              · have HN := Lib.hid (each_go HXj.out HSj.out (HTS.out.trans (scr_end (by omega) HSm.out)))
                go_wp2_with fail
                go_roundw
                case rel => exact ⟨j + 1, by omega, by go_num, HN, hbelw⟩
                case measure => simp [intOf]; omega
          · obtain ⟨Rs, hRs⟩ : ∃ Rs, Rs = to.all scalarB := ⟨_, rfl⟩
            have HO : Hid ((to.drop 0).all scalarB = Rs) := Lib.hid hRs.symm
            have HTS : Hid (toB (k' == 0) (cc, to) = Rs) := Lib.hid (ho.trans hRs.symm)
            have hbelw := hbelj.alloc hbelj.size (.cells #[.int .i64 cc, .slice A' to.length c'] 54)
            have g1 : decide (0 < (k' : Int)) = true := by rw [beq_eq_false_iff_ne] at p2; rw [decide_eq_true_iff]; omega
            have g2 : 0 < k' := by rw [beq_eq_false_iff_ne] at p2; omega
            clear ho hRs
            go_wp2_with fail
            generalize World.alloc _ (.cells #[.int .i64 cc, .slice A' to.length c'] 54) = wo at *
            clear e0 e1 hbelj
            go_loop [38] (fun i => ∃ (m : Nat), m ≤ to.length ∧ i = .int .i64 m ∧ Hid ((to.drop m).all scalarB = Rs)) (fun i => to.length - (intOf i).toNat)
            case atStart => exact ⟨0, by omega, rfl, HO⟩
            case round =>
              obtain ⟨m, hm, rfl, HSm⟩ := hrel
              clear HO
              by_cases hml : m < to.length
              · obtain ⟨x, hxm, _⟩ := get_el hml
                obtain ⟨ax, rfl, hax, d0⟩ := HTC.out m _ hxm
                have e0 := (hbelw.cell (p := ax.add m) (by rw [block_of_add]; exact hax)).trans d0
                have HXm := Lib.hid hxm
                have s0 : (0 : Int) ≤ (m : Int) := by omega
                have s1 : (m : Int) < (to.length : Int) := by omega
                have HLE := Lib.hid (fun W => refScalar_any x W)
                clear d0 hxm hax
                cases hx : scalarB x
                · have HN := Lib.hid (each_no HXm.out HSm.out hx)
                  rw [hx] at HLE
                  clear hx
                  go_wp2_with fail
                  refine (HLE.out _).mono ?_
                  rintro e w' ⟨rfl, rfl⟩
                  go_wp2_with fail
                  go_ret
                  rw [each_no HX.out HS.out (HCO.out.trans (each_no HXj.out HSj.out (HTS.out.trans HN.out)))]
                  exact ⟨rfl, below_next hbel2 hbelw⟩
                · have HN := Lib.hid (each_go HXm.out HSm.out hx)
                  rw [hx] at HLE
                  clear hx
                  go_wp2_with fail
                  refine (HLE.out _).mono ?_
                  rintro e w' ⟨rfl, rfl⟩
                  go_wp2_with fail
                  go_round
                  case rel => exact ⟨m + 1, by omega, by go_num, HN⟩
                  case measure => simp [intOf]; omega
              · have HN := Lib.hid (each_go HXj.out HSj.out (HTS.out.trans (each_end (by omega) HSm.out)))
                go_wp2_with fail
                go_roundw
                case rel => exact ⟨j + 1, by omega, by go_num, HN, hbelw⟩
                case measure => simp [intOf]; omega
        · have HN := Lib.hid (each_go HX.out HS.out (HCO.out.trans (each_end (by omega) HSj.out)))
          go_wp2_with fail
          go_roundw
          case rel => exact ⟨k' + 1, by omega, by go_num, HN, hbelj⟩
          case measure => simp [intOf]; omega
    · have HN := Lib.hid (each_end (by show 4 ≤ k; omega) HS.out)
      go_wp2_with fail
      go_ret
      rw [HN.out]
      exact ⟨rfl, below_next hbel2 hbel⟩
end Go.Proofs.YtkdhldhbjomiaaaDoor
