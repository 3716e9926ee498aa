/-
  Merged texts: lemmas and walks that the last text of this claim leans on.
-/
import Derived.Test.YtikcfoobfobmnaaGreatDoorMgB723
import Derived.BigQuiet
import Derived.Test.YtikcfoobfobmnaaGreatDoorMgB724
/-
  The walk through the reference's placed: rule 2.
-/
namespace Go.Proofs.YtikcfoobfobmnaaGreatDoor
open Go.RowKit ND

theorem keyOk_res {p : Bool} {last c : Int} (h1 : last < c) (h2 : c ≤ 1114111) : keyOk p last c = (!resB c || (p && nameB c)) := by
  unfold keyOk; rw [decide_eq_true (And.intro h1 h2), Bool.true_and]
theorem keyOk_out {p : Bool} {last c : Int} (h : ¬(last < c ∧ c ≤ 1114111)) : keyOk p last c = false := by
  unfold keyOk; rw [decide_eq_false h, Bool.false_and]
/-- What is left of the test of a key in range. -/
theorem res_ways (c : Int) (k : Nat) : ((!resB c || ((k == 3) && nameB c)) = true ∧ resB c = false) ∨ ((!resB c || ((k == 3) && nameB c)) = false ∧ resB c = true ∧ ((k : Int) == 3) = false) ∨
    ((!resB c || ((k == 3) && nameB c)) = false ∧ resB c = true ∧ ((k : Int) == 3) = true ∧ nameB c = false) ∨ ((!resB c || ((k == 3) && nameB c)) = true ∧ resB c = true ∧ ((k : Int) == 3) = true ∧ nameB c = true) := by
  by_cases h3 : k = 3
  · subst h3
    have e : (((3 : Nat) : Int) == 3) = true := by decide
    rw [e]
    cases resB c <;> cases nameB c <;> simp
  · have e : ((k : Int) == 3) = false := by rw [beq_eq_false_iff_ne]; omega
    have e2 : (k == 3) = false := by rw [beq_eq_false_iff_ne]; exact h3
    rw [e, e2]
    cases resB c <;> simp

set_option maxRecDepth 100000 in
set_option maxHeartbeats 8000000 in
theorem placed_any (t : Tv) (T : Tab) (w : World) (ht : TabR w w.heap.size t T) :
    Calls Tryz.prog 44 #[t.val] w fun e w' => e = .returned (.bool T.rule2) ∧ Below w.heap.size w w' := by
  obtain ⟨A0, A1, A2, A3, A4, A5, A6, A7, A8, A9, A10, A11, k0, k1, k2, k3, k4, k5, k6, k7, k8, k9, k10, k11, rfl⟩ := ht.shape
  have HR := Lib.hid (fun o : Obj => ht.later ((Below.refl _ _).alloc (Nat.le_refl _) o))
  clear ht
  obtain ⟨R, hR⟩ : ∃ R, R = T.rule2 := ⟨_, rfl⟩
  rw [← hR]
  obtain ⟨R1, hR1⟩ : ∃ R1, R1 = T.cols.all colShape := ⟨_, rfl⟩
  obtain ⟨R2, hR2⟩ : ∃ R2, R2 = T.mps.zipIdx.all mpKeys := ⟨_, rfl⟩
  obtain ⟨R3, hR3⟩ : ∃ R3, R3 = keysB false (-1) T.excluded := ⟨_, rfl⟩
  have HR1 : Hid ((T.cols.drop 0).all colShape = R1) := Lib.hid hR1.symm
  have HR2 : Hid ((T.mps.zipIdx.drop 0).all mpKeys = R2) := Lib.hid hR2.symm
  have HR3 : Hid (keysB false (-1) (T.excluded.drop 0) = R3) := Lib.hid hR3.symm
  have HRR : Hid (R = (R1 && (R2 && R3))) := Lib.hid (by rw [hR, hR1, hR2, hR3, rule2_parts])
  clear hR hR1 hR2 hR3
  go_enter Tryz.func44, Tryz.ntmps44
  go_wp2_with fail
  refine (refSpans_any _ T _ (HR.out _)).mono ?_
  rintro e w1 ⟨ad, as_, rfl, hc, _, b1⟩
  have HC := Lib.hid hc.2
  have hca := hc.1
  have HB := Lib.hid ((Blk.new w 29 _).later b1)
  have HT := Lib.hid ((HR.out _).later b1)
  have hbel1 := below_next ((Below.refl _ _).alloc (Nat.le_refl _) _) b1
  clear hc b1 HR
  go_wp2_with fail
  go_loopw [23] (fun i wr => ∃ (k : Nat), k ≤ 7 ∧ i = .int .i64 k ∧ Hid ((T.cols.drop k).all colShape = R1) ∧ Below w1.heap.size w1 wr) (fun i _ => 7 - (intOf i).toNat)
  case atStart => exact ⟨0, by omega, rfl, HR1, Below.refl _ _⟩
  case round =>
    obtain ⟨k, hk, rfl, HS, hbel⟩ := hrel
    clear HR1
    by_cases hlt : k < 7
    · obtain ⟨⟨l, lo, hi⟩, hxk, _⟩ := get_el (xs := T.cols) (k := k) hlt
      obtain ⟨v, d0, hv⟩ := HC.out k _ hxk
      simp only at d0 hv
      obtain ⟨A, c, rfl, hc1, hc2, _, hcell⟩ := id hv
      have HCE := Lib.hid hcell
      have hlm : l.length ≤ 9223372036854775807 := by unfold maxLen at hc2; omega
      have HV := Lib.hid (hv.later hbel)
      have e0 := (hbel.cell (p := ad.add k) (by rw [block_of_add]; exact hca)).trans d0
      have HX := Lib.hid hxk
      clear d0 hxk hcell hv hc1 hc2
      have q0 : (0 : Int) ≤ (k : Int) := by omega
      have q1 : (k : Int) < (7 : Int) := by omega
      have HK := Lib.hid (fun W h => refCheck_any (.slice A l.length c) l 0 1114111 W h)
      cases hck : checkS l 0 1114111
      · rw [hck] at HK
        have HN := Lib.hid (each_no HX.out HS.out (by unfold colShape colOk; rw [hck]; rfl))
        clear hck
        go_wp2_with fail
        refine (HK.out _ HV.out).mono ?_
        rintro e w2 ⟨rfl, b2⟩
        go_wp2_with fail
        go_ret
        rw [HRR.out, HN.out]
        exact ⟨by simp, below_next hbel1 (below_next hbel b2)⟩
      · rw [hck] at HK
        obtain ⟨Ro, hRo⟩ : ∃ Ro, Ro = l.all spOut := ⟨_, rfl⟩
        have HO : Hid ((l.drop 0).all spOut = Ro) := Lib.hid hRo.symm
        have HCO : Hid (colShape (l, lo, hi) = Ro) := Lib.hid (by rw [hRo]; unfold colShape colOk; rw [hck]; rfl)
        clear hck hRo
        go_wp2_with fail
        refine (HK.out _ HV.out).mono ?_
        rintro e w2 ⟨rfl, b2⟩
        have hbel2 : Below w1.heap.size w1 w2 := below_next hbel b2
        clear HK HV b2 e0 hbel
        go_wp2_with fail
        go_loopw [32] (fun i wr => ∃ (j : Nat), j ≤ l.length ∧ i = .int .i64 j ∧ Hid ((l.drop j).all spOut = Ro) ∧ Below w1.heap.size w1 wr) (fun i _ => l.length - (intOf i).toNat)
        case atStart => exact ⟨0, by omega, rfl, HO, hbel2⟩
        case round =>
          obtain ⟨j, hj, rfl, HSj, hbelj⟩ := hrel
          clear HO hbel2
          by_cases hjl : j < l.length
          · obtain ⟨⟨f, t, x⟩, hxj, _⟩ := get_el hjl
            obtain ⟨aj, rfl, ha, d0, d1, d2⟩ := HCE.out j _ hxj
            simp only at d0 d1 d2
            obtain ⟨e0, e1, e2⟩ := span_cells hbelj ha d0 d1 d2
            have HXj := Lib.hid hxj
            clear d0 d1 d2 hxj ha
            have r0 : (0 : Int) ≤ (j : Int) := by omega
            have r1 : (j : Int) < (l.length : Int) := by omega
            have HOU := Lib.hid (fun W => clean_any f t x W)
            cases ho : outB f t
            · rw [ho] at HOU
              have HN := Lib.hid (each_no HXj.out HSj.out ho)
              clear ho
              go_wp2_with fail
              refine (HOU.out _).mono ?_
              rintro e w3 ⟨rfl, b3⟩
              go_wp2_with fail
              go_ret
              rw [HRR.out, each_no HX.out HS.out (HCO.out.trans HN.out)]
              exact ⟨by simp, below_next hbel1 (below_next (hbelj.alloc hbelj.size _) b3)⟩
            · rw [ho] at HOU
              have HN := Lib.hid (each_go HXj.out HSj.out ho)
              clear ho
              go_wp2_with fail
              refine (HOU.out _).mono ?_
              rintro e w3 ⟨rfl, b3⟩
              go_wp2_with fail
              go_roundw
              case rel => exact ⟨j + 1, by omega, by go_num, HN, below_next (hbelj.alloc hbelj.size _) b3⟩
              case measure => simp [intOf]; omega
          · have HN := Lib.hid (each_go HX.out HS.out (HCO.out.trans (each_end (by omega) HSj.out)))
            go_wp2_with fail
            go_roundw
            case rel => exact ⟨k + 1, by omega, by go_num, HN, hbelj⟩
            case measure => simp [intOf]; omega
    · have HN := Lib.hid (each_end (by show 7 ≤ k; omega) HS.out)
      obtain ⟨x0, x1, x2, x3, x4, x5, x6, x7, x8, x9, x10, x11⟩ := (HB.out.later hbel).tab
      have HT2 := Lib.hid (HT.out.later hbel)
      clear HC hca HS
      go_wp2_with fail
      refine (refMappings_any _ T _ HT2.out).mono ?_
      rintro e w2 ⟨am, rfl, hm, b2⟩
      have HM := Lib.hid hm.2
      have hma := hm.1
      have HB2 := Lib.hid ((HB.out.later hbel).later b2)
      have HX10 := Lib.hid (HT2.out.r10.later b2)
      have hbel2 := below_next hbel1 (below_next hbel b2)
      clear hm HT2 hbel hbel1 b2 x0 x1 x2 x3 x4 x5 x6 x7 x8 x9 x10 x11 HB HT
      go_wp2_with fail
      go_loopw [45] (fun i wr => ∃ (k : Nat), k ≤ 4 ∧ i = .int .i64 k ∧ Hid ((T.mps.zipIdx.drop k).all mpKeys = R2) ∧ Below w2.heap.size w2 wr) (fun i _ => 4 - (intOf i).toNat)
      case atStart => exact ⟨0, by omega, rfl, HR2, Below.refl _ _⟩
      case round =>
        obtain ⟨k, hk, rfl, HS, hbel⟩ := hrel
        clear HR2
        by_cases hlt : k < 4
        · obtain ⟨⟨l, k'⟩, hxk, _⟩ := get_el (xs := T.mps.zipIdx) (k := k) hlt
          obtain ⟨hk', hxm⟩ := zip_at hxk
          simp only at hk' hxm
          subst hk'
          obtain ⟨v, d0, hv⟩ := HM.out k' _ hxm
          obtain ⟨A, c, rfl, hc1, hc2, _, hcell⟩ := id hv
          have HCE := Lib.hid hcell
          have hlm : l.length ≤ 9223372036854775807 := by unfold maxLen at hc2; omega
          have e0 := (hbel.cell (p := am.add k') (by rw [block_of_add]; exact hma)).trans d0
          have HX := Lib.hid hxk
          obtain ⟨Ro, hRo⟩ : ∃ Ro, Ro = mpKeys (l, k') := ⟨_, rfl⟩
          have HO : Hid (keysB (k' == 3) (-1) ((keysOf l).drop 0) = Ro) := Lib.hid hRo.symm
          have HCO : Hid (mpKeys (l, k') = Ro) := Lib.hid hRo.symm
          clear d0 hxk hxm hcell hv hc1 hc2 hRo
          have q0 : (0 : Int) ≤ (k' : Int) := by omega
          have q1 : (k' : Int) < (4 : Int) := by omega
          go_wp2_with fail
          clear e0
          go_loopw [52] (fun i wr => ∃ (j : Nat) (last : Int), j ≤ l.length ∧ i = .int .i64 j ∧ -1 ≤ last ∧ Hid ((j = 0 → last = -1) ∧ (∀ i, j = i + 1 → ∃ m, l[i]? = some m ∧ m.1 = last)) ∧ Hid (keysB (k' == 3) last ((keysOf l).drop j) = Ro) ∧ Below w2.heap.size w2 wr) (fun i _ => l.length - (intOf i).toNat)
          case atStart => exact ⟨0, -1, by omega, rfl, by omega, Lib.hid ⟨fun _ => rfl, fun i h => by omega⟩, HO, hbel⟩
          case round =>
            obtain ⟨j, last, hj, rfl, hla, HL, HSj, hbelj⟩ := hrel
            clear HO hbel
            by_cases hjl : j < l.length
            · obtain ⟨⟨cc, tg⟩, hxj, _⟩ := get_el hjl
              obtain ⟨aj, sv, rfl, ha, d0, d1, A', c', rfl, _⟩ := HCE.out j _ hxj
              simp only at d0 d1
              obtain ⟨e0, e1⟩ := map_cells hbelj ha d0 d1
              have HXj := Lib.hid (keys_get hxj)
              simp only at HXj
              have HL2 : Hid ((j + 1 = 0 → cc = -1) ∧ (∀ i, j + 1 = i + 1 → ∃ m, l[i]? = some m ∧ m.1 = cc)) := Lib.hid ⟨fun h => by omega, fun i h => ⟨(cc, tg), by rw [show i = j by omega]; exact hxj, rfl⟩⟩
              clear d0 d1 hxj
              have r0 : (0 : Int) ≤ (j : Int) := by omega
              have r1 : (j : Int) < (l.length : Int) := by omega
              have HP := Lib.hid (fun W => refReserved_any cc W)
              have HNA := Lib.hid (fun W => latin_any cc W)
              rcases show cc < 0 ∨ (0 ≤ cc ∧ 1114111 < cc) ∨ (0 ≤ cc ∧ cc ≤ 1114111) by omega with h1 | ⟨h1, h2⟩ | ⟨h1, h2⟩
              · have HN := Lib.hid (keys_no HXj.out HSj.out (keyOk_out (by omega)))
                have t1 : decide (cc < 0) = true := decide_eq_true h1
                clear HL HP HNA
                go_wp2_with fail
                go_quiet (fail)
                go_wp2_with fail
                go_ret
                rw [HRR.out, each_no HX.out HS.out (HCO.out.trans HN.out)]
                exact ⟨by simp, below_next hbel2 (below_drewN (hbelj.alloc hbelj.size _) nq)⟩
              · have HN := Lib.hid (keys_no HXj.out HSj.out (keyOk_out (by omega)))
                have t1 : decide (cc < 0) = false := by rw [decide_eq_false_iff_not]; omega
                have t2 : decide (1114111 < cc) = true := decide_eq_true h2
                clear HL HP HNA
                go_wp2_with fail
                go_quiet (fail)
                go_wp2_with fail
                go_ret
                rw [HRR.out, each_no HX.out HS.out (HCO.out.trans HN.out)]
                exact ⟨by simp, below_next hbel2 (below_drewN (hbelj.alloc hbelj.size _) nq)⟩
              · have t1 : decide (cc < 0) = false := by rw [decide_eq_false_iff_not]; omega
                have t2 : decide (1114111 < cc) = false := by rw [decide_eq_false_iff_not]; omega
                by_cases hj0 : j = 0
                · obtain rfl := HL.out.1 hj0
                  have HJ := Lib.hid hj0
                  have g0 : decide (0 < j) = false := by rw [decide_eq_false_iff_not]; omega
                  clear hj0
                  clear HL
                  have HE := Lib.hid (keyOk_res (p := (k' == 3)) (show -1 < cc by omega) h2)
                  rcases res_ways cc k' with ⟨ho, p0⟩ | ⟨ho, p0, p1⟩ | ⟨ho, p0, p1, p2⟩ | ⟨ho, p0, p1, p2⟩
                  · have HN := Lib.hid (keys_go HXj.out HSj.out (HE.out.trans ho))
                    rw [p0] at HP
                    clear ho p0 HNA HE
                    go_wp2_with fail
                    go_quiet ((go_at_call 79; exact quiet_left (HP.out _)))
                    go_wp2_with fail
                    go_roundw
                    case rel => exact ⟨j + 1, cc, by omega, by go_num, by omega, HL2, HN, below_drewN (hbelj.alloc hbelj.size _) nq⟩
                    case measure => simp [intOf]; omega
                  · have HN := Lib.hid (keys_no HXj.out HSj.out (HE.out.trans ho))
                    rw [p0] at HP
                    clear ho p0 HNA HE
                    go_wp2_with fail
                    go_quiet ((go_at_call 79; exact quiet_left (HP.out _)))
                    go_wp2_with fail
                    go_ret
                    rw [HRR.out, each_no HX.out HS.out (HCO.out.trans HN.out)]
                    exact ⟨by simp, below_next hbel2 (below_drewN (hbelj.alloc hbelj.size _) nq)⟩
                  · have HN := Lib.hid (keys_no HXj.out HSj.out (HE.out.trans ho))
                    rw [p0] at HP
                    rw [p2] at HNA
                    clear ho p0 p2 HE
                    go_wp2_with fail
                    go_quiet (first | (go_at_call 79; exact quiet_left (HP.out _)) | (go_at_call 80; exact quiet_left (HNA.out _)))
                    go_wp2_with fail
                    go_ret
                    rw [HRR.out, each_no HX.out HS.out (HCO.out.trans HN.out)]
                    exact ⟨by simp, below_next hbel2 (below_drewN (hbelj.alloc hbelj.size _) nq)⟩
                  · have HN := Lib.hid (keys_go HXj.out HSj.out (HE.out.trans ho))
                    rw [p0] at HP
                    rw [p2] at HNA
                    clear ho p0 p2 HE
                    go_wp2_with fail
                    go_quiet (first | (go_at_call 79; exact quiet_left (HP.out _)) | (go_at_call 80; exact quiet_left (HNA.out _)))
                    go_wp2_with fail
                    go_roundw
                    case rel => exact ⟨j + 1, cc, by omega, by go_num, by omega, HL2, HN, below_drewN (hbelj.alloc hbelj.size _) nq⟩
                    case measure => simp [intOf]; omega
                · obtain ⟨j', hj'⟩ : ∃ j', j = j' + 1 := ⟨j - 1, by omega⟩
                  obtain ⟨⟨pc, pt⟩, hxp, hpl⟩ := HL.out.2 j' hj'
                  simp only at hpl
                  subst hpl
                  obtain ⟨ap, sp, hap, _, d0, _⟩ := HCE.out j' _ hxp
                  cases hap
                  simp only at d0
                  have f0 := (hbelj.cell (p := aj.add (j' * 2)) (by rw [block_of_add]; exact ha)).trans d0
                  have g0 := fun o : Obj => (World.cell?_alloc_lt wr o (aj.add (j' * 2)) (World.block_lt_of_cell? _ _ f0)).trans f0
                  have hw : IntKind.i64.wrap ((j : Int) - 1) = j' := by rw [IntWalk.i64_in _ (by omega)]; omega
                  have s0 : (0 : Int) ≤ (j' : Int) := by omega
                  have s1 : (j' : Int) < (l.length : Int) := by omega
                  have s2 : 0 < j := by omega
                  have HJ := Lib.hid hj'
                  clear HL hxp d0 f0 ha hj0 hj'
                  by_cases h3 : cc ≤ pc
                  · have HN := Lib.hid (keys_no HXj.out HSj.out (keyOk_out (by omega)))
                    have t3 : decide (cc ≤ pc) = true := decide_eq_true h3
                    clear HP HNA
                    go_wp2_with fail
                    go_quiet (fail)
                    go_wp2_with fail
                    go_ret
                    rw [HRR.out, each_no HX.out HS.out (HCO.out.trans HN.out)]
                    exact ⟨by simp, below_next hbel2 (below_drewN (hbelj.alloc hbelj.size _) nq)⟩
                  · have t3 : decide (cc ≤ pc) = false := decide_eq_false h3
                    have HE := Lib.hid (keyOk_res (p := (k' == 3)) (show pc < cc by omega) h2)
                    rcases res_ways cc k' with ⟨ho, p0⟩ | ⟨ho, p0, p1⟩ | ⟨ho, p0, p1, p2⟩ | ⟨ho, p0, p1, p2⟩
                    · have HN := Lib.hid (keys_go HXj.out HSj.out (HE.out.trans ho))
                      rw [p0] at HP
                      clear ho p0 HNA HE
                      go_wp2_with fail
                      go_quiet ((go_at_call 79; exact quiet_left (HP.out _)))
                      go_wp2_with fail
                      go_roundw
                      case rel => exact ⟨j + 1, cc, by omega, by go_num, by omega, HL2, HN, below_drewN (hbelj.alloc hbelj.size _) nq⟩
                      case measure => simp [intOf]; omega
                    · have HN := Lib.hid (keys_no HXj.out HSj.out (HE.out.trans ho))
                      rw [p0] at HP
                      clear ho p0 HNA HE
                      go_wp2_with fail
                      go_quiet ((go_at_call 79; exact quiet_left (HP.out _)))
                      go_wp2_with fail
                      go_ret
                      rw [HRR.out, each_no HX.out HS.out (HCO.out.trans HN.out)]
                      exact ⟨by simp, below_next hbel2 (below_drewN (hbelj.alloc hbelj.size _) nq)⟩
                    · have HN := Lib.hid (keys_no HXj.out HSj.out (HE.out.trans ho))
                      rw [p0] at HP
                      rw [p2] at HNA
                      clear ho p0 p2 HE
                      go_wp2_with fail
                      go_quiet (first | (go_at_call 79; exact quiet_left (HP.out _)) | (go_at_call 80; exact quiet_left (HNA.out _)))
                      go_wp2_with fail
                      go_ret
                      rw [HRR.out, each_no HX.out HS.out (HCO.out.trans HN.out)]
                      exact ⟨by simp, below_next hbel2 (below_drewN (hbelj.alloc hbelj.size _) nq)⟩
                    · have HN := Lib.hid (keys_go HXj.out HSj.out (HE.out.trans ho))
                      rw [p0] at HP
                      rw [p2] at HNA
                      clear ho p0 p2 HE
                      go_wp2_with fail
                      go_quiet (first | (go_at_call 79; exact quiet_left (HP.out _)) | (go_at_call 80; exact quiet_left (HNA.out _)))
                      go_wp2_with fail
                      go_roundw
                      case rel => exact ⟨j + 1, cc, by omega, by go_num, by omega, HL2, HN, below_drewN (hbelj.alloc hbelj.size _) nq⟩
                      case measure => simp [intOf]; omega
            · have HN := Lib.hid (each_go HX.out HS.out (HCO.out.trans (keys_end (by unfold keysOf; rw [List.length_map]; omega) HSj.out)))
              go_wp2_with fail
              go_roundw
              case rel => exact ⟨k' + 1, by omega, by go_num, HN, hbelj⟩
              case measure => simp [intOf]; omega
        · have HN2 := Lib.hid (each_end (by show 4 ≤ k; omega) HS.out)
          obtain ⟨A, c, hA, hc1, hc2, _, hcell⟩ := HX10.out
          cases hA
          have HCE := Lib.hid hcell
          have hlm : T.excluded.length ≤ 9223372036854775807 := by unfold maxLen at hc2; omega
          have x10 := (HB2.out.later hbel).at_ (i := 10) rfl
          clear HM hma HS HX10 hcell hc1 hc2 HB2
          go_wp2_with fail
          go_loop [100] (fun i => ∃ (j : Nat) (last : Int), j ≤ T.excluded.length ∧ i = .int .i64 j ∧ -1 ≤ last ∧ Hid ((j = 0 → last = -1) ∧ (∀ i, j = i + 1 → T.excluded[i]? = some last)) ∧ Hid (keysB false last (T.excluded.drop j) = R3)) (fun i => T.excluded.length - (intOf i).toNat)
          case atStart => exact ⟨0, -1, by omega, rfl, by omega, Lib.hid ⟨fun _ => rfl, fun i h => by omega⟩, HR3⟩
          case round =>
            obtain ⟨j, last, hj, rfl, hla, HL, HSj⟩ := hrel
            clear HR3
            by_cases hjl : j < T.excluded.length
            · obtain ⟨cc, hxj, _⟩ := get_el hjl
              obtain ⟨aj, rfl, ha, d0⟩ := HCE.out j _ hxj
              have e0 := (hbel.cell (p := aj.add j) (by rw [block_of_add]; exact ha)).trans d0
              have HXj := Lib.hid hxj
              have HL2 : Hid ((j + 1 = 0 → cc = -1) ∧ (∀ i, j + 1 = i + 1 → T.excluded[i]? = some cc)) := Lib.hid ⟨fun h => by omega, fun i h => by rw [show i = j by omega]; exact hxj⟩
              clear d0 hxj
              have r0 : (0 : Int) ≤ (j : Int) := by omega
              have r1 : (j : Int) < (T.excluded.length : Int) := by omega
              have HP := Lib.hid (fun W => refReserved_any cc W)
              rcases show cc < 0 ∨ (0 ≤ cc ∧ 1114111 < cc) ∨ (0 ≤ cc ∧ cc ≤ 1114111) by omega with h1 | ⟨h1, h2⟩ | ⟨h1, h2⟩
              · have HN3 := Lib.hid (keys_no HXj.out HSj.out (keyOk_out (by omega)))
                have t1 : decide (cc < 0) = true := decide_eq_true h1
                clear HL HP
                go_wp2_with fail
                go_ret
                rw [HRR.out, HN3.out]
                exact ⟨by simp, below_next hbel2 hbel⟩
              · have HN3 := Lib.hid (keys_no HXj.out HSj.out (keyOk_out (by omega)))
                have t1 : decide (cc < 0) = false := by rw [decide_eq_false_iff_not]; omega
                have t2 : decide (1114111 < cc) = true := decide_eq_true h2
                clear HL HP
                go_wp2_with fail
                go_ret
                rw [HRR.out, HN3.out]
                exact ⟨by simp, below_next hbel2 hbel⟩
              · have t1 : decide (cc < 0) = false := by rw [decide_eq_false_iff_not]; omega
                have t2 : decide (1114111 < cc) = false := by rw [decide_eq_false_iff_not]; omega
                by_cases hj0 : j = 0
                · obtain rfl := HL.out.1 hj0
                  have HJ := Lib.hid hj0
                  have g0 : decide (0 < j) = false := by rw [decide_eq_false_iff_not]; omega
                  clear hj0 HL
                  have HE := Lib.hid (keyOk_res (p := false) (show -1 < cc by omega) h2)
                  cases ho : resB cc
                  · have HN3 := Lib.hid (keys_go HXj.out HSj.out (HE.out.trans (by rw [ho]; rfl)))
                    rw [ho] at HP
                    clear ho HE
                    go_wp2_with fail
                    refine (HP.out _).mono ?_
                    rintro e w' ⟨rfl, rfl⟩
                    go_wp2_with fail
                    go_round
                    case rel => exact ⟨j + 1, cc, by omega, by go_num, by omega, HL2, HN3⟩
                    case measure => simp [intOf]; omega
                  · have HN3 := Lib.hid (keys_no HXj.out HSj.out (HE.out.trans (by rw [ho]; rfl)))
                    rw [ho] at HP
                    clear ho HE
                    go_wp2_with fail
                    refine (HP.out _).mono ?_
                    rintro e w' ⟨rfl, rfl⟩
                    go_wp2_with fail
                    go_ret
                    rw [HRR.out, HN3.out]
                    exact ⟨by simp, below_next hbel2 hbel⟩
                · obtain ⟨j', hj'⟩ : ∃ j', j = j' + 1 := ⟨j - 1, by omega⟩
                  have hxp := HL.out.2 j' hj'
                  obtain ⟨ap, hap, _, d0⟩ := HCE.out j' _ hxp
                  cases hap
                  have f0 := (hbel.cell (p := aj.add j') (by rw [block_of_add]; exact ha)).trans d0
                  have hw : IntKind.i64.wrap ((j : Int) - 1) = j' := by rw [IntWalk.i64_in _ (by omega)]; omega
                  have hw2 : (j : Int) - 1 = j' := by omega
                  have s0 : (0 : Int) ≤ (j' : Int) := by omega
                  have s1 : (j' : Int) < (T.excluded.length : Int) := by omega
                  have s2 : 0 < j := by omega
                  have HJ := Lib.hid hj'
                  clear HL hxp d0 ha hj0 hj'
                  by_cases h3 : cc ≤ last
                  · have HN3 := Lib.hid (keys_no HXj.out HSj.out (keyOk_out (by omega)))
                    have t3 : decide (cc ≤ last) = true := decide_eq_true h3
                    clear HP
                    go_wp2_with fail
                    go_ret
                    rw [HRR.out, HN3.out]
                    exact ⟨by simp, below_next hbel2 hbel⟩
                  · have t3 : decide (cc ≤ last) = false := decide_eq_false h3
                    have HE := Lib.hid (keyOk_res (p := false) (show last < cc by omega) h2)
                    cases ho : resB cc
                    · have HN3 := Lib.hid (keys_go HXj.out HSj.out (HE.out.trans (by rw [ho]; rfl)))
                      rw [ho] at HP
                      clear ho HE
                      go_wp2_with fail
                      refine (HP.out _).mono ?_
                      rintro e w' ⟨rfl, rfl⟩
                      go_wp2_with fail
                      go_round
                      case rel => exact ⟨j + 1, cc, by omega, by go_num, by omega, HL2, HN3⟩
                      case measure => simp [intOf]; omega
                    · have HN3 := Lib.hid (keys_no HXj.out HSj.out (HE.out.trans (by rw [ho]; rfl)))
                      rw [ho] at HP
                      clear ho HE
                      go_wp2_with fail
                      refine (HP.out _).mono ?_
                      rintro e w' ⟨rfl, rfl⟩
                      go_wp2_with fail
                      go_ret
                      rw [HRR.out, HN3.out]
                      exact ⟨by simp, below_next hbel2 hbel⟩
            · have HN3 := Lib.hid (keys_end (by omega) HSj.out)
              go_wp2_with fail
              go_ret
              rw [HRR.out, HN.out, HN2.out, HN3.out]
              exact ⟨by simp, below_next hbel2 hbel⟩
end Go.Proofs.YtikcfoobfobmnaaGreatDoor
/-
  The walk through the reference's sized: rule 4.
-/
namespace Go.Proofs.YtikcfoobfobmnaaGreatDoor
open Go.RowKit ND

set_option maxRecDepth 100000 in
set_option maxHeartbeats 4000000 in
theorem sized_any (t : Tv) (T : Tab) (w : World) (ht : TabR w w.heap.size t T) :
    Calls Tryz.prog 46 #[t.val] w fun e w' => e = .returned (.bool T.rule4) ∧ Below w.heap.size w w' := by
  obtain ⟨A0, A1, A2, A3, A4, A5, A6, A7, A8, A9, A10, A11, k0, k1, k2, k3, k4, k5, k6, k7, k8, k9, k10, k11, rfl⟩ := ht.shape
  have HR := Lib.hid (fun o : Obj => ht.later ((Below.refl _ _).alloc (Nat.le_refl _) o))
  clear ht
  obtain ⟨R, hR⟩ : ∃ R, R = T.rule4 := ⟨_, rfl⟩
  rw [← hR]
  have HR2 : Hid ((T.mps.zipIdx.drop 0).all mpTo = R) := Lib.hid (by rw [hR, rule4_zip]; rfl)
  clear hR
  go_enter Tryz.func46, Tryz.ntmps46
  go_wp2_with fail
  refine (refMappings_any _ T _ (HR.out _)).mono ?_
  rintro e w2 ⟨am, rfl, hm, b2⟩
  have HM := Lib.hid hm.2
  have hma := hm.1
  have hbel2 := below_next ((Below.refl _ _).alloc (Nat.le_refl _) _) b2
  clear hm b2 HR
  go_wp2_with fail
  go_loopw [14] (fun i wr => ∃ (k : Nat), k ≤ 4 ∧ i = .int .i64 k ∧ Hid ((T.mps.zipIdx.drop k).all mpTo = R) ∧ Below w2.heap.size w2 wr) (fun i _ => 4 - (intOf i).toNat)
  case atStart => exact ⟨0, by omega, rfl, HR2, Below.refl _ _⟩
  case round =>
    obtain ⟨k, hk, rfl, HS, hbel⟩ := hrel
    clear HR2
    by_cases hlt : k < 4
    · obtain ⟨⟨l, k'⟩, hxk, _⟩ := get_el (xs := T.mps.zipIdx) (k := k) hlt
      obtain ⟨hk', hxm⟩ := zip_at' hxk
      simp only at hk' hxm
      subst hk'
      obtain ⟨v, d0, hv⟩ := HM.out k' _ hxm
      obtain ⟨A, c, rfl, hc1, hc2, _, hcell⟩ := id hv
      have HCE := Lib.hid hcell
      have hlm : l.length ≤ 9223372036854775807 := by unfold maxLen at hc2; omega
      have e0 := (hbel.cell (p := am.add k') (by rw [block_of_add]; exact hma)).trans d0
      have HX := Lib.hid hxk
      obtain ⟨Ro, hRo⟩ : ∃ Ro, Ro = l.all (toB (k' == 0)) := ⟨_, rfl⟩
      have HO : Hid ((l.drop 0).all (toB (k' == 0)) = Ro) := Lib.hid hRo.symm
      have HCO : Hid (mpTo (l, k') = Ro) := Lib.hid hRo.symm
      clear d0 hxk hxm hcell hv hc1 hc2 hRo
      have q0 : (0 : Int) ≤ (k' : Int) := by omega
      have q1 : (k' : Int) < (4 : Int) := by omega
      go_wp2_with fail
      clear e0
      go_loopw [21] (fun i wr => ∃ (j : Nat), j ≤ l.length ∧ i = .int .i64 j ∧ Hid ((l.drop j).all (toB (k' == 0)) = Ro) ∧ Below w2.heap.size w2 wr) (fun i _ => l.length - (intOf i).toNat)
      case atStart => exact ⟨0, by omega, rfl, HO, hbel⟩
      case round =>
        obtain ⟨j, hj, rfl, HSj, hbelj⟩ := hrel
        clear HO hbel
        by_cases hjl : j < l.length
        · obtain ⟨⟨cc, tg⟩, hxj, _⟩ := get_el hjl
          obtain ⟨aj, sv, rfl, ha, d0, d1, hto⟩ := HCE.out j _ hxj
          simp only at d0 d1 hto
          obtain ⟨A', c', rfl, hd1, hd2, _, hcell⟩ := id hto
          have HTC := Lib.hid hcell
          obtain ⟨e0, e1⟩ := map_cells hbelj ha d0 d1
          have HXj := Lib.hid hxj
          have hlt2 : tg.length ≤ 9223372036854775807 := by unfold maxLen at hd2; omega
          clear d0 d1 hxj ha hto hcell hd1 hd2
          have r0 : (0 : Int) ≤ (j : Int) := by omega
          have r1 : (j : Int) < (l.length : Int) := by omega
          rcases to_ways k' cc tg with ⟨ho, p0⟩ | ⟨ho, p0, p1⟩ | ⟨ho, p0, p1, p2⟩ | ⟨ho, p0, p1, p2⟩
          · have HN := Lib.hid (each_no HXj.out HSj.out ho)
            clear ho
            go_wp2_with fail
            go_ret
            rw [each_no HX.out HS.out (HCO.out.trans HN.out)]
            exact ⟨rfl, below_next hbel2 (hbelj.alloc hbelj.size _)⟩
          · have HN := Lib.hid (each_no HXj.out HSj.out ho)
            clear ho
            go_wp2_with fail
            go_ret
            rw [each_no HX.out HS.out (HCO.out.trans HN.out)]
            exact ⟨rfl, below_next hbel2 (hbelj.alloc hbelj.size _)⟩
          · obtain ⟨Rs, hRs⟩ : ∃ Rs, Rs = scrG 2 tg := ⟨_, rfl⟩
            have HO : Hid (scrG 2 (tg.drop 0) = Rs) := Lib.hid hRs.symm
            have HTS : Hid (toB (k' == 0) (cc, tg) = Rs) := Lib.hid (ho.trans hRs.symm)
            have hbelw := hbelj.alloc hbelj.size (.cells #[.int .i64 cc, .slice A' tg.length c'] 51)
            have HTB := Lib.hid (Blk.new wr 51 #[.int .i64 cc, .slice A' tg.length c'])
            clear ho hRs
            go_wp2_with fail
            have HB1 := Lib.hid (HTB.out.at_ (i := 1) (u := .slice A' tg.length c') rfl)
            clear HTB
            generalize World.alloc _ (.cells #[.int .i64 cc, .slice A' tg.length c'] 51) = wo at *
            clear e0 e1 hbelj
            go_loop [38] (fun i => ∃ (m : Nat) (last : Int), m ≤ tg.length ∧ i = .int .i64 m ∧ Hid ((m = 0 → last = 2) ∧ (∀ i, m = i + 1 → tg[i]? = some last)) ∧ Hid (scrG last (tg.drop m) = Rs)) (fun i => tg.length - (intOf i).toNat)
            case atStart => exact ⟨0, 2, by omega, rfl, Lib.hid ⟨fun _ => rfl, fun i h => by omega⟩, HO⟩
            case round =>
              obtain ⟨m, last, hm, rfl, HL, HSm⟩ := hrel
              clear HO
              by_cases hml : m < tg.length
              · obtain ⟨x, hxm, _⟩ := get_el hml
                obtain ⟨ax, rfl, hax, d0⟩ := HTC.out m _ hxm
                have e0 := (hbelw.cell (p := ax.add m) (by rw [block_of_add]; exact hax)).trans d0
                have HXm := Lib.hid hxm
                have HL2 : Hid ((m + 1 = 0 → x = 2) ∧ (∀ i, m + 1 = i + 1 → tg[i]? = some x)) := Lib.hid ⟨fun h => by omega, fun i h => by rw [show i = m by omega]; exact hxm⟩
                have s0 : (0 : Int) ≤ (m : Int) := by omega
                have s1 : (m : Int) < (tg.length : Int) := by omega
                clear d0 hxm
                rcases scr_ways last x m HL.out.1 with ⟨ho, u0⟩ | ⟨ho, u0, u1⟩ | ⟨ho, u0, u1, u2⟩ | ⟨ho, u0, u1, u2, u3⟩ | ⟨ho, u0, u1, u2, u3⟩
                · have HN := Lib.hid (scr_no HXm.out HSm.out ho)
                  clear ho HL
                  go_wp2_with fail
                  go_ret
                  rw [each_no HX.out HS.out (HCO.out.trans (each_no HXj.out HSj.out (HTS.out.trans HN.out)))]
                  exact ⟨rfl, below_next hbel2 hbelw⟩
                · have HN := Lib.hid (scr_no HXm.out HSm.out ho)
                  clear ho HL
                  go_wp2_with fail
                  go_ret
                  rw [each_no HX.out HS.out (HCO.out.trans (each_no HXj.out HSj.out (HTS.out.trans HN.out)))]
                  exact ⟨rfl, below_next hbel2 hbelw⟩
                · have HN := Lib.hid (scr_go HXm.out HSm.out ho)
                  have g0 : decide (0 < m) = false := by rw [decide_eq_false_iff_not]; omega
                  have g1 : decide (0 < (k' : Int)) = false := by rw [beq_iff_eq] at p2; rw [decide_eq_false_iff_not]; omega
                  have g2 : decide (0 < k') = false := by rw [beq_iff_eq] at p2; rw [decide_eq_false_iff_not]; omega
                  clear ho HL u2
                  go_wp2_with fail
                  go_round
                  case rel => exact ⟨m + 1, x, by omega, by go_num, HL2, HN⟩
                  case measure => simp [intOf]; omega
                · have HN := Lib.hid (scr_no HXm.out HSm.out ho)
                  obtain ⟨j', hj'⟩ : ∃ j', m = j' + 1 := ⟨m - 1, by omega⟩
                  have hxp := HL.out.2 j' hj'
                  obtain ⟨ap, hap, _, d0⟩ := HTC.out j' _ hxp
                  cases hap
                  have f0 := (hbelw.cell (p := ax.add j') (by rw [block_of_add]; exact hax)).trans d0
                  have hw2 : (m : Int) - 1 = j' := by omega
                  have v0 : (0 : Int) ≤ (j' : Int) := by omega
                  have v1 : (j' : Int) < (tg.length : Int) := by omega
                  have b1 := HB1.out
                  have HJ := Lib.hid hj'
                  clear ho HL hxp hj' d0
                  go_wp2_with fail
                  go_ret
                  rw [each_no HX.out HS.out (HCO.out.trans (each_no HXj.out HSj.out (HTS.out.trans HN.out)))]
                  exact ⟨rfl, below_next hbel2 hbelw⟩
                · have HN := Lib.hid (scr_go HXm.out HSm.out ho)
                  obtain ⟨j', hj'⟩ : ∃ j', m = j' + 1 := ⟨m - 1, by omega⟩
                  have hxp := HL.out.2 j' hj'
                  obtain ⟨ap, hap, _, d0⟩ := HTC.out j' _ hxp
                  cases hap
                  have f0 := (hbelw.cell (p := ax.add j') (by rw [block_of_add]; exact hax)).trans d0
                  have hw2 : (m : Int) - 1 = j' := by omega
                  have v0 : (0 : Int) ≤ (j' : Int) := by omega
                  have v1 : (j' : Int) < (tg.length : Int) := by omega
                  have b1 := HB1.out
                  have g1 : decide (0 < (k' : Int)) = false := by rw [beq_iff_eq] at p2; rw [decide_eq_false_iff_not]; omega
                  have g2 : decide (0 < k') = false := by rw [beq_iff_eq] at p2; rw [decide_eq_false_iff_not]; omega
                  have HJ := Lib.hid hj'
                  clear ho HL hxp hj' d0
                  go_wp2_with fail
                  go_round
                  case rel => exact ⟨m + 1, x, by omega, by go_num, HL2, HN⟩
                  case measure => simp [intOf]; omega
              · have HN := Lib.hid (each_go HXj.out HSj.out (HTS.out.trans (scr_end (by omega) HSm.out)))
                go_wp2_with fail
                go_roundw
                case rel => exact ⟨j + 1, by omega, by go_num, HN, hbelw⟩
                case measure => simp [intOf]; omega
          · obtain ⟨Rs, hRs⟩ : ∃ Rs, Rs = tg.all scalarB := ⟨_, rfl⟩
            have HO : Hid ((tg.drop 0).all scalarB = Rs) := Lib.hid hRs.symm
            have HTS : Hid (toB (k' == 0) (cc, tg) = Rs) := Lib.hid (ho.trans hRs.symm)
            have hbelw := hbelj.alloc hbelj.size (.cells #[.int .i64 cc, .slice A' tg.length c'] 51)
            have g1 : decide (0 < (k' : Int)) = true := by rw [beq_eq_false_iff_ne] at p2; rw [decide_eq_true_iff]; omega
            have g2 : 0 < k' := by rw [beq_eq_false_iff_ne] at p2; omega
            clear ho hRs
            go_wp2_with fail
            generalize World.alloc _ (.cells #[.int .i64 cc, .slice A' tg.length c'] 51) = wo at *
            clear e0 e1 hbelj
            go_loop [38] (fun i => ∃ (m : Nat), m ≤ tg.length ∧ i = .int .i64 m ∧ Hid ((tg.drop m).all scalarB = Rs)) (fun i => tg.length - (intOf i).toNat)
            case atStart => exact ⟨0, by omega, rfl, HO⟩
            case round =>
              obtain ⟨m, hm, rfl, HSm⟩ := hrel
              clear HO
              by_cases hml : m < tg.length
              · obtain ⟨x, hxm, _⟩ := get_el hml
                obtain ⟨ax, rfl, hax, d0⟩ := HTC.out m _ hxm
                have e0 := (hbelw.cell (p := ax.add m) (by rw [block_of_add]; exact hax)).trans d0
                have HXm := Lib.hid hxm
                have s0 : (0 : Int) ≤ (m : Int) := by omega
                have s1 : (m : Int) < (tg.length : Int) := by omega
                have HLE := Lib.hid (fun W => refScalar_any x W)
                clear d0 hxm hax
                cases hx : scalarB x
                · have HN := Lib.hid (each_no HXm.out HSm.out hx)
                  rw [hx] at HLE
                  clear hx
                  go_wp2_with fail
                  refine (HLE.out _).mono ?_
                  rintro e w' ⟨rfl, rfl⟩
                  go_wp2_with fail
                  go_ret
                  rw [each_no HX.out HS.out (HCO.out.trans (each_no HXj.out HSj.out (HTS.out.trans HN.out)))]
                  exact ⟨rfl, below_next hbel2 hbelw⟩
                · have HN := Lib.hid (each_go HXm.out HSm.out hx)
                  rw [hx] at HLE
                  clear hx
                  go_wp2_with fail
                  refine (HLE.out _).mono ?_
                  rintro e w' ⟨rfl, rfl⟩
                  go_wp2_with fail
                  go_round
                  case rel => exact ⟨m + 1, by omega, by go_num, HN⟩
                  case measure => simp [intOf]; omega
              · have HN := Lib.hid (each_go HXj.out HSj.out (HTS.out.trans (each_end (by omega) HSm.out)))
                go_wp2_with fail
                go_roundw
                case rel => exact ⟨j + 1, by omega, by go_num, HN, hbelw⟩
                case measure => simp [intOf]; omega
        · have HN := Lib.hid (each_go HX.out HS.out (HCO.out.trans (each_end (by omega) HSj.out)))
          go_wp2_with fail
          go_roundw
          case rel => exact ⟨k' + 1, by omega, by go_num, HN, hbelj⟩
          case measure => simp [intOf]; omega
    · have HN := Lib.hid (each_end (by show 4 ≤ k; omega) HS.out)
      go_wp2_with fail
      go_ret
      rw [HN.out]
      exact ⟨rfl, below_next hbel2 hbel⟩
end Go.Proofs.YtikcfoobfobmnaaGreatDoor
