/-
  The walks through table.scripts, table.targets and the reference's sized: rule 4.
-/
import Derived.Test.YtkdhldhbjomiaaaDoorTabR1
import Derived.Test.YtkdhldhbjomiaaaDoorScal
import Derived.Test.YtkdhldhbjomiaaaDoorRefScal
import Derived.Test.YtkdhldhbjomiaaaDoorMem
namespace Go.Proofs.YtkdhldhbjomiaaaDoor
open Go.RowKit ND

/-- What is asked of a script number behind another one. -/
def scrOk (last s : Int) : Bool := decide (3 ≤ s ∧ s ≤ 60 ∧ last < s)
theorem scr_go {last c : Int} {xs : List Int} {k : Nat} {R : Bool} (hx : xs[k]? = some c) (h : scrG last (xs.drop k) = R) (h1 : scrOk last c = true) : scrG c (xs.drop (k + 1)) = R := by
  rw [drop_of_get hx, scrG] at h; unfold scrOk at h1; rw [h1, Bool.true_and] at h; exact h
theorem scr_no {last c : Int} {xs : List Int} {k : Nat} {R : Bool} (hx : xs[k]? = some c) (h : scrG last (xs.drop k) = R) (h1 : scrOk last c = false) : R = false := by
  rw [drop_of_get hx, scrG] at h; unfold scrOk at h1; rw [h1, Bool.false_and] at h; exact h.symm
theorem scr_end {last : Int} {xs : List Int} {k : Nat} {R : Bool} (hk : xs.length ≤ k) (h : scrG last (xs.drop k) = R) : R = true := by
  rw [List.drop_eq_nil_of_le hk] at h; exact h.symm
/-- The ways through the test of a script number; j: its index. -/
theorem scr_ways (last s : Int) (j : Nat) (h : j = 0 → last = 2) : (scrOk last s = false ∧ decide (s < 3) = true) ∨ (scrOk last s = false ∧ decide (s < 3) = false ∧ decide (60 < s) = true) ∨
    (scrOk last s = true ∧ decide (s < 3) = false ∧ decide (60 < s) = false ∧ j = 0) ∨ (scrOk last s = false ∧ decide (s < 3) = false ∧ decide (60 < s) = false ∧ 0 < j ∧ decide (s ≤ last) = true) ∨
    (scrOk last s = true ∧ decide (s < 3) = false ∧ decide (60 < s) = false ∧ 0 < j ∧ decide (s ≤ last) = false) := by
  unfold scrOk
  simp only [decide_eq_true_eq, decide_eq_false_iff_not]
  rcases Nat.eq_zero_or_pos j with hj | hj
  · have := h hj; omega
  · omega

set_option maxRecDepth 100000 in
set_option maxHeartbeats 1000000 in
theorem scripts_check (v : Value) (xs : List Int) (w : World) (hv : Ints w w.heap.size .i64 v xs) :
    Calls Tryd.prog 105 #[v] w fun e w' => e = .returned (.bool (scrG 2 xs)) ∧ w = w' := by
  obtain ⟨A, c, rfl, hc1, hc2, _, hcell⟩ := hv
  have HC := Lib.hid hcell
  have hlm : xs.length ≤ 9223372036854775807 := by unfold maxLen at hc2; omega
  clear hcell hc1 hc2
  obtain ⟨R, hR⟩ : ∃ R, R = scrG 2 xs := ⟨_, rfl⟩
  rw [← hR]
  have HR : Hid (scrG 2 (xs.drop 0) = R) := Lib.hid hR.symm
  clear hR
  go_enter Tryd.func105, Tryd.ntmps105
  go_wp2_with fail
  go_loop [7] (fun i => ∃ (j : Nat) (last : Int), j ≤ xs.length ∧ i = .int .i64 j ∧ Hid ((j = 0 → last = 2) ∧ (∀ i, j = i + 1 → xs[i]? = some last)) ∧ Hid (scrG last (xs.drop j) = R)) (fun i => xs.length - (intOf i).toNat)
  case atStart => exact ⟨0, 2, by omega, rfl, Lib.hid ⟨fun _ => rfl, fun i h => by omega⟩, HR⟩
  case round =>
    obtain ⟨j, last, hj, rfl, HL, HS⟩ := hrel
    clear HR
    by_cases hjl : j < xs.length
    · obtain ⟨s, hxj, _⟩ := get_el hjl
      obtain ⟨aj, rfl, ha, d0⟩ := HC.out j _ hxj
      have HX := Lib.hid hxj
      have HL2 : Hid ((j + 1 = 0 → s = 2) ∧ (∀ i, j + 1 = i + 1 → xs[i]? = some s)) := Lib.hid ⟨fun h => by omega, fun i h => by rw [show i = j by omega]; exact hxj⟩
      have r0 : (0 : Int) ≤ (j : Int) := by omega
      have r1 : (j : Int) < (xs.length : Int) := by omega
      clear hxj ha
      rcases scr_ways last s j HL.out.1 with ⟨ho, p0⟩ | ⟨ho, p0, p1⟩ | ⟨ho, p0, p1, p2⟩ | ⟨ho, p0, p1, p2, p3⟩ | ⟨ho, p0, p1, p2, p3⟩
      · have HN := Lib.hid (scr_no HX.out HS.out ho)
        clear ho HL
        go_wp2_with fail
        go_ret
        rw [HN.out]
        exact ⟨rfl, rfl⟩
      · have HN := Lib.hid (scr_no HX.out HS.out ho)
        clear ho HL
        go_wp2_with fail
        go_ret
        rw [HN.out]
        exact ⟨rfl, rfl⟩
      · have HN := Lib.hid (scr_go HX.out HS.out ho)
        have g0 : decide (0 < j) = false := by rw [decide_eq_false_iff_not]; omega
        clear ho HL p2
        go_wp2_with fail
        go_round
        case rel => exact ⟨j + 1, s, by omega, by go_num, HL2, HN⟩
        case measure => simp [intOf]; omega
      · have HN := Lib.hid (scr_no HX.out HS.out ho)
        obtain ⟨j', hj'⟩ : ∃ j', j = j' + 1 := ⟨j - 1, by omega⟩
        have hxp := HL.out.2 j' hj'
        obtain ⟨ap, hap, _, e0⟩ := HC.out j' _ hxp
        cases hap
        have hw : IntKind.i64.wrap ((j : Int) - 1) = j' := by rw [IntWalk.i64_in _ (by omega)]; omega
        have hw2 : (j : Int) - 1 = j' := by omega
        have s0 : (0 : Int) ≤ (j' : Int) := by omega
        have s1 : (j' : Int) < (xs.length : Int) := by omega
        have HJ := Lib.hid hj'
        clear ho HL hxp hj'
        go_wp2_with fail
        go_ret
        rw [HN.out]
        exact ⟨rfl, rfl⟩
      · have HN := Lib.hid (scr_go HX.out HS.out ho)
        obtain ⟨j', hj'⟩ : ∃ j', j = j' + 1 := ⟨j - 1, by omega⟩
        have hxp := HL.out.2 j' hj'
        obtain ⟨ap, hap, _, e0⟩ := HC.out j' _ hxp
        cases hap
        have hw : IntKind.i64.wrap ((j : Int) - 1) = j' := by rw [IntWalk.i64_in _ (by omega)]; omega
        have hw2 : (j : Int) - 1 = j' := by omega
        have s0 : (0 : Int) ≤ (j' : Int) := by omega
        have s1 : (j' : Int) < (xs.length : Int) := by omega
        have HJ := Lib.hid hj'
        clear ho HL hxp hj'
        go_wp2_with fail
        go_round
        case rel => exact ⟨j + 1, s, by omega, by go_num, HL2, HN⟩
        case measure => simp [intOf]; omega
    · have HN := Lib.hid (scr_end (by omega) HS.out)
      go_wp2_with fail
      go_ret
      rw [HN.out]
      exact ⟨rfl, rfl⟩

/-- Rule 4, list by list. -/
def mpTo (p : List Mp × Nat) : Bool := p.1.all (toB (p.2 == 0))
theorem rule4_zip (T : Tab) : T.rule4 = T.mps.zipIdx.all mpTo := by
  unfold Tab.rule4 Tab.mps
  simp only [List.zipIdx_cons, List.zipIdx_nil, List.all_cons, List.all_nil, Bool.and_true]
  rfl
theorem zip_at' {T : Tab} {k : Nat} {p : List Mp × Nat} (h : T.mps.zipIdx[k]? = some p) : p.2 = k ∧ T.mps[k]? = some p.1 := by
  rw [List.getElem?_zipIdx] at h
  cases hm : T.mps[k]? with
  | none => rw [hm] at h; cases h
  | some m => rw [hm] at h; cases h; exact ⟨by simp, rfl⟩
theorem to_ways (k : Nat) (c : Int) (to : List Int) : (toB (k == 0) (c, to) = false ∧ decide ((to.length : Int) < 1) = true) ∨ (toB (k == 0) (c, to) = false ∧ decide ((to.length : Int) < 1) = false ∧ decide (18 < (to.length : Int)) = true) ∨
    (toB (k == 0) (c, to) = scrG 2 to ∧ decide ((to.length : Int) < 1) = false ∧ decide (18 < (to.length : Int)) = false ∧ ((k : Int) == 0) = true) ∨
    (toB (k == 0) (c, to) = to.all scalarB ∧ decide ((to.length : Int) < 1) = false ∧ decide (18 < (to.length : Int)) = false ∧ ((k : Int) == 0) = false) := by
  unfold toB
  simp only
  by_cases h1 : to.length < 1
  · exact .inl ⟨by rw [decide_eq_false (by omega)]; rfl, decide_eq_true (by omega)⟩
  · by_cases h2 : 18 < to.length
    · exact .inr (.inl ⟨by rw [decide_eq_false (by omega)]; rfl, decide_eq_false (by omega), decide_eq_true (by omega)⟩)
    · rw [decide_eq_true (show 1 ≤ to.length ∧ to.length ≤ 18 by omega), Bool.true_and]
      by_cases hk : k = 0
      · subst hk
        exact .inr (.inr (.inl ⟨rfl, decide_eq_false (by omega), decide_eq_false (by omega), rfl⟩))
      · have e2 : (k == 0) = false := by rw [beq_eq_false_iff_ne]; exact hk
        have e : ((k : Int) == 0) = false := by rw [beq_eq_false_iff_ne]; omega
        rw [e, e2]
        exact .inr (.inr (.inr ⟨rfl, decide_eq_false (by omega), decide_eq_false (by omega), rfl⟩))
theorem len_ways (c : Int) : (scalarB c = true ∧ ((lenC c : Int) == 0) = false) ∨ (scalarB c = false ∧ ((lenC c : Int) == 0) = true) := by
  cases h : scalarB c
  · exact .inr ⟨rfl, by rw [beq_iff_eq]; have := lenC_zero.2 h; omega⟩
  · exact .inl ⟨rfl, by rw [beq_eq_false_iff_ne]; intro e; have := lenC_zero.1 (show lenC c = 0 by omega); rw [h] at this; cases this⟩

set_option maxRecDepth 100000 in
set_option maxHeartbeats 4000000 in
theorem targets_any (t : Tv) (T : Tab) (w : World) (ht : TabR w w.heap.size t T) :
    Calls Tryd.prog 35 #[t.val] w fun e w' => e = .returned (.bool T.rule4) ∧ Below w.heap.size w w' := by
  obtain ⟨A0, A1, A2, A3, A4, A5, A6, A7, A8, A9, A10, A11, k0, k1, k2, k3, k4, k5, k6, k7, k8, k9, k10, k11, rfl⟩ := ht.shape
  have HR := Lib.hid (fun o : Obj => ht.later ((Below.refl _ _).alloc (Nat.le_refl _) o))
  clear ht
  obtain ⟨R, hR⟩ : ∃ R, R = T.rule4 := ⟨_, rfl⟩
  rw [← hR]
  have HR2 : Hid ((T.mps.zipIdx.drop 0).all mpTo = R) := Lib.hid (by rw [hR, rule4_zip]; rfl)
  clear hR
  go_enter Tryd.func35, Tryd.ntmps35
  go_wp2_with fail
  refine (mappings_any _ T _ (HR.out _)).mono ?_
  rintro e w2 ⟨am, rfl, hm, b2⟩
  have HM := Lib.hid hm.2
  have hma := hm.1
  have hbel2 := below_next ((Below.refl _ _).alloc (Nat.le_refl _) _) b2
  clear hm b2 HR
  go_wp2_with fail
  go_loopw [12] (fun i wr => ∃ (k : Nat), k ≤ 4 ∧ i = .int .i64 k ∧ Hid ((T.mps.zipIdx.drop k).all mpTo = R) ∧ Below w2.heap.size w2 wr) (fun i _ => 4 - (intOf i).toNat)
  case atStart => exact ⟨0, by omega, rfl, HR2, Below.refl _ _⟩
  case round =>
    obtain ⟨k, hk, rfl, HS, hbel⟩ := hrel
    clear HR2
    by_cases hlt : k < 4
    · obtain ⟨⟨l, k'⟩, hxk, _⟩ := get_el (xs := T.mps.zipIdx) (k := k) hlt
      obtain ⟨hk', hxm⟩ := zip_at' hxk
      simp only at hk' hxm
      subst hk'
      obtain ⟨v, d0, hv⟩ := HM.out k' _ hxm
      obtain ⟨A, c, rfl, hc1, hc2, _, hcell⟩ := id hv
      have HCE := Lib.hid hcell
      have hlm : l.length ≤ 9223372036854775807 := by unfold maxLen at hc2; omega
      have e0 := (hbel.cell (p := am.add k') (by rw [block_of_add]; exact hma)).trans d0
      have HX := Lib.hid hxk
      obtain ⟨Ro, hRo⟩ : ∃ Ro, Ro = l.all (toB (k' == 0)) := ⟨_, rfl⟩
      have HO : Hid ((l.drop 0).all (toB (k' == 0)) = Ro) := Lib.hid hRo.symm
      have HCO : Hid (mpTo (l, k') = Ro) := Lib.hid hRo.symm
      clear d0 hxk hxm hcell hv hc1 hc2 hRo
      have q0 : (0 : Int) ≤ (k' : Int) := by omega
      have q1 : (k' : Int) < (4 : Int) := by omega
      go_wp2_with fail
      clear e0
      go_loopw [19] (fun i wr => ∃ (j : Nat), j ≤ l.length ∧ i = .int .i64 j ∧ Hid ((l.drop j).all (toB (k' == 0)) = Ro) ∧ Below w2.heap.size w2 wr) (fun i _ => l.length - (intOf i).toNat)
      case atStart => exact ⟨0, by omega, rfl, HO, hbel⟩
      case round =>
        obtain ⟨j, hj, rfl, HSj, hbelj⟩ := hrel
        clear HO hbel
        by_cases hjl : j < l.length
        · obtain ⟨⟨cc, to⟩, hxj, _⟩ := get_el hjl
          obtain ⟨aj, sv, rfl, ha, d0, d1, hto⟩ := HCE.out j _ hxj
          simp only at d0 d1 hto
          obtain ⟨A', c', rfl, hd1, hd2, _, hcell⟩ := id hto
          have HTO := Lib.hid (fun o => (hto.below hbelj |>.more hbelj.size).later ((Below.refl _ _).alloc (Nat.le_refl _) o))
          have HTC := Lib.hid hcell
          obtain ⟨e0, e1⟩ := map_cells hbelj ha d0 d1
          have HXj := Lib.hid hxj
          have hlt2 : to.length ≤ 9223372036854775807 := by unfold maxLen at hd2; omega
          clear d0 d1 hxj ha hto hcell hd1 hd2
          have r0 : (0 : Int) ≤ (j : Int) := by omega
          have r1 : (j : Int) < (l.length : Int) := by omega
          rcases to_ways k' cc to with ⟨ho, p0⟩ | ⟨ho, p0, p1⟩ | ⟨ho, p0, p1, p2⟩ | ⟨ho, p0, p1, p2⟩
          · have HN := Lib.hid (each_no HXj.out HSj.out ho)
            clear ho HTO
            go_wp2_with fail
            go_ret
            rw [each_no HX.out HS.out (HCO.out.trans HN.out)]
            exact ⟨rfl, below_next hbel2 (hbelj.alloc hbelj.size _)⟩
          · have HN := Lib.hid (each_no HXj.out HSj.out ho)
            clear ho HTO
            go_wp2_with fail
            go_ret
            rw [each_no HX.out HS.out (HCO.out.trans HN.out)]
            exact ⟨rfl, below_next hbel2 (hbelj.alloc hbelj.size _)⟩
          · have HSC := Lib.hid (fun W h => scripts_check (.slice A' to.length c') to W h)
            cases hsc : scrG 2 to
            · rw [hsc] at HSC
              have HN := Lib.hid (each_no HXj.out HSj.out (ho.trans hsc))
              clear ho hsc
              go_wp2_with fail
              refine (HSC.out _ (HTO.out _)).mono ?_
              rintro e w' ⟨rfl, rfl⟩
              go_wp2_with fail
              go_ret
              rw [each_no HX.out HS.out (HCO.out.trans HN.out)]
              exact ⟨rfl, below_next hbel2 (hbelj.alloc hbelj.size _)⟩
            · rw [hsc] at HSC
              have HN := Lib.hid (each_go HXj.out HSj.out (ho.trans hsc))
              clear ho hsc
              go_wp2_with fail
              refine (HSC.out _ (HTO.out _)).mono ?_
              rintro e w' ⟨rfl, rfl⟩
              go_wp2_with fail
              go_roundw
              case rel => exact ⟨j + 1, by omega, by go_num, HN, hbelj.alloc hbelj.size _⟩
              case measure => simp [intOf]; omega
          · obtain ⟨Rs, hRs⟩ : ∃ Rs, Rs = to.all scalarB := ⟨_, rfl⟩
            have HO : Hid ((to.drop 0).all scalarB = Rs) := Lib.hid hRs.symm
            have HTS : Hid (toB (k' == 0) (cc, to) = Rs) := Lib.hid (ho.trans hRs.symm)
            have hbelw := hbelj.alloc hbelj.size (.cells #[.int .i64 cc, .slice A' to.length c'] 54)
            clear ho hRs HTO
            go_wp2_with fail
            generalize World.alloc _ (.cells #[.int .i64 cc, .slice A' to.length c'] 54) = wo at *
            clear e0 e1 hbelj
            go_loop [42] (fun i => ∃ (m : Nat), m ≤ to.length ∧ i = .int .i64 m ∧ Hid ((to.drop m).all scalarB = Rs)) (fun i => to.length - (intOf i).toNat)
            case atStart => exact ⟨0, by omega, rfl, HO⟩
            case round =>
              obtain ⟨m, hm, rfl, HSm⟩ := hrel
              clear HO
              by_cases hml : m < to.length
              · obtain ⟨x, hxm, _⟩ := get_el hml
                obtain ⟨ax, rfl, hax, d0⟩ := HTC.out m _ hxm
                have e0 := (hbelw.cell (p := ax.add m) (by rw [block_of_add]; exact hax)).trans d0
                have HXm := Lib.hid hxm
                have s0 : (0 : Int) ≤ (m : Int) := by omega
                have s1 : (m : Int) < (to.length : Int) := by omega
                have HLE := Lib.hid (fun W => length_any x W)
                clear d0 hxm hax
                rcases len_ways x with ⟨hx, pz⟩ | ⟨hx, pz⟩
                · have HN := Lib.hid (each_go HXm.out HSm.out hx)
                  clear hx
                  go_wp2_with fail
                  refine (HLE.out _).mono ?_
                  rintro e w' ⟨rfl, rfl⟩
                  go_wp2_with fail
                  go_round
                  case rel => exact ⟨m + 1, by omega, by go_num, HN⟩
                  case measure => simp [intOf]; omega
                · have HN := Lib.hid (each_no HXm.out HSm.out hx)
                  clear hx
                  go_wp2_with fail
                  refine (HLE.out _).mono ?_
                  rintro e w' ⟨rfl, rfl⟩
                  go_wp2_with fail
                  go_ret
                  rw [each_no HX.out HS.out (HCO.out.trans (each_no HXj.out HSj.out (HTS.out.trans HN.out)))]
                  exact ⟨rfl, below_next hbel2 hbelw⟩
              · have HN := Lib.hid (each_go HXj.out HSj.out (HTS.out.trans (each_end (by omega) HSm.out)))
                go_wp2_with fail
                go_roundw
                case rel => exact ⟨j + 1, by omega, by go_num, HN, hbelw⟩
                case measure => simp [intOf]; omega
        · have HN := Lib.hid (each_go HX.out HS.out (HCO.out.trans (each_end (by omega) HSj.out)))
          go_wp2_with fail
          go_roundw
          case rel => exact ⟨k' + 1, by omega, by go_num, HN, hbelj⟩
          case measure => simp [intOf]; omega
    · have HN := Lib.hid (each_end (by show 4 ≤ k; omega) HS.out)
      go_wp2_with fail
      go_ret
      rw [HN.out]
      exact ⟨rfl, below_next hbel2 hbel⟩
end Go.Proofs.YtkdhldhbjomiaaaDoor
