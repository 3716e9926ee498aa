/-
  Merged texts: lemmas and walks that the last text of this claim leans on.
-/
import Derived.Test.YtneinkpfhkojgaaDoorMgF132
import Derived.Test.YtneinkpfhkojgaaDoorMgF134
import Derived.Test.YtneinkpfhkojgaaDoorMgF131
import Derived.Deep.LoopGhost
import Derived.Test.YtneinkpfhkojgaaDoorMgF133
import Derived.Deep.Cut
import Derived.Deep.CutRange
import Derived.BigQuiet
import Derived.WalkSmall
/-
  The walks through table.scripts, table.targets and the reference's sized: rule 4.
-/
namespace Go.Proofs.YtneinkpfhkojgaaDoor
open Go.RowKit ND

/-- What is asked of a script number behind another one. -/
def scrOk (last s : Int) : Bool := decide (3 ≤ s ∧ s ≤ 60 ∧ last < s)
theorem scr_go {last c : Int} {xs : List Int} {k : Nat} {R : Bool} (hx : xs[k]? = some c) (h : scrG last (xs.drop k) = R) (h1 : scrOk last c = true) : scrG c (xs.drop (k + 1)) = R := by
  rw [drop_of_get hx, scrG] at h; unfold scrOk at h1; rw [h1, Bool.true_and] at h; exact h
theorem scr_no {last c : Int} {xs : List Int} {k : Nat} {R : Bool} (hx : xs[k]? = some c) (h : scrG last (xs.drop k) = R) (h1 : scrOk last c = false) : R = false := by
  rw [drop_of_get hx, scrG] at h; unfold scrOk at h1; rw [h1, Bool.false_and] at h; exact h.symm
theorem scr_end {last : Int} {xs : List Int} {k : Nat} {R : Bool} (hk : xs.length ≤ k) (h : scrG last (xs.drop k) = R) : R = true := by
  rw [List.drop_eq_nil_of_le hk] at h; exact h.symm
/-- The ways through the test of a script number; j: its index. -/
theorem scr_ways (last s : Int) (j : Nat) (h : j = 0 → last = 2) : (scrOk last s = false ∧ decide (s < 3) = true) ∨ (scrOk last s = false ∧ decide (s < 3) = false ∧ decide (60 < s) = true) ∨
    (scrOk last s = true ∧ decide (s < 3) = false ∧ decide (60 < s) = false ∧ j = 0) ∨ (scrOk last s = false ∧ decide (s < 3) = false ∧ decide (60 < s) = false ∧ 0 < j ∧ decide (s ≤ last) = true) ∨
    (scrOk last s = true ∧ decide (s < 3) = false ∧ decide (60 < s) = false ∧ 0 < j ∧ decide (s ≤ last) = false) := by
  unfold scrOk
  simp only [decide_eq_true_eq, decide_eq_false_iff_not]
  rcases Nat.eq_zero_or_pos j with hj | hj
  · have := h hj; omega
  · omega

set_option maxRecDepth 100000 in
set_option maxHeartbeats 1000000 in
theorem scripts_check (v : Value) (xs : List Int) (w : World) (hv : Ints w w.heap.size .i64 v xs) :
    Calls Tryd.prog 92 #[v] w fun e w' => e = .returned (.bool (scrG 2 xs)) ∧ w = w' := by
  obtain ⟨A, c, rfl, hc1, hc2, _, hcell⟩ := hv
  have HC := Lib.hid hcell
  have hlm : xs.length ≤ 9223372036854775807 := by unfold maxLen at hc2; omega
  clear hcell hc1 hc2
  obtain ⟨R, hR⟩ : ∃ R, R = scrG 2 xs := ⟨_, rfl⟩
  rw [← hR]
  have HR : Hid (scrG 2 (xs.drop 0) = R) := Lib.hid hR.symm
  clear hR
  go_enter Tryd.func92, Tryd.ntmps92
  go_wp2_with fail
  go_loop [7] (fun i => ∃ (j : Nat) (last : Int), j ≤ xs.length ∧ i = .int .i64 j ∧ Hid ((j = 0 → last = 2) ∧ (∀ i, j = i + 1 → xs[i]? = some last)) ∧ Hid (scrG last (xs.drop j) = R)) (fun i => xs.length - (intOf i).toNat)
  case atStart => exact ⟨0, 2, by omega, rfl, Lib.hid ⟨fun _ => rfl, fun i h => by omega⟩, HR⟩
  case round =>
    obtain ⟨j, last, hj, rfl, HL, HS⟩ := hrel
    clear HR
    by_cases hjl : j < xs.length
    · obtain ⟨s, hxj, _⟩ := get_el hjl
      obtain ⟨aj, rfl, ha, d0⟩ := HC.out j _ hxj
      have HX := Lib.hid hxj
      have HL2 : Hid ((j + 1 = 0 → s = 2) ∧ (∀ i, j + 1 = i + 1 → xs[i]? = some s)) := Lib.hid ⟨fun h => by omega, fun i h => by rw [show i = j by omega]; exact hxj⟩
      have r0 : (0 : Int) ≤ (j : Int) := by omega
      have r1 : (j : Int) < (xs.length : Int) := by omega
      clear hxj ha
      rcases scr_ways last s j HL.out.1 with ⟨ho, p0⟩ | ⟨ho, p0, p1⟩ | ⟨ho, p0, p1, p2⟩ | ⟨ho, p0, p1, p2, p3⟩ | ⟨ho, p0, p1, p2, p3⟩
      · have HN := Lib.hid (scr_no HX.out HS.out ho)
        clear ho HL
        go_wp2_with fail
        go_ret
        rw [HN.out]
        exact ⟨rfl, rfl⟩
      · have HN := Lib.hid (scr_no HX.out HS.out ho)
        clear ho HL
        go_wp2_with fail
        go_ret
        rw [HN.out]
        exact ⟨rfl, rfl⟩
      · have HN := Lib.hid (scr_go HX.out HS.out ho)
        have g0 : decide (0 < j) = false := by rw [decide_eq_false_iff_not]; omega
        clear ho HL p2
        go_wp2_with fail
        go_round
        case rel => exact ⟨j + 1, s, by omega, by go_num, HL2, HN⟩
        case measure => simp [intOf]; omega
      · have HN := Lib.hid (scr_no HX.out HS.out ho)
        obtain ⟨j', hj'⟩ : ∃ j', j = j' + 1 := ⟨j - 1, by omega⟩
        have hxp := HL.out.2 j' hj'
        obtain ⟨ap, hap, _, e0⟩ := HC.out j' _ hxp
        cases hap
        have hw : IntKind.i64.wrap ((j : Int) - 1) = j' := by rw [IntWalk.i64_in _ (by omega)]; omega
        have hw2 : (j : Int) - 1 = j' := by omega
        have s0 : (0 : Int) ≤ (j' : Int) := by omega
        have s1 : (j' : Int) < (xs.length : Int) := by omega
        have HJ := Lib.hid hj'
        clear ho HL hxp hj'
        go_wp2_with fail
        go_ret
        rw [HN.out]
        exact ⟨rfl, rfl⟩
      · have HN := Lib.hid (scr_go HX.out HS.out ho)
        obtain ⟨j', hj'⟩ : ∃ j', j = j' + 1 := ⟨j - 1, by omega⟩
        have hxp := HL.out.2 j' hj'
        obtain ⟨ap, hap, _, e0⟩ := HC.out j' _ hxp
        cases hap
        have hw : IntKind.i64.wrap ((j : Int) - 1) = j' := by rw [IntWalk.i64_in _ (by omega)]; omega
        have hw2 : (j : Int) - 1 = j' := by omega
        have s0 : (0 : Int) ≤ (j' : Int) := by omega
        have s1 : (j' : Int) < (xs.length : Int) := by omega
        have HJ := Lib.hid hj'
        clear ho HL hxp hj'
        go_wp2_with fail
        go_round
        case rel => exact ⟨j + 1, s, by omega, by go_num, HL2, HN⟩
        case measure => simp [intOf]; omega
    · have HN := Lib.hid (scr_end (by omega) HS.out)
      go_wp2_with fail
      go_ret
      rw [HN.out]
      exact ⟨rfl, rfl⟩

/-- Rule 4, list by list. -/
def mpTo (p : List Mp × Nat) : Bool := p.1.all (toB (p.2 == 0))
theorem rule4_zip (T : Tab) : T.rule4 = T.mps.zipIdx.all mpTo := by
  unfold Tab.rule4 Tab.mps
  simp only [List.zipIdx_cons, List.zipIdx_nil, List.all_cons, List.all_nil, Bool.and_true]
  rfl
theorem zip_at' {T : Tab} {k : Nat} {p : List Mp × Nat} (h : T.mps.zipIdx[k]? = some p) : p.2 = k ∧ T.mps[k]? = some p.1 := by
  rw [List.getElem?_zipIdx] at h
  cases hm : T.mps[k]? with
  | none => rw [hm] at h; cases h
  | some m => rw [hm] at h; cases h; exact ⟨by simp, rfl⟩
theorem to_ways (k : Nat) (c : Int) (tg : List Int) : (toB (k == 0) (c, tg) = false ∧ decide ((tg.length : Int) < 1) = true) ∨ (toB (k == 0) (c, tg) = false ∧ decide ((tg.length : Int) < 1) = false ∧ decide (18 < (tg.length : Int)) = true) ∨
    (toB (k == 0) (c, tg) = scrG 2 tg ∧ decide ((tg.length : Int) < 1) = false ∧ decide (18 < (tg.length : Int)) = false ∧ ((k : Int) == 0) = true) ∨
    (toB (k == 0) (c, tg) = tg.all scalarB ∧ decide ((tg.length : Int) < 1) = false ∧ decide (18 < (tg.length : Int)) = false ∧ ((k : Int) == 0) = false) := by
  unfold toB
  simp only
  by_cases h1 : tg.length < 1
  · exact .inl ⟨by rw [decide_eq_false (by omega)]; rfl, decide_eq_true (by omega)⟩
  · by_cases h2 : 18 < tg.length
    · exact .inr (.inl ⟨by rw [decide_eq_false (by omega)]; rfl, decide_eq_false (by omega), decide_eq_true (by omega)⟩)
    · rw [decide_eq_true (show 1 ≤ tg.length ∧ tg.length ≤ 18 by omega), Bool.true_and]
      by_cases hk : k = 0
      · subst hk
        exact .inr (.inr (.inl ⟨rfl, decide_eq_false (by omega), decide_eq_false (by omega), rfl⟩))
      · have e2 : (k == 0) = false := by rw [beq_eq_false_iff_ne]; exact hk
        have e : ((k : Int) == 0) = false := by rw [beq_eq_false_iff_ne]; omega
        rw [e, e2]
        exact .inr (.inr (.inr ⟨rfl, decide_eq_false (by omega), decide_eq_false (by omega), rfl⟩))
theorem len_ways (c : Int) : (scalarB c = true ∧ ((lenC c : Int) == 0) = false) ∨ (scalarB c = false ∧ ((lenC c : Int) == 0) = true) := by
  cases h : scalarB c
  · exact .inr ⟨rfl, by rw [beq_iff_eq]; have := lenC_zero.2 h; omega⟩
  · exact .inl ⟨rfl, by rw [beq_eq_false_iff_ne]; intro e; have := lenC_zero.1 (show lenC c = 0 by omega); rw [h] at this; cases this⟩

set_option maxRecDepth 100000 in
set_option maxHeartbeats 4000000 in
theorem targets_any (t : Tv) (T : Tab) (w : World) (ht : TabR w w.heap.size t T) :
    Calls Tryd.prog 71 #[t.val] w fun e w' => e = .returned (.bool T.rule4) ∧ Below w.heap.size w w' := by
  obtain ⟨A0, A1, A2, A3, A4, A5, A6, A7, A8, A9, A10, A11, k0, k1, k2, k3, k4, k5, k6, k7, k8, k9, k10, k11, rfl⟩ := ht.shape
  have HR := Lib.hid (fun o : Obj => ht.later ((Below.refl _ _).alloc (Nat.le_refl _) o))
  clear ht
  obtain ⟨R, hR⟩ : ∃ R, R = T.rule4 := ⟨_, rfl⟩
  rw [← hR]
  have HR2 : Hid ((T.mps.zipIdx.drop 0).all mpTo = R) := Lib.hid (by rw [hR, rule4_zip]; rfl)
  clear hR
  go_enter Tryd.func71, Tryd.ntmps71
  go_wp2_with fail
  refine (mappings_any _ T _ (HR.out _)).mono ?_
  rintro e w2 ⟨am, rfl, hm, b2⟩
  have HM := Lib.hid hm.2
  have hma := hm.1
  have hbel2 := below_next ((Below.refl _ _).alloc (Nat.le_refl _) _) b2
  clear hm b2 HR
  go_wp2_with fail
  go_loopw [12] (fun i wr => ∃ (k : Nat), k ≤ 4 ∧ i = .int .i64 k ∧ Hid ((T.mps.zipIdx.drop k).all mpTo = R) ∧ Below w2.heap.size w2 wr) (fun i _ => 4 - (intOf i).toNat)
  case atStart => exact ⟨0, by omega, rfl, HR2, Below.refl _ _⟩
  case round =>
    obtain ⟨k, hk, rfl, HS, hbel⟩ := hrel
    clear HR2
    by_cases hlt : k < 4
    · obtain ⟨⟨l, k'⟩, hxk, _⟩ := get_el (xs := T.mps.zipIdx) (k := k) hlt
      obtain ⟨hk', hxm⟩ := zip_at' hxk
      simp only at hk' hxm
      subst hk'
      obtain ⟨v, d0, hv⟩ := HM.out k' _ hxm
      obtain ⟨A, c, rfl, hc1, hc2, _, hcell⟩ := id hv
      have HCE := Lib.hid hcell
      have hlm : l.length ≤ 9223372036854775807 := by unfold maxLen at hc2; omega
      have e0 := (hbel.cell (p := am.add k') (by rw [block_of_add]; exact hma)).trans d0
      have HX := Lib.hid hxk
      obtain ⟨Ro, hRo⟩ : ∃ Ro, Ro = l.all (toB (k' == 0)) := ⟨_, rfl⟩
      have HO : Hid ((l.drop 0).all (toB (k' == 0)) = Ro) := Lib.hid hRo.symm
      have HCO : Hid (mpTo (l, k') = Ro) := Lib.hid hRo.symm
      clear d0 hxk hxm hcell hv hc1 hc2 hRo
      have q0 : (0 : Int) ≤ (k' : Int) := by omega
      have q1 : (k' : Int) < (4 : Int) := by omega
      go_wp2_with fail
      clear e0
      go_loopw [19] (fun i wr => ∃ (j : Nat), j ≤ l.length ∧ i = .int .i64 j ∧ Hid ((l.drop j).all (toB (k' == 0)) = Ro) ∧ Below w2.heap.size w2 wr) (fun i _ => l.length - (intOf i).toNat)
      case atStart => exact ⟨0, by omega, rfl, HO, hbel⟩
      case round =>
        obtain ⟨j, hj, rfl, HSj, hbelj⟩ := hrel
        clear HO hbel
        by_cases hjl : j < l.length
        · obtain ⟨⟨cc, tg⟩, hxj, _⟩ := get_el hjl
          obtain ⟨aj, sv, rfl, ha, d0, d1, hto⟩ := HCE.out j _ hxj
          simp only at d0 d1 hto
          obtain ⟨A', c', rfl, hd1, hd2, _, hcell⟩ := id hto
          have HTO := Lib.hid (fun o => (hto.below hbelj |>.more hbelj.size).later ((Below.refl _ _).alloc (Nat.le_refl _) o))
          have HTC := Lib.hid hcell
          obtain ⟨e0, e1⟩ := map_cells hbelj ha d0 d1
          have HXj := Lib.hid hxj
          have hlt2 : tg.length ≤ 9223372036854775807 := by unfold maxLen at hd2; omega
          clear d0 d1 hxj ha hto hcell hd1 hd2
          have r0 : (0 : Int) ≤ (j : Int) := by omega
          have r1 : (j : Int) < (l.length : Int) := by omega
          rcases to_ways k' cc tg with ⟨ho, p0⟩ | ⟨ho, p0, p1⟩ | ⟨ho, p0, p1, p2⟩ | ⟨ho, p0, p1, p2⟩
          · have HN := Lib.hid (each_no HXj.out HSj.out ho)
            clear ho HTO
            go_wp2_with fail
            go_ret
            rw [each_no HX.out HS.out (HCO.out.trans HN.out)]
            exact ⟨rfl, below_next hbel2 (hbelj.alloc hbelj.size _)⟩
          · have HN := Lib.hid (each_no HXj.out HSj.out ho)
            clear ho HTO
            go_wp2_with fail
            go_ret
            rw [each_no HX.out HS.out (HCO.out.trans HN.out)]
            exact ⟨rfl, below_next hbel2 (hbelj.alloc hbelj.size _)⟩
          · have HSC := Lib.hid (fun W h => scripts_check (.slice A' tg.length c') tg W h)
            cases hsc : scrG 2 tg
            · rw [hsc] at HSC
              have HN := Lib.hid (each_no HXj.out HSj.out (ho.trans hsc))
              clear ho hsc
              go_wp2_with fail
              refine (HSC.out _ (HTO.out _)).mono ?_
              rintro e w' ⟨rfl, rfl⟩
              go_wp2_with fail
              go_ret
              rw [each_no HX.out HS.out (HCO.out.trans HN.out)]
              exact ⟨rfl, below_next hbel2 (hbelj.alloc hbelj.size _)⟩
            · rw [hsc] at HSC
              have HN := Lib.hid (each_go HXj.out HSj.out (ho.trans hsc))
              clear ho hsc
              go_wp2_with fail
              refine (HSC.out _ (HTO.out _)).mono ?_
              rintro e w' ⟨rfl, rfl⟩
              go_wp2_with fail
              go_roundw
              case rel => exact ⟨j + 1, by omega, by go_num, HN, hbelj.alloc hbelj.size _⟩
              case measure => simp [intOf]; omega
          · obtain ⟨Rs, hRs⟩ : ∃ Rs, Rs = tg.all scalarB := ⟨_, rfl⟩
            have HO : Hid ((tg.drop 0).all scalarB = Rs) := Lib.hid hRs.symm
            have HTS : Hid (toB (k' == 0) (cc, tg) = Rs) := Lib.hid (ho.trans hRs.symm)
            have hbelw := hbelj.alloc hbelj.size (.cells #[.int .i64 cc, .slice A' tg.length c'] 46)
            clear ho hRs HTO
            go_wp2_with fail
            generalize World.alloc _ (.cells #[.int .i64 cc, .slice A' tg.length c'] 46) = wo at *
            clear e0 e1 hbelj
            go_loop [42] (fun i => ∃ (m : Nat), m ≤ tg.length ∧ i = .int .i64 m ∧ Hid ((tg.drop m).all scalarB = Rs)) (fun i => tg.length - (intOf i).toNat)
            case atStart => exact ⟨0, by omega, rfl, HO⟩
            case round =>
              obtain ⟨m, hm, rfl, HSm⟩ := hrel
              clear HO
              by_cases hml : m < tg.length
              · obtain ⟨x, hxm, _⟩ := get_el hml
                obtain ⟨ax, rfl, hax, d0⟩ := HTC.out m _ hxm
                have e0 := (hbelw.cell (p := ax.add m) (by rw [block_of_add]; exact hax)).trans d0
                have HXm := Lib.hid hxm
                have s0 : (0 : Int) ≤ (m : Int) := by omega
                have s1 : (m : Int) < (tg.length : Int) := by omega
                have HLE := Lib.hid (fun W => length_any x W)
                clear d0 hxm hax
                rcases len_ways x with ⟨hx, pz⟩ | ⟨hx, pz⟩
                · have HN := Lib.hid (each_go HXm.out HSm.out hx)
                  clear hx
                  go_wp2_with fail
                  refine (HLE.out _).mono ?_
                  rintro e w' ⟨rfl, rfl⟩
                  go_wp2_with fail
                  go_round
                  case rel => exact ⟨m + 1, by omega, by go_num, HN⟩
                  case measure => simp [intOf]; omega
                · have HN := Lib.hid (each_no HXm.out HSm.out hx)
                  clear hx
                  go_wp2_with fail
                  refine (HLE.out _).mono ?_
                  rintro e w' ⟨rfl, rfl⟩
                  go_wp2_with fail
                  go_ret
                  rw [each_no HX.out HS.out (HCO.out.trans (each_no HXj.out HSj.out (HTS.out.trans HN.out)))]
                  exact ⟨rfl, below_next hbel2 hbelw⟩
              · have HN := Lib.hid (each_go HXj.out HSj.out (HTS.out.trans (each_end (by omega) HSm.out)))
                go_wp2_with fail
                go_roundw
                case rel => exact ⟨j + 1, by omega, by go_num, HN, hbelw⟩
                case measure => simp [intOf]; omega
        · have HN := Lib.hid (each_go HX.out HS.out (HCO.out.trans (each_end (by omega) HSj.out)))
          go_wp2_with fail
          go_roundw
          case rel => exact ⟨k' + 1, by omega, by go_num, HN, hbelj⟩
          case measure => simp [intOf]; omega
    · have HN := Lib.hid (each_end (by show 4 ≤ k; omega) HS.out)
      go_wp2_with fail
      go_ret
      rw [HN.out]
      exact ⟨rfl, below_next hbel2 hbel⟩
end Go.Proofs.YtneinkpfhkojgaaDoor
/-
  The walks through table.plain, table.prototyped and table.Check.
-/
namespace Go.Proofs.YtneinkpfhkojgaaDoor
open Go.RowKit ND

set_option maxRecDepth 100000 in
set_option maxHeartbeats 1000000 in
theorem plain_any (t : Tv) (T : Tab) (hsh : Shape T) (hne : ∀ m ∈ T.decomps, m.2 ≠ [] ∧ m.2.length ≤ 1000) (c : Int) (w : World) (ht : TabR w w.heap.size t T) :
    Calls Tryd.prog 97 #[t.val, .int .i64 c] w fun e w' => e = .returned (.bool (T.plainB c)) ∧ Below w.heap.size w w' := by
  have HT := Lib.hid (fun W (h : Below w.heap.size w W) => ht.later h)
  have HI := Lib.hid (fun W h => ignorable_any t T c 0 1114111 W h hsh.c6.1 hsh.c6.2.1)
  obtain ⟨tc, htc⟩ : ∃ tc, tc = t.cells := ⟨_, rfl⟩
  obtain ⟨A0, A1, A2, A3, A4, A5, A6, A7, A8, A9, A10, A11, k0, k1, k2, k3, k4, k5, k6, k7, k8, k9, k10, k11, rfl⟩ := ht.shape
  have HF := Lib.hid (fun W (h : Mapps W W.heap.size (.slice A9 T.decomps.length k9) T.decomps) => find_any _ T.decomps c W h (keysB_sort hsh.kd) (fun m hm => (hne m hm).1) hsh.ld)
  have HTC := Lib.hid htc
  have heq := fun (w : World) (a : Option Addr) (n c : Nat) => Lib.run_eql_slice_nil (P := Tryd.prog) w 22 3 a n c 0 0 Tryd.underlying22
  have HB0 := Lib.hid (show Blk (w.alloc (.cells tc 26)) w.heap.size 26 tc from Blk.new _ _ _)
  rw [htc] at HB0
  clear ht htc hne hsh
  obtain ⟨R, hR⟩ : ∃ R, R = T.plainB c := ⟨_, rfl⟩
  rw [← hR]
  have HR : Hid (R = (decide (findL T.decomps c = []) && !T.ignB c)) := Lib.hid hR
  clear hR
  go_enter Tryd.func97, Tryd.ntmps97
  go_wp2_with fail
  refine (HF.out _ (HT.out _ ((Below.refl _ _).alloc (Nat.le_refl _) _)).r9).mono ?_
  rintro e w1 ⟨u, rfl, hu, hun, b1⟩
  have HB1 := Lib.hid (HB0.out.later b1)
  have hbel1 := below_next ((Below.refl w.heap.size w).alloc (Nat.le_refl _) _) b1
  rcases nilB_ways hu hun with ⟨hn, rfl⟩ | ⟨hn, ad, cu, rfl⟩
  · have HR2 : Hid (R = !T.ignB c) := Lib.hid (by rw [HR.out, decide_eq_true hn, Bool.true_and])
    obtain ⟨x0, x1, x2, x3, x4, x5, x6, x7, x8, x9, x10, x11⟩ := HB1.out.tab
    have HIW := Lib.hid (HI.out w1 (HT.out _ hbel1))
    clear hu hun hn HB0 HR b1
    go_wp2_with fail
    refine HIW.out.mono ?_
    rintro e w2 ⟨rfl, b2⟩
    clear x0 x1 x2 x3 x4 x5 x6 x7 x8 x9 x10 x11
    go_wp2_with fail
    go_ret
    rw [HR2.out]
    exact ⟨rfl, below_next hbel1 b2⟩
  · have HR2 : Hid (R = false) := Lib.hid (by rw [HR.out, decide_eq_false hn, Bool.false_and])
    clear hu hun hn HB0 HR b1
    go_wp2_with fail
    go_ret
    rw [HR2.out]
    exact ⟨rfl, hbel1⟩

theorem pel_ways (T : Tab) (c : Int) : (T.protoEl c = false ∧ T.plainB c = false) ∨ (T.protoEl c = false ∧ T.plainB c = true ∧ sylB c = true) ∨ (T.plainB c = true ∧ sylB c = false ∧ T.protoEl c = decide (findL T.prototypes c = [])) := by
  unfold Tab.protoEl
  cases T.plainB c <;> cases sylB c <;> simp

set_option maxRecDepth 100000 in
set_option maxHeartbeats 4000000 in
theorem prototyped_any (t : Tv) (T : Tab) (hsh : Shape T) (hsz : Sized T) (w : World) (ht : TabR w w.heap.size t T) :
    Calls Tryd.prog 76 #[t.val] w fun e w' => e = .returned (.bool T.rule9) ∧ Below w.heap.size w w' := by
  obtain ⟨tc, htc⟩ : ∃ tc, tc = t.cells := ⟨_, rfl⟩
  have HPL := Lib.hid (fun c W h => plain_any t T hsh hsz.nd c W h)
  have HT := Lib.hid (fun W (h : Below w.heap.size w W) => ht.later h)
  have hmp := ht.r11
  obtain ⟨A0, A1, A2, A3, A4, A5, A6, A7, A8, A9, A10, A11, k0, k1, k2, k3, k4, k5, k6, k7, k8, k9, k10, k11, rfl⟩ := ht.shape
  have HTC := Lib.hid htc
  have HFP := Lib.hid (fun c W (h : Mapps W W.heap.size (.slice A11 T.prototypes.length k11) T.prototypes) => find_any _ T.prototypes c W h (keysB_sort hsh.kp) (fun m hm => (hsz.np m hm).1) hsh.lp)
  obtain ⟨B, cq, hB, _, _, _, hcell2⟩ := hmp
  cases hB
  have HM := Lib.hid hcell2
  have hlp := hsh.lp
  have hnq := fun (w : World) (a : Option Addr) (n c : Nat) => run_neq_slice_nil_any (P := Tryd.prog) w 22 3 a n c 0 0 Tryd.underlying22
  clear ht htc hcell2 hsh hsz
  obtain ⟨R, hR⟩ : ∃ R, R = T.rule9 := ⟨_, rfl⟩
  rw [← hR]
  have HR0 : Hid ((T.prototypes.drop 0).all T.protoOk = R) := Lib.hid hR.symm
  clear hR
  go_enter Tryd.func76, Tryd.ntmps76
  go_wp2_with fail
  go_loopw [10] (fun i wr => ∃ (j : Nat), j ≤ T.prototypes.length ∧ i = .int .i64 j ∧ Hid ((T.prototypes.drop j).all T.protoOk = R) ∧ Below w.heap.size w wr ∧ Hid (Blk wr w.heap.size 26 tc)) (fun i _ => T.prototypes.length - (intOf i).toNat)
  case atStart => exact ⟨0, by omega, rfl, HR0, (Below.refl _ _).alloc (Nat.le_refl _) _, Lib.hid (by rw [HTC.out]; exact Blk.new _ _ _)⟩
  case round =>
    obtain ⟨j, hj, rfl, HS, hbel, HB⟩ := hrel
    clear HR0
    by_cases hjl : j < T.prototypes.length
    · obtain ⟨⟨cc, tg⟩, hxj, _⟩ := get_el hjl
      obtain ⟨aj, sv, rfl, ha, d0, d1, hto⟩ := HM.out j _ hxj
      simp only at d0 d1 hto
      obtain ⟨A', c', rfl, he1, he2, _, hcl⟩ := id hto
      have HTO := Lib.hid hcl
      have hlt : tg.length ≤ 9223372036854775807 := by unfold maxLen at he2; omega
      obtain ⟨e0, e1⟩ := map_cells hbel ha d0 d1
      have HX := Lib.hid hxj
      have hbelw := hbel.alloc hbel.size (.cells #[.int .i64 cc, .slice A' tg.length c'] 46)
      have HB' := Lib.hid (HB.out.alloc (.cells #[.int .i64 cc, .slice A' tg.length c'] 46))
      obtain ⟨x0, x1, x2, x3, x4, x5, x6, x7, x8, x9, x10, x11⟩ := (show Blk _ _ _ #[_, _, _, _, _, _, _, _, _, _, _, _] from by have h := HB'.out; rw [HTC.out] at h; exact h).tab
      have HP1 := Lib.hid (HPL.out cc _ (HT.out _ hbelw))
      clear d0 d1 hxj ha hto hcl he1 he2 HB
      have r0 : (0 : Int) ≤ (j : Int) := by omega
      have r1 : (j : Int) < (T.prototypes.length : Int) := by omega
      cases hpl : T.plainB cc
      · have HN := Lib.hid (each_no HX.out HS.out (by unfold Tab.protoOk; simp only; rw [hpl]; rfl))
        rw [hpl] at HP1
        clear hpl
        go_wp2_with fail
        refine HP1.out.mono ?_
        rintro e w2 ⟨rfl, b2⟩
        clear x0 x1 x2 x3 x4 x5 x6 x7 x8 x9 x10 x11 e0 e1
        go_wp2_with fail
        go_ret
        rw [HN.out]
        exact ⟨rfl, below_next hbelw b2⟩
      · obtain ⟨Rt, hRt⟩ : ∃ Rt, Rt = tg.all T.protoEl := ⟨_, rfl⟩
        have HO : Hid ((tg.drop 0).all T.protoEl = Rt) := Lib.hid hRt.symm
        have HOK : Hid (T.protoOk (cc, tg) = Rt) := Lib.hid (by rw [hRt]; unfold Tab.protoOk; simp only; rw [hpl, Bool.true_and])
        rw [hpl] at HP1
        clear hpl hRt
        go_wp2_with fail
        refine HP1.out.mono ?_
        rintro e w2 ⟨rfl, b2⟩
        have hbel2 := below_next hbelw b2
        have HB2 := Lib.hid (HB'.out.later b2)
        have m1 := ((Blk.new wr 46 #[.int .i64 cc, .slice A' tg.length c']).later b2).at_ (i := 1) (u := .slice A' tg.length c') rfl
        clear x0 x1 x2 x3 x4 x5 x6 x7 x8 x9 x10 x11 e0 e1 hbel hbelw HB' b2
        go_wp2_with fail
        clear m1
        go_loopw [22] (fun i wr => ∃ (q : Nat), q ≤ tg.length ∧ i = .int .i64 q ∧ Hid ((tg.drop q).all T.protoEl = Rt) ∧ Below w.heap.size w wr ∧ Hid (Blk wr w.heap.size 26 tc)) (fun i _ => tg.length - (intOf i).toNat)
        case atStart => exact ⟨0, by omega, rfl, HO, hbel2, HB2⟩
        case round =>
          obtain ⟨q, hq, rfl, HSq, hbelq, HBq⟩ := hrel
          clear HO HB2 hbel2
          by_cases hql : q < tg.length
          · obtain ⟨y, hyq, _⟩ := get_el hql
            obtain ⟨ay, rfl, hay, d0⟩ := HTO.out q _ hyq
            have e0 := (hbelq.cell (p := ay.add q) (by rw [block_of_add]; exact hay)).trans d0
            have HXq := Lib.hid hyq
            obtain ⟨x0, x1, x2, x3, x4, x5, x6, x7, x8, x9, x10, x11⟩ := (show Blk _ _ _ #[_, _, _, _, _, _, _, _, _, _, _, _] from by have h := HBq.out; rw [HTC.out] at h; exact h).tab
            have HP2 := Lib.hid (HPL.out y _ (HT.out _ hbelq))
            have HSY := Lib.hid (fun W => syl_any y W)
            clear d0 hyq hay
            have s0 : (0 : Int) ≤ (q : Int) := by omega
            have s1 : (q : Int) < (tg.length : Int) := by omega
            rcases pel_ways T y with ⟨ho, u0⟩ | ⟨ho, u0, u1⟩ | ⟨u0, u1, ho⟩
            · have HN := Lib.hid (each_no HXq.out HSq.out ho)
              rw [u0] at HP2
              clear ho u0
              go_wp2_with fail
              refine HP2.out.mono ?_
              rintro e w3 ⟨rfl, b3⟩
              clear x0 x1 x2 x3 x4 x5 x6 x7 x8 x9 x10 x11 e0
              go_wp2_with fail
              go_ret
              rw [each_no HX.out HS.out (HOK.out.trans HN.out)]
              exact ⟨rfl, below_next hbelq b3⟩
            · have HN := Lib.hid (each_no HXq.out HSq.out ho)
              rw [u0] at HP2
              rw [u1] at HSY
              clear ho u0 u1
              go_wp2_with fail
              refine HP2.out.mono ?_
              rintro e w3 ⟨rfl, b3⟩
              clear x0 x1 x2 x3 x4 x5 x6 x7 x8 x9 x10 x11 e0
              go_wp2_with fail
              refine (HSY.out _).mono ?_
              rintro e w4 ⟨rfl, rfl⟩
              go_wp2_with fail
              go_ret
              rw [each_no HX.out HS.out (HOK.out.trans HN.out)]
              exact ⟨rfl, below_next hbelq b3⟩
            · have HOE := Lib.hid ho
              rw [u0] at HP2
              rw [u1] at HSY
              clear ho u0 u1
              go_wp2_with fail
              refine HP2.out.mono ?_
              rintro e w3 ⟨rfl, b3⟩
              have hbel3 := below_next hbelq b3
              have HB3 := Lib.hid (HBq.out.later b3)
              have y11 := (show Blk _ _ _ #[_, _, _, _, _, _, _, _, _, _, _, _] from by have h := HB3.out; rw [HTC.out] at h; exact h).at_ (i := 11) rfl
              have HFQ := Lib.hid (HFP.out y _ (HT.out _ hbel3).r11)
              clear x0 x1 x2 x3 x4 x5 x6 x7 x8 x9 x10 x11 e0 b3 HBq
              go_wp2_with fail
              refine (HSY.out _).mono ?_
              rintro e w4 ⟨rfl, rfl⟩
              go_wp2_with fail
              refine HFQ.out.mono ?_
              rintro e w4 ⟨u, rfl, hu, hun, b4⟩
              rcases nilB_ways hu hun with ⟨hn, rfl⟩ | ⟨hn, adu, cu, rfl⟩
              · have HN := Lib.hid (each_go HXq.out HSq.out (HOE.out.trans (decide_eq_true hn)))
                have HB4 := Lib.hid (HB3.out.later b4)
                clear hu hun hn y11 HB3
                go_wp2_with fail
                go_roundw
                case rel => exact ⟨q + 1, by omega, by go_num, HN, below_next hbel3 b4, HB4⟩
                case measure => simp [intOf]; omega
              · have HN := Lib.hid (each_no HXq.out HSq.out (HOE.out.trans (decide_eq_false hn)))
                clear hu hun hn y11 HB3
                go_wp2_with fail
                go_ret
                rw [each_no HX.out HS.out (HOK.out.trans HN.out)]
                exact ⟨rfl, below_next hbel3 b4⟩
          · have HN := Lib.hid (each_go HX.out HS.out (HOK.out.trans (each_end (by omega) HSq.out)))
            go_wp2_with fail
            go_roundw
            case rel => exact ⟨j + 1, by omega, by go_num, HN, hbelq, HBq⟩
            case measure => simp [intOf]; omega
    · have HN := Lib.hid (each_end (by omega) HS.out)
      go_wp2_with fail
      go_ret
      rw [HN.out]
      exact ⟨rfl, hbel⟩
end Go.Proofs.YtneinkpfhkojgaaDoor
/-
  The walk through table.Check.
-/
namespace Go.Proofs.YtneinkpfhkojgaaDoor
open Go.RowKit ND

def rulesL (T : Tab) : List Bool := [T.rule1, T.rule2, T.rule3, T.rule4, T.rule5, T.rule6, T.rule7, T.rule8, T.rule9]
theorem check_first {T : Tab} {k : Nat} (h : rulesL T = (List.replicate k true ++ false :: (rulesL T).drop (k + 1))) : T.check = (k : Int) + 1 := by
  have hk : k < 9 := by
    have := congrArg List.length h
    simp [rulesL] at this
    omega
  unfold Tab.check
  have h9 : k = 0 ∨ k = 1 ∨ k = 2 ∨ k = 3 ∨ k = 4 ∨ k = 5 ∨ k = 6 ∨ k = 7 ∨ k = 8 := by omega
  rcases h9 with rfl | rfl | rfl | rfl | rfl | rfl | rfl | rfl | rfl <;> simp [rulesL, List.replicate] at h <;> simp [h]
theorem check_all {T : Tab} (h : rulesL T = List.replicate 9 true) : T.check = 0 := by
  simp [rulesL, List.replicate] at h
  unfold Tab.check
  simp [h]
/-- The first k rules hold. -/
def HoldTo (T : Tab) (k : Nat) : Prop := (rulesL T).take k = List.replicate k true
theorem HoldTo.parts {T : Tab} {k : Nat} (h : HoldTo T k) (hk : k ≤ 9) : (1 ≤ k → T.rule1 = true) ∧ (2 ≤ k → T.rule2 = true) ∧ (3 ≤ k → T.rule3 = true) ∧ (4 ≤ k → T.rule4 = true) ∧ (5 ≤ k → T.rule5 = true) ∧ (6 ≤ k → T.rule6 = true) ∧ (7 ≤ k → T.rule7 = true) ∧ (8 ≤ k → T.rule8 = true) ∧ (9 ≤ k → T.rule9 = true) := by
  have key : ∀ i, i < k → (rulesL T)[i]? = some true := by
    intro i hi
    have h1 : ((rulesL T).take k)[i]? = some true := by rw [h]; simp [hi]
    rw [List.getElem?_take, if_pos hi] at h1
    exact h1
  exact ⟨fun h => Option.some.inj (key 0 (by omega)), fun h => Option.some.inj (key 1 (by omega)), fun h => Option.some.inj (key 2 (by omega)), fun h => Option.some.inj (key 3 (by omega)), fun h => Option.some.inj (key 4 (by omega)), fun h => Option.some.inj (key 5 (by omega)), fun h => Option.some.inj (key 6 (by omega)), fun h => Option.some.inj (key 7 (by omega)), fun h => Option.some.inj (key 8 (by omega))⟩
theorem HoldTo.zero (T : Tab) : HoldTo T 0 := rfl
theorem HoldTo.next {T : Tab} {k : Nat} (h : HoldTo T k) (hr : (rulesL T)[k]? = some true) : HoldTo T (k + 1) := by
  unfold HoldTo at h ⊢
  rw [take_snoc' hr, h, List.replicate_succ']
theorem HoldTo.fail {T : Tab} {k : Nat} (h : HoldTo T k) (hr : (rulesL T)[k]? = some false) : T.check = (k : Int) + 1 := by
  refine check_first ?_
  rw [← h, ← drop_of_get hr, List.take_append_drop]
theorem HoldTo.all {T : Tab} (h : HoldTo T 9) : T.check = 0 := check_all (by rw [← h]; rfl)

set_option maxRecDepth 100000 in
set_option maxHeartbeats 4000000 in
theorem check_table (t : Tv) (T : Tab) (w : World) (ht : TabR w w.heap.size t T) (hg : Glob w) :
    Calls Tryd.prog 56 #[t.val] w fun e w' => e = .returned (.int .i64 T.check) ∧ Below w.heap.size w w' := by
  obtain ⟨tc, htc⟩ : ∃ tc, tc = t.cells := ⟨_, rfl⟩
  have HT := Lib.hid (fun W (h : Below w.heap.size w W) => ht.later h)
  have HG := Lib.hid (fun W (h : Below w.heap.size w W) => hg.later h)
  have H0 := Lib.hid (fun W h => rows_any t T W h)
  have H1 := Lib.hid (fun W h h2 => shape_any t T W h h2)
  have H2 := Lib.hid (fun W h => values_any t T W h)
  have H3 := Lib.hid (fun W h => targets_any t T W h)
  have H4 := Lib.hid (fun (hs : Shape T) W h => mapped_any t T W h hs.c5)
  have H5 := Lib.hid (fun (hs : Shape T) (hz : Sized T) W h => decomposed_any t T W h (keysB_sort hs.kd) hz.nd hs.ld)
  have H6 := Lib.hid (fun (hs : Shape T) (hz : Sized T) W h => excluded_rule t T W h (keysB_sort hs.kd) hz.nd hs.ld hs.lenX)
  have H7 := Lib.hid (fun (hs : Shape T) (hz : Sized T) (he : Ends T) W h => unique_any t T hs hz.nd he W h)
  have H8 := Lib.hid (fun (hs : Shape T) (hz : Sized T) W h => prototyped_any t T hs hz W h)
  obtain ⟨A0, A1, A2, A3, A4, A5, A6, A7, A8, A9, A10, A11, k0, k1, k2, k3, k4, k5, k6, k7, k8, k9, k10, k11, rfl⟩ := ht.shape
  have HTC := Lib.hid htc
  clear ht htc hg
  obtain ⟨R, hR⟩ : ∃ R, R = T.check := ⟨_, rfl⟩
  rw [← hR]
  have HR := Lib.hid hR
  clear hR
  obtain ⟨fc, hfc⟩ : ∃ fc : Array Value, fc = #[.func (.func 68) #[] #[], .func (.func 69) #[] #[], .func (.func 70) #[] #[], .func (.func 71) #[] #[], .func (.func 72) #[] #[], .func (.func 73) #[] #[], .func (.func 74) #[] #[], .func (.func 75) #[] #[], .func (.func 76) #[] #[]] := ⟨_, rfl⟩
  have HFC := Lib.hid hfc
  clear hfc
  go_enter Tryd.func56, Tryd.ntmps56
  go_wp2_with fail
  go_loopw [7] (fun i wr => ∃ (k : Nat), k ≤ 9 ∧ i = .int .i64 k ∧ Hid (HoldTo T k) ∧ Below w.heap.size w wr ∧ Hid (Blk wr w.heap.size 26 tc) ∧ Hid (Blk wr (w.heap.size + 1) 81 fc)) (fun i _ => 9 - (intOf i).toNat)
  case atStart =>
    refine ⟨0, by omega, rfl, Lib.hid (HoldTo.zero T), ((Below.refl _ _).alloc (Nat.le_refl _) _).alloc (by simp) _, Lib.hid (by rw [HTC.out]; exact (Blk.new _ _ _).alloc _), Lib.hid ?_⟩
    have h := Blk.new (w.alloc (.cells tc 26)) 81 fc
    rw [show (w.alloc (.cells tc 26)).heap.size = w.heap.size + 1 by simp, HTC.out, HFC.out] at h
    rw [HFC.out]
    exact h
  case round =>
    obtain ⟨k, hk, rfl, HS, hbel, HB, HF⟩ := hrel
    by_cases hlt : k < 9
    · obtain ⟨x0, x1, x2, x3, x4, x5, x6, x7, x8, x9, x10, x11⟩ := (show Blk _ _ _ #[_, _, _, _, _, _, _, _, _, _, _, _] from by have h := HB.out; rw [HTC.out] at h; exact h).tab
      have hHT := HT.out _ hbel
      have HHT := Lib.hid hHT
      have HHG := Lib.hid (HG.out _ hbel)
      have hpp := HS.out.parts hk
      have HPP := Lib.hid hpp
      have HFB := Lib.hid (show Blk wr (w.heap.size + 1) 81 #[.func (.func 68) #[] #[], .func (.func 69) #[] #[], .func (.func 70) #[] #[], .func (.func 71) #[] #[], .func (.func 72) #[] #[], .func (.func 73) #[] #[], .func (.func 74) #[] #[], .func (.func 75) #[] #[], .func (.func 76) #[] #[]] from by rw [← HFC.out]; exact HF.out)
      clear hHT hpp
      have h9 : k = 0 ∨ k = 1 ∨ k = 2 ∨ k = 3 ∨ k = 4 ∨ k = 5 ∨ k = 6 ∨ k = 7 ∨ k = 8 := by omega
      rcases h9 with rfl | rfl | rfl | rfl | rfl | rfl | rfl | rfl | rfl
      · have HCA := Lib.hid (H0.out _ HHT.out)
        have f0 := HFB.out.at_ (i := 0) rfl
        cases hr : T.rule1
        · rw [hr] at HCA
          have HN := Lib.hid (HR.out.trans (HS.out.fail (by show some T.rule1 = some false; rw [hr])))
          clear hr
          go_wp2_with fail
          refine HCA.out.mono ?_
          rintro e w2 ⟨rfl, b2⟩
          clear x0 x1 x2 x3 x4 x5 x6 x7 x8 x9 x10 x11 f0
          go_wp2_with fail
          go_ret
          rw [HN.out]
          exact ⟨rfl, below_next hbel b2⟩
        · rw [hr] at HCA
          have HN := Lib.hid (HS.out.next (by show some T.rule1 = some true; rw [hr]))
          clear hr
          go_wp2_with fail
          refine HCA.out.mono ?_
          rintro e w2 ⟨rfl, b2⟩
          have HB2 := Lib.hid (HB.out.later b2)
          have HF2 := Lib.hid (HF.out.later b2)
          clear x0 x1 x2 x3 x4 x5 x6 x7 x8 x9 x10 x11 f0
          go_wp2_with fail
          go_roundw
          case rel => exact ⟨1, by omega, by rfl, HN, below_next hbel b2, HB2, HF2⟩
          case measure => simp [intOf]
      · have HCA := Lib.hid (H1.out _ HHT.out HHG.out)
        have f0 := HFB.out.at_ (i := 1) rfl
        cases hr : T.rule2
        · rw [hr] at HCA
          have HN := Lib.hid (HR.out.trans (HS.out.fail (by show some T.rule2 = some false; rw [hr])))
          clear hr
          go_wp2_with fail
          refine HCA.out.mono ?_
          rintro e w2 ⟨rfl, b2⟩
          clear x0 x1 x2 x3 x4 x5 x6 x7 x8 x9 x10 x11 f0
          go_wp2_with fail
          go_ret
          rw [HN.out]
          exact ⟨rfl, below_next hbel b2⟩
        · rw [hr] at HCA
          have HN := Lib.hid (HS.out.next (by show some T.rule2 = some true; rw [hr]))
          clear hr
          go_wp2_with fail
          refine HCA.out.mono ?_
          rintro e w2 ⟨rfl, b2⟩
          have HB2 := Lib.hid (HB.out.later b2)
          have HF2 := Lib.hid (HF.out.later b2)
          clear x0 x1 x2 x3 x4 x5 x6 x7 x8 x9 x10 x11 f0
          go_wp2_with fail
          go_roundw
          case rel => exact ⟨2, by omega, by rfl, HN, below_next hbel b2, HB2, HF2⟩
          case measure => simp [intOf]
      · have HCA := Lib.hid (H2.out _ HHT.out)
        have f0 := HFB.out.at_ (i := 2) rfl
        cases hr : T.rule3
        · rw [hr] at HCA
          have HN := Lib.hid (HR.out.trans (HS.out.fail (by show some T.rule3 = some false; rw [hr])))
          clear hr
          go_wp2_with fail
          refine HCA.out.mono ?_
          rintro e w2 ⟨rfl, b2⟩
          clear x0 x1 x2 x3 x4 x5 x6 x7 x8 x9 x10 x11 f0
          go_wp2_with fail
          go_ret
          rw [HN.out]
          exact ⟨rfl, below_next hbel b2⟩
        · rw [hr] at HCA
          have HN := Lib.hid (HS.out.next (by show some T.rule3 = some true; rw [hr]))
          clear hr
          go_wp2_with fail
          refine HCA.out.mono ?_
          rintro e w2 ⟨rfl, b2⟩
          have HB2 := Lib.hid (HB.out.later b2)
          have HF2 := Lib.hid (HF.out.later b2)
          clear x0 x1 x2 x3 x4 x5 x6 x7 x8 x9 x10 x11 f0
          go_wp2_with fail
          go_roundw
          case rel => exact ⟨3, by omega, by rfl, HN, below_next hbel b2, HB2, HF2⟩
          case measure => simp [intOf]
      · have HCA := Lib.hid (H3.out _ HHT.out)
        have f0 := HFB.out.at_ (i := 3) rfl
        cases hr : T.rule4
        · rw [hr] at HCA
          have HN := Lib.hid (HR.out.trans (HS.out.fail (by show some T.rule4 = some false; rw [hr])))
          clear hr
          go_wp2_with fail
          refine HCA.out.mono ?_
          rintro e w2 ⟨rfl, b2⟩
          clear x0 x1 x2 x3 x4 x5 x6 x7 x8 x9 x10 x11 f0
          go_wp2_with fail
          go_ret
          rw [HN.out]
          exact ⟨rfl, below_next hbel b2⟩
        · rw [hr] at HCA
          have HN := Lib.hid (HS.out.next (by show some T.rule4 = some true; rw [hr]))
          clear hr
          go_wp2_with fail
          refine HCA.out.mono ?_
          rintro e w2 ⟨rfl, b2⟩
          have HB2 := Lib.hid (HB.out.later b2)
          have HF2 := Lib.hid (HF.out.later b2)
          clear x0 x1 x2 x3 x4 x5 x6 x7 x8 x9 x10 x11 f0
          go_wp2_with fail
          go_roundw
          case rel => exact ⟨4, by omega, by rfl, HN, below_next hbel b2, HB2, HF2⟩
          case measure => simp [intOf]
      · have HCA := Lib.hid (H4.out (Shape.of (HPP.out.1 (by omega)) (HPP.out.2.1 (by omega))) _ HHT.out)
        have f0 := HFB.out.at_ (i := 4) rfl
        cases hr : T.rule5
        · rw [hr] at HCA
          have HN := Lib.hid (HR.out.trans (HS.out.fail (by show some T.rule5 = some false; rw [hr])))
          clear hr
          go_wp2_with fail
          refine HCA.out.mono ?_
          rintro e w2 ⟨rfl, b2⟩
          clear x0 x1 x2 x3 x4 x5 x6 x7 x8 x9 x10 x11 f0
          go_wp2_with fail
          go_ret
          rw [HN.out]
          exact ⟨rfl, below_next hbel b2⟩
        · rw [hr] at HCA
          have HN := Lib.hid (HS.out.next (by show some T.rule5 = some true; rw [hr]))
          clear hr
          go_wp2_with fail
          refine HCA.out.mono ?_
          rintro e w2 ⟨rfl, b2⟩
          have HB2 := Lib.hid (HB.out.later b2)
          have HF2 := Lib.hid (HF.out.later b2)
          clear x0 x1 x2 x3 x4 x5 x6 x7 x8 x9 x10 x11 f0
          go_wp2_with fail
          go_roundw
          case rel => exact ⟨5, by omega, by rfl, HN, below_next hbel b2, HB2, HF2⟩
          case measure => simp [intOf]
      · have HCA := Lib.hid (H5.out (Shape.of (HPP.out.1 (by omega)) (HPP.out.2.1 (by omega))) (Sized.of (HPP.out.2.2.2.1 (by omega))) _ HHT.out)
        have f0 := HFB.out.at_ (i := 5) rfl
        cases hr : T.rule6
        · rw [hr] at HCA
          have HN := Lib.hid (HR.out.trans (HS.out.fail (by show some T.rule6 = some false; rw [hr])))
          clear hr
          go_wp2_with fail
          refine HCA.out.mono ?_
          rintro e w2 ⟨rfl, b2⟩
          clear x0 x1 x2 x3 x4 x5 x6 x7 x8 x9 x10 x11 f0
          go_wp2_with fail
          go_ret
          rw [HN.out]
          exact ⟨rfl, below_next hbel b2⟩
        · rw [hr] at HCA
          have HN := Lib.hid (HS.out.next (by show some T.rule6 = some true; rw [hr]))
          clear hr
          go_wp2_with fail
          refine HCA.out.mono ?_
          rintro e w2 ⟨rfl, b2⟩
          have HB2 := Lib.hid (HB.out.later b2)
          have HF2 := Lib.hid (HF.out.later b2)
          clear x0 x1 x2 x3 x4 x5 x6 x7 x8 x9 x10 x11 f0
          go_wp2_with fail
          go_roundw
          case rel => exact ⟨6, by omega, by rfl, HN, below_next hbel b2, HB2, HF2⟩
          case measure => simp [intOf]
      · have HCA := Lib.hid (H6.out (Shape.of (HPP.out.1 (by omega)) (HPP.out.2.1 (by omega))) (Sized.of (HPP.out.2.2.2.1 (by omega))) _ HHT.out)
        have f0 := HFB.out.at_ (i := 6) rfl
        cases hr : T.rule7
        · rw [hr] at HCA
          have HN := Lib.hid (HR.out.trans (HS.out.fail (by show some T.rule7 = some false; rw [hr])))
          clear hr
          go_wp2_with fail
          refine HCA.out.mono ?_
          rintro e w2 ⟨rfl, b2⟩
          clear x0 x1 x2 x3 x4 x5 x6 x7 x8 x9 x10 x11 f0
          go_wp2_with fail
          go_ret
          rw [HN.out]
          exact ⟨rfl, below_next hbel b2⟩
        · rw [hr] at HCA
          have HN := Lib.hid (HS.out.next (by show some T.rule7 = some true; rw [hr]))
          clear hr
          go_wp2_with fail
          refine HCA.out.mono ?_
          rintro e w2 ⟨rfl, b2⟩
          have HB2 := Lib.hid (HB.out.later b2)
          have HF2 := Lib.hid (HF.out.later b2)
          clear x0 x1 x2 x3 x4 x5 x6 x7 x8 x9 x10 x11 f0
          go_wp2_with fail
          go_roundw
          case rel => exact ⟨7, by omega, by rfl, HN, below_next hbel b2, HB2, HF2⟩
          case measure => simp [intOf]
      · have HCA := Lib.hid (H7.out (Shape.of (HPP.out.1 (by omega)) (HPP.out.2.1 (by omega))) (Sized.of (HPP.out.2.2.2.1 (by omega))) (Ends.of (Shape.of (HPP.out.1 (by omega)) (HPP.out.2.1 (by omega))).ld (HPP.out.2.2.2.2.2.1 (by omega))) _ HHT.out)
        have f0 := HFB.out.at_ (i := 7) rfl
        cases hr : T.rule8
        · rw [hr] at HCA
          have HN := Lib.hid (HR.out.trans (HS.out.fail (by show some T.rule8 = some false; rw [hr])))
          clear hr
          go_wp2_with fail
          refine HCA.out.mono ?_
          rintro e w2 ⟨rfl, b2⟩
          clear x0 x1 x2 x3 x4 x5 x6 x7 x8 x9 x10 x11 f0
          go_wp2_with fail
          go_ret
          rw [HN.out]
          exact ⟨rfl, below_next hbel b2⟩
        · rw [hr] at HCA
          have HN := Lib.hid (HS.out.next (by show some T.rule8 = some true; rw [hr]))
          clear hr
          go_wp2_with fail
          refine HCA.out.mono ?_
          rintro e w2 ⟨rfl, b2⟩
          have HB2 := Lib.hid (HB.out.later b2)
          have HF2 := Lib.hid (HF.out.later b2)
          clear x0 x1 x2 x3 x4 x5 x6 x7 x8 x9 x10 x11 f0
          go_wp2_with fail
          go_roundw
          case rel => exact ⟨8, by omega, by rfl, HN, below_next hbel b2, HB2, HF2⟩
          case measure => simp [intOf]
      · have HCA := Lib.hid (H8.out (Shape.of (HPP.out.1 (by omega)) (HPP.out.2.1 (by omega))) (Sized.of (HPP.out.2.2.2.1 (by omega))) _ HHT.out)
        have f0 := HFB.out.at_ (i := 8) rfl
        cases hr : T.rule9
        · rw [hr] at HCA
          have HN := Lib.hid (HR.out.trans (HS.out.fail (by show some T.rule9 = some false; rw [hr])))
          clear hr
          go_wp2_with fail
          refine HCA.out.mono ?_
          rintro e w2 ⟨rfl, b2⟩
          clear x0 x1 x2 x3 x4 x5 x6 x7 x8 x9 x10 x11 f0
          go_wp2_with fail
          go_ret
          rw [HN.out]
          exact ⟨rfl, below_next hbel b2⟩
        · rw [hr] at HCA
          have HN := Lib.hid (HS.out.next (by show some T.rule9 = some true; rw [hr]))
          clear hr
          go_wp2_with fail
          refine HCA.out.mono ?_
          rintro e w2 ⟨rfl, b2⟩
          have HB2 := Lib.hid (HB.out.later b2)
          have HF2 := Lib.hid (HF.out.later b2)
          clear x0 x1 x2 x3 x4 x5 x6 x7 x8 x9 x10 x11 f0
          go_wp2_with fail
          go_roundw
          case rel => exact ⟨9, by omega, by rfl, HN, below_next hbel b2, HB2, HF2⟩
          case measure => simp [intOf]
    · obtain rfl : k = 9 := by omega
      have HN := Lib.hid (HR.out.trans HS.out.all)
      go_wp2_with fail
      go_ret
      rw [HN.out]
      exact ⟨rfl, hbel⟩
end Go.Proofs.YtneinkpfhkojgaaDoor
/-
  The walks through order.check and the reference's acceptable: which error a sequence has.
-/
namespace Go.Proofs.YtneinkpfhkojgaaDoor
open Go.RowKit ND

/-- The error of a sequence. -/
def accE (T : Tab) (l : List Int) : Int := if T.check ≠ 0 then 2 else if 4096 < l.length then 7 else if l.all scalarB = true then 0 else 3
theorem accE_check {T : Tab} {l : List Int} (h : T.check ≠ 0) : accE T l = 2 := by unfold accE; rw [if_pos h]
theorem accE_full {T : Tab} {l : List Int} (h : T.check = 0) (h2 : 4096 < l.length) : accE T l = 7 := by unfold accE; rw [if_neg (by omega), if_pos h2]
theorem accE_ok {T : Tab} {l : List Int} (h : T.check = 0) (h2 : l.length ≤ 4096) (h3 : l.all scalarB = true) : accE T l = 0 := by unfold accE; rw [if_neg (by omega), if_neg (by omega), if_pos h3]
theorem accE_bad {T : Tab} {l : List Int} (h : T.check = 0) (h2 : l.length ≤ 4096) (h3 : l.all scalarB = false) : accE T l = 3 := by unfold accE; rw [if_neg (by omega), if_neg (by omega), if_neg (by rw [h3]; simp)]
theorem accE_zero {T : Tab} {l : List Int} (h : accE T l = 0) : T.check = 0 ∧ l.length ≤ 4096 ∧ l.all scalarB = true := by
  unfold accE at h
  split at h
  · cases h
  · split at h
    · cases h
    · split at h
      · rename_i h1 h2 h3; exact ⟨by omega, by omega, h3⟩
      · cases h

theorem bad_any (c : Int) (w : World) : Calls Tryd.prog 58 #[.int .i64 c] w fun e w' => e = .returned (.bool (!scalarB c)) ∧ w = w' := by
  cases h : scalarB c
  · have hc := Lib.hid (fun w => length_any c w)
    rw [lenC_zero.2 h] at hc
    go_enter Tryd.func58, Tryd.ntmps58
    go_wp2_with (go_at_call 59; refine (hc.out _).mono ?_; rintro e w4 ⟨rfl, rfl⟩)
    go_ret
    exact ⟨rfl, rfl⟩
  · have hc := Lib.hid (fun w => length_any c w)
    have hp : lenC c ≠ 0 := fun e => by rw [lenC_zero.1 e] at h; cases h
    have hb : ((lenC c : Int) == 0) = false := by rw [beq_eq_false_iff_ne]; omega
    clear hp
    go_enter Tryd.func58, Tryd.ntmps58
    go_wp2_with (go_at_call 59; refine (hc.out _).mono ?_; rintro e w4 ⟨rfl, rfl⟩)
    go_ret
    exact ⟨rfl, rfl⟩

/-- The first code point that is no scalar value. -/
def RetIdx (w : World) (xs : List Int) (e : Ending) (w' : World) : Prop := ∃ r : Int, e = .returned (.int .i64 r) ∧ (0 ≤ r ∧ xs.all scalarB = false ∨ r < 0 ∧ xs.all scalarB = true) ∧ Below w.heap.size w w'
theorem all_step {xs : List Int} {k : Nat} {x : Int} (h : (xs.take k).all scalarB = true) (hx : xs[k]? = some x) (hs : scalarB x = true) : (xs.take (k + 1)).all scalarB = true := by
  obtain ⟨a, a'⟩ := List.getElem?_eq_some_iff.1 hx
  rw [List.take_succ_eq_append_getElem a, List.all_append, h, a']
  simp [hs]
theorem all_bad {xs : List Int} {k : Nat} {x : Int} (hx : xs[k]? = some x) (hs : scalarB x = false) : xs.all scalarB = false := by
  cases h : xs.all scalarB with
  | false => rfl
  | true => rw [List.all_eq_true] at h; rw [h x (List.mem_of_getElem? hx)] at hs; cases hs

set_option maxRecDepth 100000 in
set_option maxHeartbeats 1000000 in
theorem index_any (v : Value) (xs : List Int) (w : World) (hv : Ints w w.heap.size .i64 v xs) :
    Calls Tryd.prog 77 #[v, .func (.func 58) #[] #[]] w (RetIdx w xs) := by
  obtain ⟨A, c, rfl, hc1, hc2, _, hcell⟩ := hv
  have HC := Lib.hid hcell; clear hcell
  have hl : xs.length ≤ 9223372036854775807 := by unfold maxLen at hc2; omega
  clear hc2 hc1
  go_enter Tryd.func77, Tryd.ntmps77
  go_wp2_with fail
  go_loopw [8] (fun i wr => ∃ k : Nat, k ≤ xs.length ∧ i = .int .i64 k ∧ Hid ((xs.take k).all scalarB = true) ∧ Below w.heap.size w wr) (fun i _ => xs.length - (intOf i).toNat)
  case atStart => exact ⟨0, by omega, rfl, Lib.hid (by simp), Below.refl _ _⟩
  case round =>
    obtain ⟨k, hk, rfl, HS, hbel⟩ := hrel
    by_cases hlt : k < xs.length
    · obtain ⟨x, hxk, _⟩ := get_of hlt
      obtain ⟨ad, rfl, ha, hce⟩ := HC.out k x hxk
      have e1 := (hbel.cell (p := ad.add k) (by rw [block_of_add]; exact ha)).trans hce
      have HX := Lib.hid hxk
      have k0 : (0 : Int) ≤ (k : Int) := by omega
      have k1 : (k : Int) < (xs.length : Int) := by omega
      have hb := Lib.hid (fun w => bad_any x w)
      clear hce hxk ha
      cases hs : scalarB x
      · have HE := Lib.hid (all_bad HX.out hs)
        rw [hs] at hb
        clear hs
        go_wp2_with (go_at_call 58; refine (hb.out _).mono ?_; rintro e w4 ⟨rfl, rfl⟩)
        go_ret
        exact ⟨k, rfl, .inl ⟨k0, HE.out⟩, hbel⟩
      · have HE := Lib.hid (all_step HS.out HX.out hs)
        rw [hs] at hb
        clear hs
        go_wp2_with (go_at_call 58; refine (hb.out _).mono ?_; rintro e w4 ⟨rfl, rfl⟩)
        go_roundw
        case rel => exact ⟨k + 1, by omega, by go_num, HE, hbel⟩
        case measure => simp [intOf]; omega
    · have HE := Lib.hid (show xs.all scalarB = true by have := HS.out; rwa [List.take_of_length_le (by omega)] at this)
      go_wp2_with fail
      go_ret
      exact ⟨-1, rfl, .inr ⟨by omega, HE.out⟩, hbel⟩

set_option maxRecDepth 100000 in
theorem contains_any (v : Value) (xs : List Int) (w : World) (hv : Ints w w.heap.size .i64 v xs) :
    Calls Tryd.prog 57 #[v, .func (.func 58) #[] #[]] w fun e w' => e = .returned (.bool (!xs.all scalarB)) ∧ Below w.heap.size w w' := by
  obtain ⟨A, c, rfl, _⟩ := id hv
  have HI := Lib.hid (index_any _ xs w hv)
  clear hv
  obtain ⟨R, hR⟩ : ∃ R, R = xs.all scalarB := ⟨_, rfl⟩
  rw [← hR]
  have HR := Lib.hid hR
  clear hR
  go_enter Tryd.func57, Tryd.ntmps57
  go_wp2_with (go_at_call 77; refine HI.out.mono ?_; rintro e w1 ⟨r, rfl, hr, b1⟩)
  go_ret
  refine ⟨?_, b1⟩
  rcases hr with ⟨h1, h2⟩ | ⟨h1, h2⟩
  · rw [HR.out, h2, decide_eq_true h1]; rfl
  · rw [HR.out, h2, decide_eq_false (by omega)]; rfl

set_option maxRecDepth 100000 in
set_option maxHeartbeats 1000000 in
theorem ocheck_any (t : Tv) (T : Tab) (v : Value) (xs : List Int) (w : World) (ht : TabR w w.heap.size t T) (hg : Glob w) (hv : Ints w w.heap.size .i64 v xs) :
    Calls Tryd.prog 42 #[t.val, v] w fun e w' => e = .returned (.int .i64 (accE T xs)) ∧ Below w.heap.size w w' := by
  obtain ⟨A, c, rfl, _⟩ := id hv
  have HB0 : Hid (Below w.heap.size w (w.alloc (.cells t.cells 26))) := Lib.hid ((Below.refl _ _).alloc (Nat.le_refl _) _)
  have HT := Lib.hid (check_table t T _ (ht.later HB0.out) (hg.later HB0.out))
  have HV := Lib.hid (fun W (h : Below (w.alloc (.cells t.cells 26)).heap.size (w.alloc (.cells t.cells 26)) W) => contains_any _ xs W ((hv.later HB0.out).later h))
  clear hv ht hg
  obtain ⟨R, hR⟩ : ∃ R, R = accE T xs := ⟨_, rfl⟩
  rw [← hR]
  have HR := Lib.hid hR
  clear hR
  by_cases h1 : T.check = 0
  · have hc1 : (T.check != 0) = false := by rw [h1]; rfl
    by_cases h2 : xs.length ≤ 4096
    · cases h3 : xs.all scalarB
      · have HE := Lib.hid (accE_bad h1 h2 h3)
        rw [h3] at HV
        have h4 : ¬ (4096 : Int) < (xs.length : Int) := by omega
        clear h1 h3 h2
        go_enter Tryd.func42, Tryd.ntmps42
        go_wp2_with (first | (go_at_call 56; refine HT.out.mono ?_; rintro e w1 ⟨rfl, b1⟩) | (go_at_call 57; refine (HV.out _ b1).mono ?_; rintro e w2 ⟨rfl, b2⟩))
        go_ret
        rw [HR.out, HE.out]
        exact ⟨rfl, below_next (below_next HB0.out b1) b2⟩
      · have HE := Lib.hid (accE_ok h1 h2 h3)
        rw [h3] at HV
        have h4 : ¬ (4096 : Int) < (xs.length : Int) := by omega
        clear h1 h3 h2
        go_enter Tryd.func42, Tryd.ntmps42
        go_wp2_with (first | (go_at_call 56; refine HT.out.mono ?_; rintro e w1 ⟨rfl, b1⟩) | (go_at_call 57; refine (HV.out _ b1).mono ?_; rintro e w2 ⟨rfl, b2⟩))
        go_ret
        rw [HR.out, HE.out]
        exact ⟨rfl, below_next (below_next HB0.out b1) b2⟩
    · have HE := Lib.hid (accE_full (l := xs) h1 (by omega))
      have h4 : (4096 : Int) < (xs.length : Int) := by omega
      clear h1 h2
      go_enter Tryd.func42, Tryd.ntmps42
      go_wp2_with (first | (go_at_call 56; refine HT.out.mono ?_; rintro e w1 ⟨rfl, b1⟩))
      go_ret
      rw [HR.out, HE.out]
      exact ⟨rfl, below_next HB0.out b1⟩
  · have HE := Lib.hid (accE_check (l := xs) h1)
    have hc1 : (T.check != 0) = true := by simpa using h1
    clear h1
    go_enter Tryd.func42, Tryd.ntmps42
    go_wp2_with (first | (go_at_call 56; refine HT.out.mono ?_; rintro e w1 ⟨rfl, b1⟩))
    go_ret
    rw [HR.out, HE.out]
    exact ⟨rfl, below_next HB0.out b1⟩
end Go.Proofs.YtneinkpfhkojgaaDoor
/-
  Plain mathematics of the tables that keep.Tables makes: they are well-formed. No program in sight.
-/
namespace ND
open Go

def poolL : List Int := [0xad, 0xb7, 0x301, 0x308, 0x323, 0x345, 0x375, 0x3b1, 0x3b2, 0x3b3, 0x430, 0x5d0, 0x5f3, 0x628, 0x629, 0x660, 0x6f0, 0x94d, 0x1e00, 0x1e01, 0x1e02, 0x1e03, 0x1e04, 0x200c, 0x200d, 0x30fb, 0x4e00, 0x1f600]
theorem pool_sort : poolL.Pairwise (· < ·) := by decide
theorem pool_in : ∀ c ∈ poolL, 128 ≤ c ∧ c ≤ 1114111 ∧ resB c = false ∧ scalarB c = true := by decide

/-- A column after k code points of the pool. -/
def colN (k : Nat) (lo hi : Int) (L : List Sp) : Prop := (L.map (·.1)).Sublist (poolL.take k) ∧ ∀ s ∈ L, s.2.1 = s.1 ∧ lo ≤ s.2.2 ∧ s.2.2 ≤ hi
theorem colN_nil (k : Nat) (lo hi : Int) : colN k lo hi [] := ⟨List.nil_sublist _, by simp⟩
theorem colN_skip {k : Nat} {lo hi : Int} {L : List Sp} (h : colN k lo hi L) : colN (k + 1) lo hi L :=
  ⟨h.1.trans (List.take_sublist_take_left (by omega)), h.2⟩
theorem take_snoc_get {α : Type} {l : List α} {k : Nat} {c : α} (h : l[k]? = some c) : l.take (k + 1) = l.take k ++ [c] := by
  rw [List.take_add_one, h]; rfl
theorem colN_add {k : Nat} {lo hi c v : Int} {L : List Sp} (h : colN k lo hi L) (hc : poolL[k]? = some c) (h1 : lo ≤ v) (h2 : v ≤ hi) : colN (k + 1) lo hi (L ++ [(c, c, v)]) := by
  refine ⟨?_, ?_⟩
  · rw [take_snoc_get hc, List.map_append]
    exact h.1.append (List.Sublist.refl _)
  · intro s hs
    rcases List.mem_append.1 hs with hs | hs
    · exact h.2 s hs
    · rw [List.mem_singleton] at hs; subst hs; exact ⟨rfl, h1, h2⟩
theorem colN_mem {k : Nat} {lo hi : Int} {L : List Sp} (h : colN k lo hi L) {s : Sp} (hs : s ∈ L) : s.1 ∈ poolL :=
  List.mem_of_mem_take (h.1.subset (List.mem_map_of_mem hs))
theorem colN_len {k : Nat} {lo hi : Int} {L : List Sp} (h : colN k lo hi L) : L.length ≤ 28 := by
  have h1 := h.1.length_le
  rw [List.length_map, List.length_take] at h1
  have : poolL.length = 28 := rfl
  omega
theorem okS_points {L : List Sp} : ∀ {last : Int}, (L.map (·.1)).Pairwise (· < ·) → (∀ s ∈ L, s.2.1 = s.1 ∧ last < s.1 ∧ 0 ≤ s.1 ∧ s.1 ≤ 1114111) → okS 0 1114111 last L = true := by
  induction L with
  | nil => intro last _ _; rfl
  | cons s r ih =>
    intro last hp h
    rw [List.map_cons, List.pairwise_cons] at hp
    have hs := h s List.mem_cons_self
    rw [okS_cons]
    refine ⟨by omega, ih hp.2 fun x hx => ?_⟩
    have h1 := h x (List.mem_cons_of_mem _ hx)
    have h2 := hp.1 x.1 (List.mem_map_of_mem hx)
    omega
theorem colN_ok {k : Nat} {lo hi : Int} {L : List Sp} (h : colN k lo hi L) : okS 0 1114111 (-1) L = true := by
  refine okS_points ((pool_sort.sublist (List.take_sublist _ _)).sublist h.1) fun s hs => ?_
  have := pool_in s.1 (colN_mem h hs)
  have := h.2 s hs
  omega
theorem colN_col {k : Nat} {lo hi : Int} {L : List Sp} (h : colN k lo hi L) : colOk L = true := by
  unfold colOk checkS
  have h2 := colN_len h
  rw [colN_ok h, Bool.true_and, Bool.and_eq_true, decide_eq_true_eq, List.all_eq_true]
  refine ⟨by omega, fun s hs => ?_⟩
  rw [(h.2 s hs).1]
  exact outB_one (pool_in s.1 (colN_mem h hs)).2.2.1
theorem colN_vals {k : Nat} {lo hi a b : Int} {L : List Sp} (h : colN k lo hi L) (ha : a ≤ lo) (hb : hi ≤ b) : valsOk (L, a, b) = true := by
  unfold valsOk
  rw [List.all_eq_true]
  intro s hs
  have := h.2 s hs
  rw [decide_eq_true_eq]; simp only; omega
theorem colN_zero {k : Nat} {lo hi c : Int} {L : List Sp} (h : colN k lo hi L) (hc : c ∉ poolL) : valueL L c = 0 :=
  value_out fun s hs ⟨h1, h2⟩ => by
    have := h.2 s hs
    obtain rfl : c = s.1 := by omega
    exact hc (colN_mem h hs)
theorem colN_at {k : Nat} {lo hi : Int} {L : List Sp} (h : colN k lo hi L) {s : Sp} (hs : s ∈ L) : valueL L s.1 = s.2.2 := by
  have hp := (pool_sort.sublist (List.take_sublist k _)).sublist h.1
  have h2 := fun x hx => (h.2 x hx).1
  clear h
  induction L with
  | nil => cases hs
  | cons a r ih =>
    rw [List.map_cons, List.pairwise_cons] at hp
    rw [valueL]
    rcases List.mem_cons.1 hs with rfl | hs
    · rw [if_pos ⟨Int.le_refl _, by rw [h2 s List.mem_cons_self]; exact Int.le_refl _⟩]
    · have h3 := hp.1 s.1 (List.mem_map_of_mem hs)
      have h4 := h2 a List.mem_cons_self
      rw [if_neg (by omega)]
      exact ih hs hp.2 fun x hx => h2 x (List.mem_cons_of_mem _ hx)

/-- The decompositions and the exclusions after k rounds. -/
structure DecN (k : Nat) (D : List Mp) (X : List Int) : Prop where
  keys : (keysOf D).Pairwise (· < ·)
  rng : ∀ m ∈ D, 7680 ≤ m.1 ∧ m.1 < 7680 + k
  form : ∀ m ∈ D, ∃ a r, m.2 = a :: r ∧ (a = 97 ∨ a = 98 ∨ 7680 ≤ a ∧ a < m.1) ∧ (r = [] ∨ ∃ b, r = [b] ∧ (b = 769 ∨ b = 776 ∨ b = 803 ∨ b = 837 ∨ b = 945))
  exs : X.Pairwise (· < ·)
  exk : ∀ c ∈ X, c ∈ keysOf D
  uni : D.Pairwise (fun a b => a.2 = b.2 → b.1 ∈ X)
theorem DecN.nil (k : Nat) : DecN k [] [] := ⟨.nil, by simp, by simp, .nil, by simp, .nil⟩
theorem DecN.skip {k : Nat} {D : List Mp} {X : List Int} (h : DecN k D X) : DecN (k + 1) D X :=
  ⟨h.keys, fun m hm => by have := h.rng m hm; omega, h.form, h.exs, h.exk, h.uni⟩
theorem pw_snoc {α : Type} {R : α → α → Prop} {l : List α} {x : α} (h : l.Pairwise R) (hx : ∀ a ∈ l, R a x) : (l ++ [x]).Pairwise R :=
  List.pairwise_append.2 ⟨h, List.pairwise_singleton _ _, fun a ha b hb => by rw [List.mem_singleton] at hb; subst hb; exact hx a ha⟩
/-- One decomposition more; t: whether it is excluded. -/
theorem DecN.add {k : Nat} {D : List Mp} {X : List Int} (h : DecN k D X) {l : List Int} (t : Bool) (hl : ∃ a r, l = a :: r ∧ (a = 97 ∨ a = 98 ∨ 7680 ≤ a ∧ a < 7680 + k) ∧ (r = [] ∨ ∃ b, r = [b] ∧ (b = 769 ∨ b = 776 ∨ b = 803 ∨ b = 837 ∨ b = 945)))
    (ht : t = false → ∀ d ∈ D, d.2 ≠ l) : DecN (k + 1) (D ++ [(7680 + (k : Int), l)]) (if t then X ++ [7680 + (k : Int)] else X) := by
  have hk : keysOf (D ++ [(7680 + (k : Int), l)]) = keysOf D ++ [7680 + (k : Int)] := by simp [keysOf]
  have hlt : ∀ c ∈ keysOf D, c < 7680 + (k : Int) := by
    intro c hc
    obtain ⟨m, hm, rfl⟩ := List.mem_map.1 hc
    exact (h.rng m hm).2
  refine ⟨by rw [hk]; exact pw_snoc h.keys hlt, ?_, ?_, ?_, ?_, ?_⟩
  · intro m hm
    rcases List.mem_append.1 hm with hm | hm
    · have := h.rng m hm; omega
    · rw [List.mem_singleton] at hm; subst hm; simp only; omega
  · intro m hm
    rcases List.mem_append.1 hm with hm | hm
    · exact h.form m hm
    · rw [List.mem_singleton] at hm; subst hm; exact hl
  · cases t
    · exact h.exs
    · exact pw_snoc h.exs fun c hc => hlt c (h.exk c hc)
  · rw [hk]
    intro c hc
    cases t
    · exact List.mem_append_left _ (h.exk c hc)
    · rcases List.mem_append.1 hc with hc | hc
      · exact List.mem_append_left _ (h.exk c hc)
      · exact List.mem_append_right _ hc
  · have hmono : ∀ c ∈ X, c ∈ (if t then X ++ [7680 + (k : Int)] else X) := by
      intro c hc; cases t
      · exact hc
      · exact List.mem_append_left _ hc
    refine pw_snoc (h.uni.imp fun hab e => hmono _ (hab e)) fun d hd e => ?_
    cases t
    · exact absurd e (ht rfl d hd)
    · exact List.mem_append_right _ (List.mem_singleton.2 rfl)

section
variable {D : List Mp} {X : List Int}
theorem DecN.key_none (h : DecN 5 D X) {c : Int} (hc : c < 7680 ∨ 7684 < c) : findL D c = [] :=
  findL_no fun _ a hi e => by have := h.rng a (List.mem_of_getElem? hi); omega
theorem find_key {D : List Mp} (hp : (keysOf D).Pairwise (· < ·)) {m : Mp} (hm : m ∈ D) : findL D m.1 = m.2 := by
  induction D with
  | nil => cases hm
  | cons a r ih =>
    unfold keysOf at hp
    rw [List.map_cons, List.pairwise_cons] at hp
    rw [findL]
    rcases List.mem_cons.1 hm with rfl | hm
    · rw [if_pos rfl]
    · have := hp.1 m.1 (List.mem_map_of_mem hm)
      rw [if_neg (by omega)]
      exact ih hp.2 hm
theorem DecN.size (h : DecN 5 D X) : ∀ (n : Nat) (c : Int), c < 7680 + n ∨ findL D c = [] → fin D n c = true ∧ (expF D n c).length ≤ n + 1 := by
  intro n
  induction n with
  | zero =>
    intro c hc
    have : findL D c = [] := by
      rcases hc with hc | hc
      · exact h.key_none (by omega)
      · exact hc
    exact ⟨fin_none this _, by rw [expF_none this]; simp⟩
  | succ n ih =>
    intro c hc
    by_cases hn : findL D c = []
    · exact ⟨fin_none hn _, by rw [expF_none hn]; simp⟩
    · have hc' : c < 7680 + ((n + 1 : Nat) : Int) := by
        rcases hc with hc | hc
        · exact hc
        · exact absurd hc hn
      have hm := findL_mem hn
      obtain ⟨a, r, he, ha, hr⟩ := h.form _ hm
      simp only at he ha
      have h1 : fin D n a = true ∧ (expF D n a).length ≤ n + 1 := by
        rcases ha with rfl | rfl | ha
        · exact ih _ (.inl (by omega))
        · exact ih _ (.inl (by omega))
        · exact ih _ (.inl (by omega))
      rw [fin_succ hn, expF_some hn, he, List.flatMap_cons, List.length_append, List.all_cons, h1.1, Bool.true_and]
      rcases hr with rfl | ⟨b, rfl, hb⟩
      · simp; omega
      · have hb' : findL D b = [] := h.key_none (by omega)
        simp [fin_none hb', expF_none hb']
        omega
end

def protoL : List Mp := [(48, [111]), (109, [114, 110]), (945, [97]), (1072, [97]), (1632, [111, 803])]
/-- The mappings and the statuses after k code points of the pool. -/
structure MapN (k : Nat) (S : List Sp) (M : List Mp) : Prop where
  col : colN k 1 4 S
  same : (S.filter (fun s => s.2.2 = 3)).map (·.1) = keysOf M
  form : ∀ m ∈ M, ∃ a, (a = 97 ∨ a = 98 ∨ a = 99) ∧ (m.2 = [a] ∨ m.2 = [a, 46])
theorem MapN.nil (k : Nat) : MapN k [] [] := ⟨colN_nil _ _ _, rfl, by simp⟩
theorem MapN.skip {k : Nat} {S : List Sp} {M : List Mp} (h : MapN k S M) : MapN (k + 1) S M := ⟨colN_skip h.col, h.same, h.form⟩
theorem MapN.plain {k : Nat} {S : List Sp} {M : List Mp} {c v : Int} (h : MapN k S M) (hc : poolL[k]? = some c) (h1 : 1 ≤ v) (h2 : v ≤ 4) (h3 : v ≠ 3) : MapN (k + 1) (S ++ [(c, c, v)]) M :=
  ⟨colN_add h.col hc h1 h2, by rw [List.filter_append, List.map_append, h.same]; simp [h3], h.form⟩
theorem MapN.mapped {k : Nat} {S : List Sp} {M : List Mp} {c : Int} {l : List Int} (h : MapN k S M) (hc : poolL[k]? = some c) (hl : ∃ a, (a = 97 ∨ a = 98 ∨ a = 99) ∧ (l = [a] ∨ l = [a, 46])) : MapN (k + 1) (S ++ [(c, c, 3)]) (M ++ [(c, l)]) := by
  refine ⟨colN_add h.col hc (by omega) (by omega), ?_, ?_⟩
  · rw [List.filter_append, List.map_append, h.same]; simp [keysOf]
  · intro m hm
    rcases List.mem_append.1 hm with hm | hm
    · exact h.form m hm
    · rw [List.mem_singleton] at hm; subst hm; exact hl

/-- What keep.Tables makes. -/
structure Made (T : Tab) : Prop where
  c0 : colN 28 1 8 T.category
  c1 : colN 28 1 254 T.cls
  c2 : colN 28 1 5 T.joining
  c3 : colN 28 1 11 T.bidi
  c4 : colN 28 1 60 T.script
  c6 : colN 28 1 1 T.ignorable
  dec : DecN 5 T.decomps T.excluded
  map : MapN 28 T.status T.maps
  ext : T.extensions = [] ∨ T.extensions = [(12539, [7, 8])]
  pro : T.prototypes.Sublist protoL
  ign : ∀ m ∈ T.prototypes, T.ignB m.1 = false ∧ T.ignB (m.2.getLastD 0) = false

theorem keysB_of {p : Bool} {l : List Int} : ∀ {last : Int}, l.Pairwise (· < ·) → (∀ c ∈ l, last < c ∧ c ≤ 1114111 ∧ (resB c = false ∨ p = true ∧ nameB c = true)) → keysB p last l = true := by
  induction l with
  | nil => intro last _ _; rfl
  | cons a r ih =>
    intro last hp h
    rw [List.pairwise_cons] at hp
    obtain ⟨h1, h2, h3⟩ := h a List.mem_cons_self
    rw [keysB, Bool.and_eq_true]
    refine ⟨?_, ih hp.2 fun c hc => ⟨hp.1 c hc, (h c (List.mem_cons_of_mem _ hc)).2⟩⟩
    unfold keyOk
    simp only [Bool.and_eq_true, decide_eq_true_eq, Bool.or_eq_true, Bool.not_eq_true']
    exact ⟨⟨h1, h2⟩, h3⟩
theorem mapCount_points {S : List Sp} (h : ∀ s ∈ S, s.2.1 = s.1) : mapCount S = ((S.filter (fun s => s.2.2 = 3)).length : Int) := by
  induction S with
  | nil => rfl
  | cons s r ih =>
    have h1 := h s List.mem_cons_self
    rw [mapCount, ih fun x hx => h x (List.mem_cons_of_mem _ hx), List.filter_cons]
    by_cases h3 : s.2.2 = 3
    · rw [if_pos h3, if_pos (by simpa using h3), List.length_cons]; omega
    · rw [if_neg h3, if_neg (by simpa using h3)]; omega

section
variable {T : Tab}
theorem Made.rule1 (h : Made T) : T.rule1 = true := by
  have e1 := colN_len h.c0
  have e2 := colN_len h.c1
  have e3 := colN_len h.c2
  have e4 := colN_len h.c3
  have e5 := colN_len h.c4
  have e6 := colN_len h.map.col
  have e7 := colN_len h.c6
  have d1 : T.decomps.length ≤ 5 := by
    have := List.Nodup.length_le_of_subset (l₁ := keysOf T.decomps) (l₂ := [7680, 7681, 7682, 7683, 7684]) (h.dec.keys.imp fun h => by omega) (fun c hc => by
      obtain ⟨m, hm, rfl⟩ := List.mem_map.1 hc
      have := h.dec.rng m hm
      simp; omega)
    simpa [keysOf] using this
  have d2 : T.excluded.length ≤ 5 := by
    have := List.Nodup.length_le_of_subset (l₁ := T.excluded) (l₂ := [7680, 7681, 7682, 7683, 7684]) (h.dec.exs.imp fun h => by omega) (fun c hc => by
      obtain ⟨m, hm, rfl⟩ := List.mem_map.1 (h.dec.exk c hc)
      have := h.dec.rng m hm
      simp; omega)
    simpa using this
  have d3 : T.maps.length ≤ 28 := by
    have := congrArg List.length h.map.same
    rw [List.length_map] at this
    simp only [keysOf, List.length_map] at this
    have := List.length_filter_le (fun s : Sp => decide (s.2.2 = 3)) T.status
    omega
  have d4 : T.prototypes.length ≤ 5 := h.pro.length_le
  have d5 : T.extensions.length ≤ 1 := by rcases h.ext with h | h <;> rw [h] <;> simp
  unfold Tab.rule1 Tab.cols Tab.mps
  simp only [List.all_cons, List.all_nil, Bool.and_true, Bool.and_eq_true, decide_eq_true_eq]
  omega
theorem Made.keym (h : Made T) : keysB false (-1) (keysOf T.maps) = true := by
  have hs : (keysOf T.maps).Sublist poolL := by
    rw [← h.map.same]
    exact ((List.filter_sublist).map _).trans (h.map.col.1.trans (List.take_sublist _ _))
  exact keysB_of (pool_sort.sublist hs) fun c hc => by
    have := pool_in c (hs.subset hc)
    exact ⟨by omega, this.2.1, .inl this.2.2.1⟩
theorem Made.rule2 (h : Made T) : T.rule2 = true := by
  unfold Tab.rule2 Tab.rule2m Tab.cols
  simp only [List.all_cons, List.all_nil, Bool.and_true, Bool.and_eq_true]
  have hd : ∀ c, 7680 ≤ c → c < 7685 → -1 < c ∧ c ≤ 1114111 ∧ (resB c = false ∨ false = true ∧ nameB c = true) := fun c h1 h2 => ⟨by omega, by omega, .inl (by rw [resB_not]; omega)⟩
  refine ⟨⟨colN_col h.c0, colN_col h.c1, colN_col h.c2, colN_col h.c3, colN_col h.c4, colN_col h.map.col, colN_col h.c6⟩, ⟨?_, h.keym, ?_, ?_⟩, ?_⟩
  · rcases h.ext with h | h <;> rw [h] <;> decide
  · refine keysB_of h.dec.keys fun c hc => ?_
    obtain ⟨m, hm, rfl⟩ := List.mem_map.1 hc
    have := h.dec.rng m hm
    exact hd _ this.1 (by omega)
  · have hp : (keysOf protoL).Pairwise (· < ·) := by decide
    have ha : ∀ c ∈ keysOf protoL, -1 < c ∧ c ≤ 1114111 ∧ (resB c = false ∨ true = true ∧ nameB c = true) := by decide
    have hs : (keysOf T.prototypes).Sublist (keysOf protoL) := h.pro.map _
    exact keysB_of (hp.sublist hs) fun c hc => ha c (hs.subset hc)
  · refine keysB_of h.dec.exs fun c hc => ?_
    obtain ⟨m, hm, rfl⟩ := List.mem_map.1 (h.dec.exk c hc)
    have := h.dec.rng m hm
    exact hd _ this.1 (by omega)
theorem Made.rule3 (h : Made T) : T.rule3 = true := by
  unfold Tab.rule3 Tab.cols
  simp only [List.all_cons, List.all_nil, Bool.and_true, Bool.and_eq_true]
  exact ⟨colN_vals h.c0 (by decide) (by decide), colN_vals h.c1 (by decide) (by decide), colN_vals h.c2 (by decide) (by decide), colN_vals h.c3 (by decide) (by decide), colN_vals h.c4 (by decide) (by decide), colN_vals h.map.col (by decide) (by decide), colN_vals h.c6 (by decide) (by decide)⟩
theorem Made.dform (h : Made T) : ∀ m ∈ T.decomps, m.2 ≠ [] ∧ m.2.length ≤ 2 ∧ ∀ c ∈ m.2, c = 97 ∨ c = 98 ∨ 7680 ≤ c ∧ c ≤ 7684 ∨ c = 769 ∨ c = 776 ∨ c = 803 ∨ c = 837 ∨ c = 945 := by
  intro m hm
  obtain ⟨a, r, he, ha, hr⟩ := h.dec.form m hm
  have := h.dec.rng m hm
  rw [he]
  rcases hr with rfl | ⟨b, rfl, hb⟩
  · refine ⟨by simp, by simp, fun c hc => ?_⟩
    rw [List.mem_singleton] at hc; subst hc; omega
  · refine ⟨by simp, by simp, fun c hc => ?_⟩
    simp only [List.mem_cons, List.not_mem_nil, or_false] at hc
    rcases hc with rfl | rfl <;> omega
theorem Made.rule4 (h : Made T) : T.rule4 = true := by
  unfold Tab.rule4
  simp only [Bool.and_eq_true, List.all_eq_true]
  refine ⟨?_, ?_, ?_, ?_⟩
  · rcases h.ext with h | h <;> rw [h] <;> decide
  · intro m hm
    obtain ⟨a, ha, hl⟩ := h.map.form m hm
    rw [toB_iff]
    rcases hl with hl | hl <;> rw [hl] <;> rcases ha with rfl | rfl | rfl <;> decide
  · intro m hm
    obtain ⟨h1, h2, h3⟩ := h.dform m hm
    rw [toB_iff]
    refine ⟨length_pos_ne h1, by omega, ?_⟩
    simp only [Bool.false_eq_true, if_false, List.all_eq_true, scalarB_iff]
    intro c hc
    have := h3 c hc
    omega
  · intro m hm
    have hp : ∀ m ∈ protoL, toB false m = true := by decide
    exact hp m (h.pro.subset hm)
theorem Made.shape (h : Made T) : Shape T := Shape.of h.rule1 h.rule2
theorem Made.status_pool (h : Made T) {c : Int} (hc : c ∈ poolL) : T.statusOf c = valueL T.status c := by
  unfold Tab.statusOf
  rw [propL_ref (colN_ok h.map.col) (fun s hs => h.shape.c5.2.2 s hs)]
  rw [if_neg]
  rw [(pool_in c hc).2.2.1]
  rintro ⟨h, _⟩; cases h
theorem status_ascii (T : Tab) {c : Int} (hc : c = 97 ∨ c = 98 ∨ c = 99 ∨ c = 46) : T.statusOf c = 1 := by
  rcases hc with rfl | rfl | rfl | rfl <;> rfl
theorem Made.rule5 (h : Made T) : T.rule5 = true := by
  unfold Tab.rule5
  rw [Bool.and_eq_true, decide_eq_true_eq, mapCount_points fun s hs => (h.map.col.2 s hs).1]
  refine ⟨?_, ?_⟩
  · have := congrArg List.length h.map.same
    rw [List.length_map] at this
    simp only [keysOf, List.length_map] at this
    rw [this]
  · rw [List.all_eq_true]
    intro m hm
    unfold Tab.mapOk
    rw [Bool.and_eq_true, decide_eq_true_eq, List.all_eq_true]
    refine ⟨?_, ?_⟩
    · have hk : m.1 ∈ keysOf T.maps := List.mem_map_of_mem hm
      rw [← h.map.same] at hk
      obtain ⟨s, hs, he⟩ := List.mem_map.1 hk
      obtain ⟨hs1, hs2⟩ := List.mem_filter.1 hs
      rw [← he, h.status_pool (colN_mem h.map.col hs1), colN_at h.map.col hs1]
      simpa using hs2
    · obtain ⟨a, ha, hl⟩ := h.map.form m hm
      intro c hc
      have hc' : c = a ∨ c = 46 := by
        rcases hl with hl | hl <;> rw [hl] at hc <;> simp at hc
        · exact .inl hc
        · exact hc
      rw [status_ascii T (by rcases hc' with rfl | rfl <;> omega)]
      rfl
theorem Made.rule6 (h : Made T) : T.rule6 = true := by
  unfold Tab.rule6
  rw [Bool.and_eq_true, List.all_eq_true, List.all_eq_true]
  refine ⟨?_, ?_⟩
  · intro m hm
    obtain ⟨_, h2, h3⟩ := h.dform m hm
    unfold decOk
    rw [Bool.and_eq_true, decide_eq_true_eq, List.all_eq_true]
    refine ⟨h2, fun c hc => ?_⟩
    have := h3 c hc
    unfold decEl sylB jamoB
    simp only [Bool.not_eq_true', Bool.or_eq_false_iff, decide_eq_false_iff_not]
    omega
  · intro m hm
    have hr := h.dec.rng m hm
    obtain ⟨h1, h2⟩ := h.dec.size 5 m.1 (.inl (by omega))
    have h3 := fin_len h1
    obtain ⟨h4, h5⟩ := fin_up h3 (T.decomps.length + 1) (by omega)
    unfold Tab.szOk
    rw [decide_eq_true_eq, sizeF_le]
    refine ⟨h4, ?_⟩
    rcases Nat.le_total 5 (T.decomps.length + 1) with hle | hle
    · rw [(fin_up h1 _ hle).2]; omega
    · rw [← (fin_up h4 5 hle).2]; omega
theorem Made.rule7 (h : Made T) : T.rule7 = true := by
  unfold Tab.rule7
  rw [List.all_eq_true]
  intro c hc
  obtain ⟨m, hm, rfl⟩ := List.mem_map.1 (h.dec.exk c hc)
  unfold Tab.exOk
  rw [decide_eq_true_eq, find_key h.dec.keys hm]
  exact (h.dform m hm).1
theorem comp_ex {T : Tab} {c : Int} (h : c ∈ T.excluded) : T.comp c = false := by
  have he : T.excB c = true := by unfold Tab.excB; exact decide_eq_true h
  unfold Tab.comp
  cases T.decomps.length with
  | zero => rfl
  | succ f =>
    rw [Tab.compF]
    split
    · rw [he]; rfl
    · rfl
theorem Made.rule8 (h : Made T) : T.rule8 = true := by
  unfold Tab.rule8 Tab.pairs
  rw [decide_eq_true_eq]
  have hp : (T.decomps.filter (fun m => T.comp m.1)).Pairwise (fun a b => a.2 = b.2 → b.1 ∈ T.excluded) := h.dec.uni.sublist List.filter_sublist
  refine List.Pairwise.map _ (fun a b (hab : a.2 ≠ b.2) => hab) (List.Pairwise.imp_of_mem ?_ hp)
  intro a b _ hb hab e
  have := (List.mem_filter.1 hb).2
  rw [comp_ex (hab e)] at this
  cases this
theorem Made.ign_none (h : Made T) {c : Int} (hc : c ∉ poolL) : T.ignB c = false := by
  unfold Tab.ignB; rw [colN_zero h.c6 hc]; rfl
theorem Made.rule9 (h : Made T) : T.rule9 = true := by
  unfold Tab.rule9
  rw [List.all_eq_true]
  intro m hm
  have hi := h.ign m hm
  have hpr : ∀ c, c ∉ keysOf protoL → findL T.prototypes c = [] := fun c hc => findL_no fun _ a ha e => hc (by
    have := h.pro.subset (List.mem_of_getElem? ha)
    rw [← e]; exact List.mem_map_of_mem this)
  have hel : ∀ c, c < 7680 → T.ignB c = false → c ∉ keysOf protoL → T.protoEl c = true := by
    intro c h1 h2 h3
    unfold Tab.protoEl Tab.plainB
    rw [h.dec.key_none (.inl h1), h2, hpr c h3]
    have : sylB c = false := by unfold sylB; rw [decide_eq_false_iff_not]; omega
    rw [this]; rfl
  have hpl : ∀ c, c < 7680 → T.ignB c = false → T.plainB c = true := by
    intro c h1 h2
    unfold Tab.plainB
    rw [h.dec.key_none (.inl h1), h2]; rfl
  have hm' := h.pro.subset hm
  unfold Tab.protoOk
  rw [Bool.and_eq_true, List.all_eq_true]
  simp only [protoL, List.mem_cons, List.not_mem_nil, or_false] at hm'
  rcases hm' with rfl | rfl | rfl | rfl | rfl
  all_goals
    refine ⟨hpl _ (by decide) hi.1, ?_⟩
    intro c hc
    simp only [List.mem_cons, List.not_mem_nil, or_false] at hc
  · subst hc; exact hel _ (by decide) (h.ign_none (by decide)) (by decide)
  · rcases hc with rfl | rfl <;> exact hel _ (by decide) (h.ign_none (by decide)) (by decide)
  · subst hc; exact hel _ (by decide) (h.ign_none (by decide)) (by decide)
  · subst hc; exact hel _ (by decide) (h.ign_none (by decide)) (by decide)
  · rcases hc with rfl | rfl
    · exact hel _ (by decide) (h.ign_none (by decide)) (by decide)
    · exact hel _ (by decide) hi.2 (by decide)
theorem check_zero {T : Tab} (h1 : T.rule1 = true) (h2 : T.rule2 = true) (h3 : T.rule3 = true) (h4 : T.rule4 = true) (h5 : T.rule5 = true) (h6 : T.rule6 = true) (h7 : T.rule7 = true) (h8 : T.rule8 = true) (h9 : T.rule9 = true) : T.check = 0 := by
  unfold Tab.check
  rw [h1, h2, h3, h4, h5, h6, h7, h8, h9]; rfl
theorem Made.check (h : Made T) : T.check = 0 := check_zero h.rule1 h.rule2 h.rule3 h.rule4 h.rule5 h.rule6 h.rule7 h.rule8 h.rule9
end
end ND
/-
  Canonical order of combining marks, in plain Lean: exchanging neighbours that are out of order changes no canonical order, and what is in order is its own.
-/
namespace ND

/-- x, put ahead of a sequence in order. -/
def putO (f : Int → Int) (x : Int) : List Int → List Int
  | [] => [x]
  | y :: r => if 0 < f y ∧ f y < f x then y :: putO f x r else x :: y :: r
/-- The canonical order. -/
def can (f : Int → Int) : List Int → List Int
  | [] => []
  | x :: r => putO f x (can f r)
/-- Two neighbours are in order. -/
def okP (f : Int → Int) (x y : Int) : Prop := ¬ (0 < f y ∧ f y < f x)
/-- In order up to n. -/
def SortN (f : Int → Int) (n : Nat) (l : List Int) : Prop := ∀ i x y, i + 1 < n → l[i]? = some x → l[i + 1]? = some y → okP f x y

theorem putO_swap {f : Int → Int} {x y : Int} (h0 : 0 < f y) (h1 : f y < f x) : ∀ R, putO f x (putO f y R) = putO f y (putO f x R) := by
  intro R
  induction R with
  | nil => simp only [putO]; rw [if_pos ⟨h0, h1⟩, if_neg (by omega)]
  | cons z R ih =>
    by_cases hz : 0 < f z ∧ f z < f y
    · have hx : 0 < f z ∧ f z < f x := ⟨hz.1, by omega⟩
      simp only [putO, if_pos hz, if_pos hx, ih]
    · simp only [putO, if_neg hz, if_pos (And.intro h0 h1)]
      by_cases hx : 0 < f z ∧ f z < f x
      · simp only [putO, if_pos hx, if_neg hz]
      · simp only [if_neg hx, putO]
        rw [if_neg (by omega)]
theorem can_swap {f : Int → Int} {x y : Int} (h0 : 0 < f y) (h1 : f y < f x) (a b : List Int) : can f (a ++ x :: y :: b) = can f (a ++ y :: x :: b) := by
  induction a with
  | nil => exact putO_swap h0 h1 _
  | cons z a ih => simp only [List.cons_append, can, ih]
theorem can_sorted {f : Int → Int} : ∀ l : List Int, SortN f l.length l → can f l = l := by
  intro l
  induction l with
  | nil => intro _; rfl
  | cons x r ih =>
    intro h
    have hr : SortN f r.length r := fun i a b hi ha hb => h (i + 1) a b (by simp; omega) (by simpa using ha) (by simpa using hb)
    rw [can, ih hr]
    cases r with
    | nil => rfl
    | cons y r =>
      have := h 0 x y (by simp) rfl rfl
      rw [putO, if_neg this]
theorem putO_length (f : Int → Int) (x : Int) : ∀ l, (putO f x l).length = l.length + 1 := by
  intro l
  induction l with
  | nil => rfl
  | cons y r ih => rw [putO]; split <;> simp [ih]
theorem can_length (f : Int → Int) : ∀ l, (can f l).length = l.length := by
  intro l
  induction l with
  | nil => rfl
  | cons x r ih => rw [can, putO_length, ih]; rfl
theorem putO_mem {f : Int → Int} {x z : Int} : ∀ {l}, z ∈ putO f x l ↔ z = x ∨ z ∈ l := by
  intro l
  induction l with
  | nil => simp [putO]
  | cons y r ih =>
    rw [putO]
    split
    · simp only [List.mem_cons, ih]
      constructor
      · rintro (h | h | h) <;> simp [h]
      · rintro (h | h | h) <;> simp [h]
    · simp
theorem can_mem {f : Int → Int} {z : Int} : ∀ {l}, z ∈ can f l ↔ z ∈ l := by
  intro l
  induction l with
  | nil => simp [can]
  | cons x r ih => rw [can, putO_mem, ih]; simp
theorem sortN_cons {f : Int → Int} {x y : Int} {r : List Int} (h : okP f x y) (hr : SortN f (r.length + 1) (y :: r)) : SortN f (r.length + 2) (x :: y :: r) := fun i a b hi ha hb => by
  cases i with
  | zero => simp at ha hb; subst ha; subst hb; exact h
  | succ i => exact hr i a b (by omega) (by simpa using ha) (by simpa using hb)
theorem putO_sorted {f : Int → Int} {x : Int} : ∀ l, SortN f l.length l → SortN f (putO f x l).length (putO f x l) := by
  intro l
  induction l with
  | nil => intro _ i a b hi; simp [putO] at hi
  | cons y r ih =>
    intro h
    have hr : SortN f r.length r := fun i a b hi ha hb => h (i + 1) a b (by simp; omega) (by simpa using ha) (by simpa using hb)
    by_cases hc : 0 < f y ∧ f y < f x
    · rw [putO, if_pos hc]
      have h2 := ih hr
      cases r with
      | nil => simp only [putO] at h2 ⊢; exact sortN_cons (fun e => by omega) (fun i a b hi => by simp at hi)
      | cons z r =>
        by_cases hz : 0 < f z ∧ f z < f x
        · simp only [putO, if_pos hz] at h2 ⊢
          exact sortN_cons (h 0 y z (by simp) rfl rfl) h2
        · simp only [putO, if_neg hz] at h2 ⊢
          exact sortN_cons (fun e => by omega) h2
    · rw [putO, if_neg hc]
      exact sortN_cons hc h
theorem can_is_sorted (f : Int → Int) : ∀ l, SortN f (can f l).length (can f l) := by
  intro l
  induction l with
  | nil => intro i a b hi; simp [can] at hi
  | cons x r ih => exact putO_sorted _ ih
theorem can_can (f : Int → Int) (l : List Int) : can f (can f l) = can f l := can_sorted _ (can_is_sorted f l)

/-- Neighbours exchanged. -/
def swapL (l : List Int) (p : Nat) (x y : Int) : List Int := (l.set (p + 1) x).set p y
theorem cut_two {l : List Int} {p : Nat} {x y : Int} (hx : l[p]? = some x) (hy : l[p + 1]? = some y) : ∃ a b, a.length = p ∧ l = a ++ x :: y :: b ∧ swapL l p x y = a ++ y :: x :: b := by
  obtain ⟨h1, e1⟩ := List.getElem?_eq_some_iff.1 hx
  obtain ⟨h2, e2⟩ := List.getElem?_eq_some_iff.1 hy
  have e : l = l.take p ++ x :: y :: l.drop (p + 2) := by
    conv => lhs; rw [← List.take_append_drop p l, List.drop_eq_getElem_cons h1, List.drop_eq_getElem_cons h2, e1, e2]
  refine ⟨l.take p, l.drop (p + 2), by simp; omega, e, ?_⟩
  have hl : (l.take p).length = p := by simp; omega
  rw [swapL]
  generalize l.take p = a at e hl
  generalize l.drop (p + 2) = b at e
  subst e; subst hl
  simp
theorem can_swapL {f : Int → Int} {l : List Int} {p : Nat} {x y : Int} (hx : l[p]? = some x) (hy : l[p + 1]? = some y) (h0 : 0 < f y) (h1 : f y < f x) : can f (swapL l p x y) = can f l := by
  obtain ⟨a, b, _, e, s⟩ := cut_two hx hy
  rw [s, e, can_swap h0 h1]
theorem swapL_length (l : List Int) (p : Nat) (x y : Int) : (swapL l p x y).length = l.length := by simp [swapL]
theorem swapL_at {l : List Int} {p : Nat} {x y : Int} (hx : l[p]? = some x) (hy : l[p + 1]? = some y) (i : Nat) : (swapL l p x y)[i]? = if i = p then some y else if i = p + 1 then some x else l[i]? := by
  have h1 := (List.getElem?_eq_some_iff.1 hx).1
  have h2 := (List.getElem?_eq_some_iff.1 hy).1
  rw [swapL, List.getElem?_set, List.getElem?_set]
  by_cases e : p = i
  · subst e; simp [h1]
  · rw [if_neg e, if_neg (Ne.symm e)]
    by_cases e2 : p + 1 = i
    · subst e2; simp [h2]
    · rw [if_neg e2, if_neg (Ne.symm e2)]

/-- What the exchanging goes up by. -/
def wsum (f : Int → Int) : Nat → List Int → Int
  | _, [] => 0
  | k, x :: r => (k : Int) * f x + wsum f (k + 1) r
theorem wsum_app (f : Int → Int) : ∀ (a b : List Int) (k : Nat), wsum f k (a ++ b) = wsum f k a + wsum f (k + a.length) b := by
  intro a
  induction a with
  | nil => intro b k; simp [wsum]
  | cons x a ih => intro b k; simp only [List.cons_append, wsum, ih, List.length_cons]; rw [show k + 1 + a.length = k + (a.length + 1) by omega]; omega
theorem wsum_swap {f : Int → Int} {x y : Int} (h1 : f y < f x) (a b : List Int) (k : Nat) : wsum f k (a ++ x :: y :: b) < wsum f k (a ++ y :: x :: b) := by
  rw [wsum_app, wsum_app]
  simp only [wsum]
  have e1 : ((k + a.length + 1 : Nat) : Int) * f y = ((k + a.length : Nat) : Int) * f y + f y := by push_cast; rw [Int.add_mul]; omega
  have e2 : ((k + a.length + 1 : Nat) : Int) * f x = ((k + a.length : Nat) : Int) * f x + f x := by push_cast; rw [Int.add_mul]; omega
  rw [e1, e2]
  omega
theorem wsum_swapL {f : Int → Int} {l : List Int} {p : Nat} {x y : Int} (hx : l[p]? = some x) (hy : l[p + 1]? = some y) (h1 : f y < f x) : wsum f 0 l < wsum f 0 (swapL l p x y) := by
  obtain ⟨a, b, _, e, s⟩ := cut_two hx hy
  rw [s, e]
  exact wsum_swap h1 a b 0
theorem wsum_le {f : Int → Int} (hf : ∀ x, 0 ≤ f x ∧ f x ≤ 255) : ∀ (l : List Int) (k n : Nat), k + l.length ≤ n → 0 ≤ wsum f k l ∧ wsum f k l ≤ (l.length : Int) * ((n : Int) * 255) := by
  intro l
  induction l with
  | nil => intro k n _; simp [wsum]
  | cons x l ih =>
    intro k n h
    rw [List.length_cons] at h
    obtain ⟨i0, i1⟩ := ih (k + 1) n (by omega)
    have h1 : (k : Int) * f x ≤ (n : Int) * 255 := Int.mul_le_mul (by omega) (hf x).2 (hf x).1 (by omega)
    have h2 : (0 : Int) ≤ (k : Int) * f x := Int.mul_nonneg (by omega) (hf x).1
    rw [wsum, List.length_cons]
    push_cast
    rw [Int.add_mul]
    omega
/-- What is left to be exchanged. -/
def leftO (f : Int → Int) (l : List Int) : Nat := ((l.length : Int) * ((l.length : Int) * 255) - wsum f 0 l).toNat
theorem leftO_swap {f : Int → Int} (hf : ∀ x, 0 ≤ f x ∧ f x ≤ 255) {l : List Int} {p : Nat} {x y : Int} (hx : l[p]? = some x) (hy : l[p + 1]? = some y) (h1 : f y < f x) : leftO f (swapL l p x y) < leftO f l := by
  have h := wsum_swapL hx hy h1
  have h2 := (wsum_le hf (swapL l p x y) 0 l.length (by rw [swapL_length]; omega)).2
  unfold leftO
  rw [swapL_length] at h2 ⊢
  omega
/-- Inserting: the first i are in order, but for the one that moves (at g). -/
structure Ins (f : Int → Int) (l o : List Int) (i g : Nat) (m : Int) : Prop where
  len : o.length = l.length
  can : can f o = can f l
  le : g ≤ i
  lt : i < l.length
  m : o[g]? = some m
  ok : ∀ p a b, p + 1 ≤ i → p + 1 ≠ g → o[p]? = some a → o[p + 1]? = some b → okP f a b
  skip : ∀ p a b, p + 1 = g → g + 1 ≤ i → o[p]? = some a → o[g + 1]? = some b → okP f a b
theorem Ins.start {f : Int → Int} {l o : List Int} {i : Nat} {m : Int} (hl : o.length = l.length) (hc : ND.can f o = ND.can f l) (hs : SortN f i o) (hi : i < l.length) (hm : o[i]? = some m) : Ins f l o i i m :=
  ⟨hl, hc, Nat.le_refl _, hi, hm, fun p a b h1 h2 ha hb => hs p a b (by omega) ha hb, fun p a b _ h => absurd h (by omega)⟩
theorem Ins.step {f : Int → Int} {l o : List Int} {i p : Nat} {m x : Int} (h : Ins f l o i (p + 1) m) (hx : o[p]? = some x) (h0 : 0 < f m) (h1 : f m < f x) : Ins f l (swapL o p x m) i p m where
  len := by rw [swapL_length, h.len]
  can := by rw [can_swapL hx h.m h0 h1, h.can]
  le := by have := h.le; omega
  lt := h.lt
  m := by rw [swapL_at hx h.m, if_pos rfl]
  ok q a b hq hne ha hb := by
    rw [swapL_at hx h.m] at ha hb
    by_cases e : q = p
    · subst e
      rw [if_pos rfl] at ha
      rw [if_neg (by omega), if_pos rfl] at hb
      cases ha; cases hb
      intro e; omega
    · rw [if_neg e] at ha
      by_cases e2 : q = p + 1
      · subst e2
        rw [if_pos rfl] at ha
        rw [if_neg (by omega), if_neg (by omega)] at hb
        cases ha
        exact h.skip p _ b rfl hq hx hb
      · rw [if_neg e2] at ha
        rw [if_neg (by omega), if_neg (by omega)] at hb
        exact h.ok q a b hq (by omega) ha hb
  skip q a b hq hi ha hb := by
    rw [swapL_at hx h.m] at ha hb
    rw [if_neg (by omega), if_neg (by omega)] at ha
    rw [if_neg (by omega), if_pos rfl] at hb
    cases hb
    subst hq
    exact h.ok q a _ (by omega) (by omega) ha hx
theorem Ins.stop {f : Int → Int} {l o : List Int} {i g : Nat} {m : Int} (h : Ins f l o i g m) (hs : ∀ p x, p + 1 = g → o[p]? = some x → ¬ (f m < f x)) : SortN f (i + 1) o := fun p a b hp ha hb => by
  by_cases e : p + 1 = g
  · have h2 := h.m
    rw [← e, hb] at h2
    cases h2
    exact fun h3 => hs p a e ha h3.2
  · exact h.ok p a b (by omega) e ha hb

theorem SortN.more {f : Int → Int} {l : List Int} {n : Nat} {x y : Int} (h : SortN f (n + 1) l) (hx : l[n]? = some x) (hy : l[n + 1]? = some y) (ho : okP f x y) : SortN f (n + 2) l := fun p a b hp ha hb => by
  by_cases e : p = n
  · subst e; rw [hx] at ha; rw [hy] at hb; cases ha; cases hb; exact ho
  · exact h p a b (by omega) ha hb
theorem SortN.zero {f : Int → Int} {l : List Int} {n : Nat} {y : Int} (h : SortN f n l) (hy : l[n]? = some y) (h0 : f y ≤ 0) : SortN f (n + 1) l := fun p a b hp ha hb => by
  by_cases e : p + 1 = n
  · subst e; rw [hy] at hb; cases hb; exact fun h3 => by omega
  · exact h p a b (by omega) ha hb
theorem sortN_one (f : Int → Int) (l : List Int) : SortN f 1 l := fun i x y h => by omega

/-- The reference's exchanging: one pass, begun at o0, has come to i. -/
structure Bub (f : Int → Int) (l o0 o : List Int) (i : Nat) (more : Bool) : Prop where
  len : o.length = l.length
  can : can f o = can f l
  yes : more = true → leftO f o < leftO f o0
  no : more = false → o = o0 ∧ SortN f i o
theorem Bub.start {f : Int → Int} {l o : List Int} (hl : o.length = l.length) (hc : ND.can f o = ND.can f l) : Bub f l o o 1 false :=
  ⟨hl, hc, fun h => (by cases h), fun _ => ⟨rfl, sortN_one _ _⟩⟩
theorem Bub.swap {f : Int → Int} {l o0 o : List Int} {p : Nat} {more : Bool} {x y : Int} (hf : ∀ x, 0 ≤ f x ∧ f x ≤ 255) (h : Bub f l o0 o (p + 1) more) (hx : o[p]? = some x) (hy : o[p + 1]? = some y) (h0 : 0 < f y) (h1 : f y < f x) : Bub f l o0 (swapL o p x y) (p + 2) true where
  len := by rw [swapL_length, h.len]
  can := by rw [can_swapL hx hy h0 h1, h.can]
  yes _ := by
    have h2 := leftO_swap hf hx hy h1
    cases more with
    | true => have := h.yes rfl; omega
    | false => rw [(h.no rfl).1] at h2 ⊢; exact h2
  no h := by cases h
theorem Bub.next {f : Int → Int} {l o0 o : List Int} {p : Nat} {more : Bool} {x y : Int} (h : Bub f l o0 o (p + 1) more) (hx : o[p]? = some x) (hy : o[p + 1]? = some y) (hn : okP f x y) : Bub f l o0 o (p + 2) more :=
  ⟨h.len, h.can, h.yes, fun e => ⟨(h.no e).1, (h.no e).2.more hx hy hn⟩⟩
theorem sorted_done {f : Int → Int} {l o : List Int} {n : Nat} (hl : o.length = l.length) (hc : can f o = can f l) (hn : l.length ≤ n) (hs : SortN f n o) : o = can f l := by
  rw [← hc]
  exact (can_sorted o fun p a b hp ha hb => hs p a b (by omega) ha hb).symm

/-- Where the runs begin and end. -/
def runsGo (f : Int → Int) : Nat → Bool → List Int → List Int
  | i, ins, [] => if ins then [(i : Int)] else []
  | i, ins, c :: r => if (f c != 0) == ins then runsGo f (i + 1) ins r else (i : Int) :: runsGo f (i + 1) (!ins) r
def runsL (f : Int → Int) (l : List Int) : List Int := runsGo f 0 false l
theorem runsGo_step {f : Int → Int} {l : List Int} {i : Nat} {c : Int} (ins : Bool) (h : l[i]? = some c) : runsGo f i ins (l.drop i) = if (f c != 0) == ins then runsGo f (i + 1) ins (l.drop (i + 1)) else (i : Int) :: runsGo f (i + 1) (!ins) (l.drop (i + 1)) := by
  obtain ⟨h1, e⟩ := List.getElem?_eq_some_iff.1 h
  rw [List.drop_eq_getElem_cons h1, e, runsGo]
theorem runsGo_end {f : Int → Int} {l : List Int} {i : Nat} (ins : Bool) (h : l.length ≤ i) : runsGo f i ins (l.drop i) = if ins then [(i : Int)] else [] := by
  rw [List.drop_of_length_le h, runsGo]
theorem runsGo_len (f : Int → Int) : ∀ (l : List Int) (i : Nat) (ins : Bool), (runsGo f i ins l).length ≤ l.length + 1 := by
  intro l
  induction l with
  | nil => intro i ins; rw [runsGo]; split <;> simp
  | cons c r ih =>
    intro i ins
    rw [runsGo]
    split
    · have := ih (i + 1) ins; simp; omega
    · have := ih (i + 1) (!ins); simp; omega
/-- From inside a run: where it ends, and what follows. -/
theorem runsGo_inside (f : Int → Int) : ∀ (r : List Int) (i : Nat), ∃ k, i ≤ k ∧ runsGo f i true r = (k : Int) :: (runsGo f i true r).tail := by
  intro r
  induction r with
  | nil => intro i; exact ⟨i, Nat.le_refl _, rfl⟩
  | cons c r ih =>
    intro i
    rw [runsGo]
    split
    · obtain ⟨k, h1, h2⟩ := ih (i + 1)
      exact ⟨k, by omega, h2⟩
    · exact ⟨i, Nat.le_refl _, rfl⟩

theorem putO_filter {f : Int → Int} {x v : Int} : ∀ R, (putO f x R).filter (fun c => f c == v) = (x :: R).filter (fun c => f c == v) := by
  intro R
  induction R with
  | nil => rfl
  | cons y r ih =>
    rw [putO]
    split
    · rename_i h
      rw [List.filter_cons, ih]
      simp only [List.filter_cons]
      by_cases hx : f x = v
      · rw [if_neg (by simp; omega)]; simp [hx]; intro e; omega
      · simp [hx]
    · rfl
theorem can_filter (f : Int → Int) (v : Int) : ∀ l, (can f l).filter (fun c => f c == v) = l.filter (fun c => f c == v) := by
  intro l
  induction l with
  | nil => rfl
  | cons x r ih => rw [can, putO_filter, List.filter_cons, ih, List.filter_cons]
theorem can_same {f : Int → Int} {x y v : Int} {a b : List Int} (hx : f x = v) (hy : f y = v) (h : can f (a ++ x :: y :: b) = can f (a ++ y :: x :: b)) : x = y := by
  have h1 := can_filter f v (a ++ x :: y :: b)
  rw [h, can_filter] at h1
  simp only [List.filter_append, List.filter_cons, hx, hy, beq_self_eq_true, if_true] at h1
  have := List.append_cancel_left h1
  injection this with e _
  exact e.symm
theorem putO_app {f : Int → Int} {x z : Int} (hz : f z ≤ 0) (S : List Int) : ∀ R, putO f x (R ++ z :: S) = putO f x R ++ z :: S := by
  intro R
  induction R with
  | nil => simp only [List.nil_append, putO]; rw [if_neg (by omega)]; rfl
  | cons y r ih =>
    simp only [List.cons_append, putO]
    split
    · rw [ih]; rfl
    · rfl
theorem can_app {f : Int → Int} {z : Int} (hf : ∀ x, 0 ≤ f x) (hz : f z = 0) (b : List Int) : ∀ a, can f (a ++ z :: b) = can f a ++ z :: can f b := by
  intro a
  induction a with
  | nil =>
    simp only [List.nil_append, can]
    cases can f b with
    | nil => rfl
    | cons y r => rw [putO, if_neg (by have := hf y; omega)]
  | cons x a ih => simp only [List.cons_append, can, ih, putO_app (by omega : f z ≤ 0)]
theorem putO_at {f : Int → Int} {x z : Int} (hz : f z = 0) : ∀ (R : List Int) (i : Nat), R[i]? = some z → (putO f x R)[i + 1]? = some z := by
  intro R
  induction R with
  | nil => intro i h; simp at h
  | cons y r ih =>
    intro i h
    rw [putO]
    split
    · rename_i hc
      cases i with
      | zero => simp at h; subst h; omega
      | succ i => rw [List.getElem?_cons_succ]; exact ih i (by simpa using h)
    · rw [List.getElem?_cons_succ]; exact h
theorem can_at {f : Int → Int} {z : Int} (hf : ∀ x, 0 ≤ f x) (hz : f z = 0) : ∀ (l : List Int) (i : Nat), l[i]? = some z → (can f l)[i]? = some z := by
  intro l
  induction l with
  | nil => intro i h; simp at h
  | cons x r ih =>
    intro i h
    rw [can]
    cases i with
    | zero =>
      simp at h; subst h
      cases can f r with
      | nil => rfl
      | cons y q => rw [putO, if_neg (by have := hf y; omega)]; rfl
    | succ i => exact putO_at hz _ _ (ih i (by simpa using h))
theorem putO_count {f : Int → Int} {x z : Int} : ∀ R, (putO f x R).count z = (x :: R).count z := by
  intro R
  induction R with
  | nil => rfl
  | cons y r ih =>
    rw [putO]
    split
    · rw [List.count_cons, ih]; simp only [List.count_cons]; omega
    · rfl
theorem can_count (f : Int → Int) (z : Int) : ∀ l, (can f l).count z = l.count z := by
  intro l
  induction l with
  | nil => rfl
  | cons x r ih => rw [can, putO_count, List.count_cons, ih, List.count_cons]
end ND
/-
  What tables without a violated rule give: the range of the classes.
-/
namespace Go.Proofs.YtneinkpfhkojgaaDoor
open Go.RowKit ND

theorem rules_of {T : Tab} (h : T.check = 0) : T.rule1 = true ∧ T.rule2 = true ∧ T.rule3 = true ∧ T.rule4 = true ∧ T.rule5 = true ∧ T.rule6 = true ∧ T.rule7 = true ∧ T.rule8 = true ∧ T.rule9 = true := by
  unfold Tab.check at h
  cases h1 : T.rule1 <;> cases h2 : T.rule2 <;> cases h3 : T.rule3 <;> cases h4 : T.rule4 <;> cases h5 : T.rule5 <;> cases h6 : T.rule6 <;> cases h7 : T.rule7 <;> cases h8 : T.rule8 <;> cases h9 : T.rule9 <;> simp [h1, h2, h3, h4, h5, h6, h7, h8, h9] at h ⊢
theorem shape_of {T : Tab} (h : T.check = 0) : Shape T := Shape.of (rules_of h).1 (rules_of h).2.1
theorem sized_of {T : Tab} (h : T.check = 0) : Sized T := Sized.of (rules_of h).2.2.2.1
theorem valueL_mem (l : List Sp) (c : Int) : valueL l c = 0 ∨ ∃ s ∈ l, valueL l c = s.2.2 := by
  induction l with
  | nil => exact .inl rfl
  | cons s r ih =>
    by_cases h : s.1 ≤ c ∧ c ≤ s.2.1
    · exact .inr ⟨s, List.mem_cons_self, by rw [valueL, if_pos h]⟩
    · rcases ih with ih | ⟨q, hq, e⟩
      · exact .inl (by rw [valueL, if_neg h]; exact ih)
      · exact .inr ⟨q, List.mem_cons_of_mem _ hq, by rw [valueL, if_neg h]; exact e⟩
theorem vals_in {T : Tab} (h : T.check = 0) {l : List Sp} {a b : Int} (hm : (l, a, b) ∈ T.cols) : ∀ s ∈ l, a ≤ s.2.2 ∧ s.2.2 ≤ b := by
  have h3 := (rules_of h).2.2.1
  unfold Tab.rule3 at h3
  rw [List.all_eq_true] at h3
  have h4 := h3 _ hm
  unfold valsOk at h4
  rw [List.all_eq_true] at h4
  intro s hs
  simpa using h4 s hs
theorem cls_range {T : Tab} (h : T.check = 0) (c : Int) : 0 ≤ T.classOf c ∧ T.classOf c ≤ 255 := by
  rcases valueL_mem T.cls c with e | ⟨s, hs, e⟩
  · unfold Tab.classOf; rw [e]; omega
  · have := vals_in h (l := T.cls) (a := 1) (b := 254) (by simp [Tab.cols]) s hs
    unfold Tab.classOf; rw [e]; omega
end Go.Proofs.YtneinkpfhkojgaaDoor
/-
  A variable that holds tables.
-/
namespace Go.Proofs.YtneinkpfhkojgaaDoor
open Go.RowKit ND

/-- A variable that holds tables. -/
def Tbl (W : World) (b : Nat) (t : Tv) (T : Tab) : Prop := Blk W b 26 #[t.c0, t.c1, t.c2, t.c3, t.c4, t.c5, t.c6, t.c7, t.c8, t.c9, t.c10, t.c11] ∧ TabR W W.heap.size t T
theorem Tbl.later {W W' : World} {b : Nat} {t : Tv} {T : Tab} (h : Tbl W b t T) (hb : Below W.heap.size W W') : Tbl W' b t T := ⟨h.1.later hb, h.2.later hb⟩
/-- Tables are laid into a variable. -/
theorem Tbl.new {w1 : World} {T : Tab} {A0 A1 A2 A3 A4 A5 A6 A7 A8 A9 A10 A11 : Option Addr} {k0 k1 k2 k3 k4 k5 k6 k7 k8 k9 k10 k11 : Nat} (h : TabR w1 w1.heap.size ⟨.slice A0 T.category.length k0, .slice A1 T.cls.length k1, .slice A2 T.joining.length k2, .slice A3 T.bidi.length k3, .slice A4 T.script.length k4, .slice A5 T.status.length k5, .slice A6 T.ignorable.length k6, .slice A7 T.extensions.length k7, .slice A8 T.maps.length k8, .slice A9 T.decomps.length k9, .slice A10 T.excluded.length k10, .slice A11 T.prototypes.length k11⟩ T) :
    ∃ t : Tv, t = ⟨.slice A0 T.category.length k0, .slice A1 T.cls.length k1, .slice A2 T.joining.length k2, .slice A3 T.bidi.length k3, .slice A4 T.script.length k4, .slice A5 T.status.length k5, .slice A6 T.ignorable.length k6, .slice A7 T.extensions.length k7, .slice A8 T.maps.length k8, .slice A9 T.decomps.length k9, .slice A10 T.excluded.length k10, .slice A11 T.prototypes.length k11⟩ ∧ Tbl (w1.alloc (.cells #[.slice A0 T.category.length k0, .slice A1 T.cls.length k1, .slice A2 T.joining.length k2, .slice A3 T.bidi.length k3, .slice A4 T.script.length k4, .slice A5 T.status.length k5, .slice A6 T.ignorable.length k6, .slice A7 T.extensions.length k7, .slice A8 T.maps.length k8, .slice A9 T.decomps.length k9, .slice A10 T.excluded.length k10, .slice A11 T.prototypes.length k11] 26)) w1.heap.size t T :=
  ⟨_, rfl, Blk.new _ _ _, h.later ((Below.refl _ _).alloc (Nat.le_refl _) _)⟩
end Go.Proofs.YtneinkpfhkojgaaDoor
/-
  The walk through order.Sort.
-/
namespace Go.Proofs.YtneinkpfhkojgaaDoor
open Go.RowKit ND

theorem row_le {w : World} {base base' size n : Nat} {e : TypeId} {v : Value} {xs : List Value} (h : w.ownsRow base e size v n xs) (hb : base' ≤ base) : w.ownsRow base' e size v n xs :=
  ⟨h.1, h.2.imp id fun ⟨g, cap, cur, hv, h1, h2⟩ => ⟨g, cap, cur, hv, Nat.le_trans hb h1, h2⟩⟩
/-- A sequence comes back in a row of the call's own. -/
def RetRow (w : World) (ys : List Int) (e : Ending) (w' : World) : Prop := ∃ v, e = .returned v ∧ w'.ownsRow w.heap.size 3 1 v ys.length (ys.map (Value.int .i64)) ∧ Below w.heap.size w w'

set_option maxRecDepth 100000 in
set_option maxHeartbeats 4000000 in
theorem sort_any (t : Tv) (T : Tab) (v : Value) (xs : List Int) (w : World) (ht : TabR w w.heap.size t T) (hck : T.check = 0) (hlen : xs.length ≤ 4096) (hv : Ints w w.heap.size .i64 v xs) :
    Calls Tryd.prog 43 #[t.val, v] w (RetRow w (can T.classOf xs)) := by
  obtain ⟨A, c, rfl, _⟩ := id hv
  have hsh := shape_of hck
  have HF := Lib.hid (fun x => (cls_range hck x).1)
  obtain ⟨f, hf⟩ : ∃ f, T.classOf = f := ⟨_, rfl⟩
  have HC : Hid (∀ (b : Nat) (W : World) (x : Int), Tbl W b t T → Calls Tryd.prog 44 #[.agg #[t.c0, t.c1, t.c2, t.c3, t.c4, t.c5, t.c6, t.c7, t.c8, t.c9, t.c10, t.c11], .int .i64 x] W fun e W' => e = .returned (.int .i64 (f x)) ∧ Below W.heap.size W W') := Lib.hid fun b W x h => by
    have h2 := class_any t T x 0 1114111 W h.2 hsh.c1.1 hsh.c1.2.1
    rw [hf] at h2; exact h2
  rw [hf] at HF ⊢
  have HB0 : Hid (Below w.heap.size w (w.alloc (.cells t.cells 26))) := Lib.hid ((Below.refl _ _).alloc (Nat.le_refl _) _)
  have HT : Hid (Tbl (w.alloc (.cells t.cells 26)) w.heap.size t T) := Lib.hid ⟨Blk.new _ _ _, ht.later HB0.out⟩
  have HV := Lib.hid (hv.later HB0.out)
  clear hv ht hck hsh hf
  go_enter Tryd.func43, Tryd.ntmps43
  go_upto_region 1 with fail
  generalize w.alloc (.cells t.cells 26) = w1 at *
  obtain ⟨tb, htb⟩ : ∃ tb, w.heap.size = tb := ⟨_, rfl⟩
  rw [htb] at HT
  simp only [htb]
  obtain ⟨i0, hi, hz0, hz1, hz2⟩ := info_parts Tryd.infoInt'
  go_upto_region 2 with (at_builtin; refine wpList_append_ints (by rfl) (.const (.slice none 0 0)) (.tmp 9) rfl Tryd.underlying22 hi hz0 hz1 hz2 w1.heap.size w1.heap.size (.slice none 0 0) [] (.slice A xs.length c) xs rfl (World.ownsRow_nil _ _ _ _) rfl HV.out (by simp; omega) (Nat.le_refl _) ?_; intro v5 w2 ho hg _; simp only [List.nil_append] at ho; obtain ⟨A5, c5, rfl, _⟩ := id (Ints.of_own ho); have HO := Lib.hid ho; have HB2 := Lib.hid ((Below.refl _ _).grown hg (Nat.le_refl _) (fun k hk => by cases hk)); clear ho hg)
  go_wp2_with fail
  go_loopw [13] (fun s13 wr => ∃ (k : Nat) (o : List Int), k ≤ xs.length ∧ s13 = .int .i64 k ∧ Hid (o.length = xs.length ∧ can f o = can f xs ∧ SortN f k o) ∧ Hid (wr.ownsRow w1.heap.size 3 1 (.slice A5 xs.length c5) xs.length (o.map (Value.int .i64))) ∧ Hid (Below w1.heap.size w1 wr)) (fun i _ => xs.length - (intOf i).toNat)
  case atStart => exact ⟨0, xs, by omega, rfl, Lib.hid ⟨rfl, rfl, fun i x y h => by omega⟩, HO, HB2⟩
  case round =>
    obtain ⟨k, o, hk, rfl, HS, HOr, HBr⟩ := hrel
    by_cases hlt : k < xs.length
    · obtain ⟨x, hx⟩ : ∃ x, o[k]? = some x := ⟨_, List.getElem?_eq_getElem (by rw [HS.out.1]; exact hlt)⟩
      obtain ⟨gb, cap, e, hgb, _⟩ := HOr.out.form (by omega)
      cases e
      have hcell := (HOr.out.cellAt k (by omega)).trans (by rw [List.getElem?_map, hx]; rfl : (o.map (Value.int .i64))[k]? = some (.int .i64 x))
      have e1 := cell_regrown hcell
      have HX := Lib.hid hx
      have HTr := Lib.hid (HT.out.later HBr.out)
      have HCx : Hid (∀ V, Below wr.heap.size wr V → Calls Tryd.prog 44 #[.agg #[t.c0, t.c1, t.c2, t.c3, t.c4, t.c5, t.c6, t.c7, t.c8, t.c9, t.c10, t.c11], .int .i64 x] V fun e V' => e = .returned (.int .i64 (f x)) ∧ Below V.heap.size V V') := Lib.hid fun V hV => HC.out tb V x (HTr.out.later hV)
      have k0 : (0 : Int) ≤ (k : Int) := by omega
      have k1 : (k : Int) < (xs.length : Int) := by omega
      clear hx hcell
      go_upto_region 5 with fail
      obtain ⟨x0, x1, x2, x3, x4, x5, x6, x7, x8, x9, x10, x11⟩ := HTr.out.1.tabG
      refine wp_region_quiet_below (by kernel_rfl) (by kernel_rfl) ?_
      repeat (go_big_quiet_step ((go_at_call 44; with_reducible exact quiet_t HCx.out)))
      refine wpQuiet_nil ?_
      rintro _ ⟨⟨dq, osq⟩, rfl⟩
      have b5 := below_regrown wr dq osq
      clear x0 x1 x2 x3 x4 x5 x6 x7 x8 x9 x10 x11 e1 HCx HTr
      have HO5 := Lib.hid (own_later HOr.out b5)
      have HB5 := Lib.hid (below_then HBr.out (Nat.le_refl _) b5)
      generalize Go.Sort.grow (redrawn wr dq) osq = w5 at *
      clear HOr HBr b5
      by_cases h0 : f x = 0
      · have hb : (f x == 0) = true := by rw [h0]; rfl
        have HN := Lib.hid (SortN.zero HS.out.2.2 HX.out (by omega))
        clear h0
        go_wp2_with fail
        go_roundw
        case rel => exact ⟨k + 1, o, by omega, by go_num, Lib.hid ⟨HS.out.1, HS.out.2.1, HN.out⟩, HO5, HB5⟩
        case measure => simp [intOf]; omega
      · have hb : (f x == 0) = false := by simpa using h0
        have hpos : 0 < f x := by have := HF.out x; omega
        have HI := Lib.hid (Ins.start (f := f) HS.out.1 HS.out.2.1 HS.out.2.2 hlt HX.out)
        clear h0 HX HS
        go_wp2_with fail
        go_loopw [8] (fun s8 wr => ∃ (q : Nat) (o : List Int), s8 = .int .i64 q ∧ Hid (Ins f xs o k q x) ∧ Hid (wr.ownsRow w1.heap.size 3 1 (.slice (some ⟨gb, 0, none⟩) xs.length c5) xs.length (o.map (Value.int .i64))) ∧ Hid (Below w1.heap.size w1 wr)) (fun i _ => (intOf i).toNat)
        case atStart => exact ⟨k, o, rfl, HI, HO5, HB5⟩
        case round =>
          clear HI HO5 HB5
          obtain ⟨q, o, rfl, HI, HO6, HB6⟩ := hrel
          cases q with
          | zero =>
            have HN := Lib.hid (HI.out.stop (fun p y h => by omega))
            have HL := Lib.hid (And.intro HI.out.len HI.out.can)
            go_upto_region 8 with fail
            refine wp_region_quiet_below (by kernel_rfl) (by kernel_rfl) ?_
            repeat (go_big_quiet_step (fail))
            refine wpQuiet_nil ?_
            rintro _ ⟨⟨dq, osq⟩, rfl⟩
            have b5 := below_regrown wr dq osq
            have HO7 := Lib.hid (own_later HO6.out b5)
            have HB7 := Lib.hid (below_then HB6.out (Nat.le_refl _) b5)
            generalize Go.Sort.grow (redrawn wr dq) osq = w7 at *
            go_wp2_with fail
            go_roundw
            case rel => exact ⟨k + 1, o, by omega, by go_num, Lib.hid ⟨HL.out.1, HL.out.2, HN.out⟩, HO7, HB7⟩
            case measure => simp [intOf]; omega
          | succ p =>
            have hle := HI.out.le
            have hol := HI.out.len
            obtain ⟨y, hy⟩ : ∃ y, o[p]? = some y := ⟨_, List.getElem?_eq_getElem (by omega)⟩
            have hcp := (HO6.out.cellAt p (by omega)).trans (by rw [List.getElem?_map, hy]; rfl : (o.map (Value.int .i64))[p]? = some (.int .i64 y))
            have hcq := (HO6.out.cellAt (p + 1) (by omega)).trans (by rw [List.getElem?_map, HI.out.m]; rfl : (o.map (Value.int .i64))[p + 1]? = some (.int .i64 x))
            have ep := cell_regrown hcp
            have eq := cell_regrown hcq
            have HY := Lib.hid hy
            have HTr := Lib.hid (HT.out.later HB6.out)
            have HCy : Hid (∀ V, Below wr.heap.size wr V → Calls Tryd.prog 44 #[.agg #[t.c0, t.c1, t.c2, t.c3, t.c4, t.c5, t.c6, t.c7, t.c8, t.c9, t.c10, t.c11], .int .i64 y] V fun e V' => e = .returned (.int .i64 (f y)) ∧ Below V.heap.size V V') := Lib.hid fun V hV => HC.out tb V y (HTr.out.later hV)
            have w0 : IntKind.i64.wrap (((p + 1 : Nat) : Int) - 1) = (p : Int) := by rw [IntWalk.i64_in _ (by omega)]; omega
            have w2 : ((p + 1 : Nat) : Int) - 1 = (p : Int) := by omega
            have k2 : (0 : Int) < ((p + 1 : Nat) : Int) := by omega
            have k3 : (0 : Int) ≤ (p : Int) := by omega
            have k4 : (p : Int) < (xs.length : Int) := by omega
            clear hy hcp hcq hle hol
            by_cases h9 : f x < f y
            · have hgt : decide (f x < f y) = true := decide_eq_true h9
              go_upto_region 8 with fail
              obtain ⟨x0, x1, x2, x3, x4, x5, x6, x7, x8, x9, x10, x11⟩ := HTr.out.1.tabG
              refine wp_region_quiet_below (by kernel_rfl) (by kernel_rfl) ?_
              repeat (go_big_quiet_step ((go_at_call 44; with_reducible exact quiet_t HCy.out)))
              refine wpQuiet_nil ?_
              rintro _ ⟨⟨dq, osq⟩, rfl⟩
              have b7 := below_regrown wr dq osq
              clear x0 x1 x2 x3 x4 x5 x6 x7 x8 x9 x10 x11 ep eq HCy HTr
              have HO7 := Lib.hid (own_later HO6.out b7)
              have HB7 := Lib.hid (below_then HB6.out (Nat.le_refl _) b7)
              generalize Go.Sort.grow (redrawn wr dq) osq = w7 at *
              clear HO6 HB6 b7
              have hle := HI.out.le
              have hol := HI.out.len
              have hcp := (HO7.out.cellAt p (by omega)).trans (by rw [List.getElem?_map, HY.out]; rfl : (o.map (Value.int .i64))[p]? = some (.int .i64 y))
              have hcq := (HO7.out.cellAt (p + 1) (by omega)).trans (by rw [List.getElem?_map, HI.out.m]; rfl : (o.map (Value.int .i64))[p + 1]? = some (.int .i64 x))
              have fp := HO7.out.frozenAt p
              have fq := HO7.out.frozenAt (p + 1)
              have k5 : (0 : Int) ≤ ((p + 1 : Nat) : Int) := by omega
              have k6 : ((p + 1 : Nat) : Int) < (xs.length : Int) := by omega
              clear hle hol
              go_wp2_with fail
              go_region
              clear hcp hcq fp fq
              have HO8 : Hid (((w7.setCell ⟨gb, p + 1, none⟩ (.int .i64 y)).setCell ⟨gb, p, none⟩ (.int .i64 x)).drew.ownsRow w1.heap.size 3 1 (.slice (some ⟨gb, 0, none⟩) xs.length c5) xs.length ((swapL o p y x).map (Value.int .i64))) := by
                have h := ((HO7.out.stored (p + 1) (.int .i64 y)).1.stored p (.int .i64 x)).1
                rw [← List.map_set, ← List.map_set] at h
                exact Lib.hid h.drew
              have HB8 : Hid (Below w1.heap.size w1 ((w7.setCell ⟨gb, p + 1, none⟩ (.int .i64 y)).setCell ⟨gb, p, none⟩ (.int .i64 x)).drew) := Lib.hid (((HB7.out.setCell (p := ⟨gb, p + 1, none⟩) hgb _).setCell (p := ⟨gb, p, none⟩) hgb _).drew)
              have HN := Lib.hid (HI.out.step HY.out hpos h9)
              generalize ((w7.setCell ⟨gb, p + 1, none⟩ (.int .i64 y)).setCell ⟨gb, p, none⟩ (.int .i64 x)).drew = w8 at *
              go_wp2_with fail
              go_roundw
              case rel => exact ⟨p, swapL o p y x, rfl, HN, HO8, HB8⟩
              case measure => simp [intOf]
            · have hgt : decide (f x < f y) = false := decide_eq_false h9
              have HN := Lib.hid (HI.out.stop (fun p' y' h hy' hlt' => by
                obtain rfl : p' = p := by omega
                rw [HY.out] at hy'; cases hy'; exact h9 hlt'))
              have HL := Lib.hid (And.intro HI.out.len HI.out.can)
              clear h9
              go_upto_region 8 with fail
              obtain ⟨x0, x1, x2, x3, x4, x5, x6, x7, x8, x9, x10, x11⟩ := HTr.out.1.tabG
              refine wp_region_quiet_below (by kernel_rfl) (by kernel_rfl) ?_
              repeat (go_big_quiet_step ((go_at_call 44; with_reducible exact quiet_t HCy.out)))
              refine wpQuiet_nil ?_
              rintro _ ⟨⟨dq, osq⟩, rfl⟩
              have b7 := below_regrown wr dq osq
              clear x0 x1 x2 x3 x4 x5 x6 x7 x8 x9 x10 x11 ep eq HCy HTr
              have HO7 := Lib.hid (own_later HO6.out b7)
              have HB7 := Lib.hid (below_then HB6.out (Nat.le_refl _) b7)
              generalize Go.Sort.grow (redrawn wr dq) osq = w7 at *
              go_wp2_with fail
              go_roundw
              case rel => exact ⟨k + 1, o, by omega, by go_num, Lib.hid ⟨HL.out.1, HL.out.2, HN.out⟩, HO7, HB7⟩
              case measure => simp [intOf]; omega
    · have HD := Lib.hid (sorted_done HS.out.1 HS.out.2.1 (by omega) HS.out.2.2)
      go_wp2_with fail
      go_ret
      refine ⟨_, rfl, ?_, ?_⟩
      · rw [can_length, ← HD.out]
        exact row_le HOr.out HB0.out.size
      · exact HB0.out.trans (HBr.out.mono HB0.out.size)
end Go.Proofs.YtneinkpfhkojgaaDoor
/-
  The walk through keep.Same at integers.
-/
namespace Go.Proofs.YtneinkpfhkojgaaDoor
open Go.RowKit ND

theorem same_step {xs ys : List Int} {k : Nat} {x : Int} (h : xs.take k = ys.take k) (hx : xs[k]? = some x) (hy : ys[k]? = some x) : xs.take (k + 1) = ys.take (k + 1) := by
  obtain ⟨a, a'⟩ := List.getElem?_eq_some_iff.1 hx
  obtain ⟨b, b'⟩ := List.getElem?_eq_some_iff.1 hy
  rw [List.take_succ_eq_append_getElem a, List.take_succ_eq_append_getElem b, h, a', b']

set_option maxRecDepth 100000 in
set_option maxHeartbeats 1000000 in
theorem same_any (v u : Value) (xs ys : List Int) (w : World) (hv : Ints w w.heap.size .i64 v xs) (hu : Ints w w.heap.size .i64 u ys) :
    Calls Tryd.prog 20 #[v, u] w fun e w' => e = .returned (.bool (decide (xs = ys))) ∧ Below w.heap.size w w' := by
  obtain ⟨A, c, rfl, hc1, hc2, _, hcell⟩ := hv
  obtain ⟨A', c', rfl, hc1', hc2', _, hcell'⟩ := hu
  have HC := Lib.hid hcell; clear hcell
  have HC' := Lib.hid hcell'; clear hcell'
  have hl : xs.length ≤ 9223372036854775807 := by unfold maxLen at hc2; omega
  clear hc2 hc2' hc1 hc1'
  by_cases hlen : xs.length = ys.length
  · have hb : ((xs.length : Int) != (ys.length : Int)) = false := by rw [hlen]; simp
    have hl1 : xs.length ≤ ys.length := by omega
    have hl2 : ys.length ≤ xs.length := by omega
    clear hlen
    obtain ⟨R, hR⟩ : ∃ R, R = decide (xs = ys) := ⟨_, rfl⟩
    rw [← hR]
    have HR := Lib.hid hR; clear hR
    go_enter Tryd.func20, Tryd.ntmps20
    go_wp2_with fail
    go_loopw [13] (fun i wr => ∃ k : Nat, k ≤ xs.length ∧ i = .int .i64 k ∧ Hid (xs.take k = ys.take k) ∧ Below w.heap.size w wr) (fun i _ => xs.length - (intOf i).toNat)
    case atStart => exact ⟨0, by omega, rfl, Lib.hid (by simp), Below.refl _ _⟩
    case round =>
      obtain ⟨k, hk, rfl, HS, hbel⟩ := hrel
      by_cases hlt : k < xs.length
      · obtain ⟨x, hxk, _⟩ := get_of hlt
        obtain ⟨y, hyk, _⟩ := get_of (show k < ys.length by omega)
        obtain ⟨ad, rfl, ha, hce⟩ := HC.out k x hxk
        obtain ⟨ad', rfl, ha', hce'⟩ := HC'.out k y hyk
        have e1 := (hbel.cell (p := ad.add k) (by rw [block_of_add]; exact ha)).trans hce
        have e2 := (hbel.cell (p := ad'.add k) (by rw [block_of_add]; exact ha')).trans hce'
        have HX := Lib.hid hxk
        have HY := Lib.hid hyk
        clear hce hce' hxk hyk ha ha'
        have k0 : (0 : Int) ≤ (k : Int) := by omega
        have k1 : (k : Int) < (xs.length : Int) := by omega
        have k2 : (k : Int) < (ys.length : Int) := by omega
        by_cases hxy : x = y
        · have hb2 : (x != y) = false := by rw [hxy]; simp
          have HT := Lib.hid (same_step HS.out HX.out (by rw [hxy]; exact HY.out))
          clear hxy
          go_wp2_with fail
          go_quiet (fail)
          go_wp2_with fail
          go_roundw
          case rel => exact ⟨k + 1, by omega, by go_num, HT, below_drewN hbel nq⟩
          case measure => simp [intOf]; omega
        · have hb2 : (x != y) = true := by rw [bne_iff_ne]; exact hxy
          have HN : Hid (R = false) := by
            refine Lib.hid ?_
            rw [HR.out, decide_eq_false_iff_not]
            rintro rfl
            have := HX.out.symm.trans HY.out
            simp at this
            exact hxy this
          clear hxy
          go_wp2_with fail
          go_quiet (fail)
          go_wp2_with fail
          go_ret
          rw [HN.out]
          exact ⟨rfl, below_drewN hbel nq⟩
      · have HN : Hid (R = true) := by
          refine Lib.hid ?_
          rw [HR.out, decide_eq_true_iff]
          have h := HS.out
          rw [List.take_of_length_le (by omega), List.take_of_length_le (by omega)] at h
          exact h
        go_wp2_with fail
        go_ret
        rw [HN.out]
        exact ⟨rfl, hbel⟩
  · have hb : ((xs.length : Int) != (ys.length : Int)) = true := by rw [bne_iff_ne]; omega
    have hn : decide (xs = ys) = false := by
      rw [decide_eq_false_iff_not]; rintro rfl; exact hlen rfl
    rw [hn]
    clear hn hlen
    go_enter Tryd.func20, Tryd.ntmps20
    go_wp2_with fail
    go_ret
    exact ⟨rfl, Below.refl _ _⟩
end Go.Proofs.YtneinkpfhkojgaaDoor
