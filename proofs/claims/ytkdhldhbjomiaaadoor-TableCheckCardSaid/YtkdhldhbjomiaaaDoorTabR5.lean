/-
  The walks through table.mapped and the reference's mapped: rule 5.
-/
import Derived.Test.YtkdhldhbjomiaaaDoorTabRef
import Derived.Test.YtkdhldhbjomiaaaDoorTabProps
import Derived.Test.YtkdhldhbjomiaaaDoorMem
namespace Go.Proofs.YtkdhldhbjomiaaaDoor
open Go.RowKit ND

theorem count_go {l : List Sp} {k : Nat} {s : Sp} {n R : Int} (hx : l[k]? = some s) (h : n + mapCount (l.drop k) = R) : (s.2.2 = 3 → n + (s.2.1 - s.1 + 1) + mapCount (l.drop (k + 1)) = R) ∧ (s.2.2 ≠ 3 → n + mapCount (l.drop (k + 1)) = R) := by
  rw [drop_of_get hx, mapCount] at h
  constructor
  · intro h3; rw [if_pos h3] at h; omega
  · intro h3; rw [if_neg h3] at h; omega
theorem count_end {l : List Sp} {k : Nat} {n R : Int} (hk : l.length ≤ k) (h : n + mapCount (l.drop k) = R) : R = n := by
  rw [List.drop_eq_nil_of_le hk] at h; unfold mapCount at h; omega
def elOk (T : Tab) (c : Int) : Bool := okStat (T.statusOf c)
theorem mapOk_no {T : Tab} {c : Int} {to : List Int} (h : T.statusOf c ≠ 3) : T.mapOk (c, to) = false := by unfold Tab.mapOk; rw [decide_eq_false h]; rfl
theorem mapOk_yes {T : Tab} {c : Int} {to : List Int} (h : T.statusOf c = 3) : T.mapOk (c, to) = to.all (elOk T) := by unfold Tab.mapOk; rw [decide_eq_true h]; rfl
theorem stat_ways (s : Int) : (okStat s = true ∧ (s != 1) = false) ∨ (okStat s = true ∧ (s != 1) = true ∧ (s != 4) = false) ∨ (okStat s = false ∧ (s != 1) = true ∧ (s != 4) = true) := by
  unfold okStat
  simp only [decide_eq_true_eq, decide_eq_false_iff_not, bne_iff_ne, ne_eq, bne_eq_false_iff_eq]
  omega

set_option maxRecDepth 100000 in
set_option maxHeartbeats 4000000 in
theorem mapped_any (t : Tv) (T : Tab) (w : World) (ht : TabR w w.heap.size t T) (hg : GoodS T.status) :
    Calls Tryd.prog 36 #[t.val] w fun e w' => e = .returned (.bool T.rule5) ∧ Below w.heap.size w w' := by
  obtain ⟨tc, htc⟩ : ∃ tc, tc = t.cells := ⟨_, rfl⟩
  have HST := Lib.hid (fun c W (h : TabR W W.heap.size t T) => status_any t T c 0 1114111 W h hg.1 hg.2.1)
  have HT := Lib.hid (fun W (h : Below w.heap.size w W) => ht.later h)
  have hsp := ht.r5
  have hmp := ht.r8
  obtain ⟨A0, A1, A2, A3, A4, A5, A6, A7, A8, A9, A10, A11, k0, k1, k2, k3, k4, k5, k6, k7, k8, k9, k10, k11, rfl⟩ := ht.shape
  clear ht
  have HTC := Lib.hid htc
  clear htc
  obtain ⟨A, cp, hA, hc1, hc2, _, hcell⟩ := hsp
  cases hA
  have HC := Lib.hid hcell
  have hlm : T.status.length ≤ 256 := hg.2.1
  obtain ⟨B, cq, hB, hd1, hd2, _, hcell2⟩ := hmp
  cases hB
  have HM := Lib.hid hcell2
  have hln : T.maps.length ≤ 9223372036854775807 := by unfold maxLen at hd2; omega
  have HEL := Lib.hid (fun i a (h : T.status[i]? = some a) => okS_el hg.1 h)
  clear hcell hc1 hc2 hcell2 hd1 hd2 hg
  obtain ⟨R, hR⟩ : ∃ R, R = T.rule5 := ⟨_, rfl⟩
  rw [← hR]
  obtain ⟨N, hN⟩ : ∃ N, N = mapCount T.status := ⟨_, rfl⟩
  obtain ⟨Rm, hRm⟩ : ∃ Rm, Rm = T.maps.all T.mapOk := ⟨_, rfl⟩
  have HN0 : Hid (0 + mapCount (T.status.drop 0) = N) := Lib.hid (by rw [hN, Int.zero_add]; rfl)
  have HM0 : Hid ((T.maps.drop 0).all T.mapOk = Rm) := Lib.hid hRm.symm
  have HRR : Hid (R = (decide (N = (T.maps.length : Int)) && Rm)) := Lib.hid (by rw [hR, hN, hRm]; rfl)
  clear hR hN hRm
  go_enter Tryd.func36, Tryd.ntmps36
  go_wp2_with fail
  go_loopw [3, 14] (fun n i wr => ∃ (j : Nat) (m : Int), j ≤ T.status.length ∧ i = .int .i64 j ∧ n = .int .i64 m ∧ 0 ≤ m ∧ m ≤ 1114112 * (j : Int) ∧ Hid (m + mapCount (T.status.drop j) = N) ∧ Below w.heap.size w wr ∧ Hid (Blk wr w.heap.size 26 tc)) (fun _ i _ => T.status.length - (intOf i).toNat)
  case atStart => exact ⟨0, 0, by omega, rfl, rfl, by omega, by omega, HN0, (Below.refl _ _).alloc (Nat.le_refl _) _, Lib.hid (by rw [HTC.out]; exact Blk.new _ _ _)⟩
  case round =>
    obtain ⟨j, m, hj, rfl, rfl, hm0, hm1, HS, hbel, HB⟩ := hrel
    clear HN0
    by_cases hjl : j < T.status.length
    · obtain ⟨⟨f, t, x⟩, hxj, _⟩ := get_el hjl
      obtain ⟨aj, rfl, ha, d0, d1, d2⟩ := HC.out j _ hxj
      simp only at d0 d1 d2
      obtain ⟨e0, e1, e2⟩ := span_cells hbel ha d0 d1 d2
      have hel := HEL.out j _ hxj
      simp only at hel
      have hcg := count_go hxj HS.out
      simp only at hcg
      have HCG := Lib.hid hcg
      have HB' := Lib.hid (HB.out.alloc (.cells #[.int .i64 f, .int .i64 t, .int .i64 x] 64))
      clear d0 d1 d2 hxj ha hcg HB
      have r0 : (0 : Int) ≤ (j : Int) := by omega
      have r1 : (j : Int) < (T.status.length : Int) := by omega
      by_cases hx3 : x = 3
      · have HNX := Lib.hid (HCG.out.1 hx3)
        have p1 : (x == 3) = true := by rw [beq_iff_eq]; exact hx3
        clear hx3 HCG
        go_wp2_with fail
        go_roundw
        case rel => exact ⟨j + 1, m + (t - f + 1), by omega, by go_num, rfl, by omega, by omega, HNX, hbel.alloc hbel.size _, HB'⟩
        case measure => simp [intOf]; omega
      · have HNX := Lib.hid (HCG.out.2 hx3)
        have p1 : (x == 3) = false := by rw [beq_eq_false_iff_ne]; exact hx3
        clear hx3 HCG
        go_wp2_with fail
        go_roundw
        case rel => exact ⟨j + 1, m, by omega, by go_num, rfl, by omega, by omega, HNX, hbel.alloc hbel.size _, HB'⟩
        case measure => simp [intOf]; omega
    · have hNm := count_end (by omega) HS.out
      obtain ⟨x0, x1, x2, x3, x4, x5, x6, x7, x8, x9, x10, x11⟩ := (show Blk _ _ _ #[_, _, _, _, _, _, _, _, _, _, _, _] from by have h := HB.out; rw [HTC.out] at h; exact h).tab
      have HBT := Lib.hid HB.out
      clear HS HC HEL HB
      by_cases hne : m = (T.maps.length : Int)
      · have p1 : (m != (T.maps.length : Int)) = false := by rw [bne_eq_false_iff_eq]; exact hne
        have HR2 : Hid (R = Rm) := Lib.hid (by rw [HRR.out, hNm, decide_eq_true hne, Bool.true_and])
        clear hne hNm HRR
        go_wp2_with fail
        clear x0 x1 x2 x3 x4 x5 x6 x7 x8 x9 x10 x11
        go_loopw [38] (fun i wr => ∃ (j : Nat), j ≤ T.maps.length ∧ i = .int .i64 j ∧ Hid ((T.maps.drop j).all T.mapOk = Rm) ∧ Below w.heap.size w wr ∧ Hid (Blk wr w.heap.size 26 tc)) (fun i _ => T.maps.length - (intOf i).toNat)
        case atStart => exact ⟨0, by omega, rfl, HM0, hbel, HBT⟩
        case round =>
          obtain ⟨j, hj, rfl, HS, hbel, HB⟩ := hrel
          clear HM0 HBT
          by_cases hjl : j < T.maps.length
          · obtain ⟨⟨cc, to⟩, hxj, _⟩ := get_el hjl
            obtain ⟨aj, sv, rfl, ha, d0, d1, hto⟩ := HM.out j _ hxj
            simp only at d0 d1 hto
            obtain ⟨A', c', rfl, he1, he2, _, hcl⟩ := id hto
            have HTO := Lib.hid hcl
            have hlt : to.length ≤ 9223372036854775807 := by unfold maxLen at he2; omega
            obtain ⟨e0, e1⟩ := map_cells hbel ha d0 d1
            have HX := Lib.hid hxj
            have HTR := Lib.hid (fun o => HT.out _ (hbel.alloc hbel.size o))
            have HB' := Lib.hid (HB.out.alloc (.cells #[.int .i64 cc, .slice A' to.length c'] 54))
            obtain ⟨x0, x1, x2, x3, x4, x5, x6, x7, x8, x9, x10, x11⟩ := (show Blk _ _ _ #[_, _, _, _, _, _, _, _, _, _, _, _] from by have h := HB'.out; rw [HTC.out] at h; exact h).tab
            clear d0 d1 hxj ha hto hcl he1 he2 HB
            have r0 : (0 : Int) ≤ (j : Int) := by omega
            have r1 : (j : Int) < (T.maps.length : Int) := by omega
            have HS1 := Lib.hid (HST.out cc)
            by_cases hs3 : T.statusOf cc = 3
            · have HOK := Lib.hid (mapOk_yes (T := T) (to := to) hs3)
              have p2 : (T.statusOf cc != 3) = false := by rw [bne_eq_false_iff_eq]; exact hs3
              obtain ⟨Rt, hRt⟩ : ∃ Rt, Rt = to.all (elOk T) := ⟨_, rfl⟩
              have HO : Hid ((to.drop 0).all (elOk T) = Rt) := Lib.hid hRt.symm
              have HOK2 : Hid (T.mapOk (cc, to) = Rt) := Lib.hid (HOK.out.trans hRt.symm)
              clear hs3 HOK hRt
              go_wp2_with fail
              refine (HS1.out _ (HTR.out _)).mono ?_
              rintro e w2 ⟨rfl, b2⟩
              have hbel2 := below_next (hbel.alloc hbel.size (.cells #[.int .i64 cc, .slice A' to.length c'] 54)) b2
              have HB2 := Lib.hid (HB'.out.later b2)
              have d1 := ((Blk.new wr 54 #[.int .i64 cc, .slice A' to.length c']).later b2).at_ (i := 1) (u := .slice A' to.length c') rfl
              clear HB' b2 hbel e0 e1 x0 x1 x2 x3 x4 x5 x6 x7 x8 x9 x10 x11
              go_wp2_with fail
              clear d1
              go_loopw [50] (fun i wr => ∃ (q : Nat), q ≤ to.length ∧ i = .int .i64 q ∧ Hid ((to.drop q).all (elOk T) = Rt) ∧ Below w.heap.size w wr ∧ Hid (Blk wr w.heap.size 26 tc)) (fun i _ => to.length - (intOf i).toNat)
              case atStart => exact ⟨0, by omega, rfl, HO, hbel2, HB2⟩
              case round =>
                obtain ⟨q, hq, rfl, HSq, hbelq, HBq⟩ := hrel
                clear HO HB2 hbel2
                by_cases hql : q < to.length
                · obtain ⟨y, hyq, _⟩ := get_el hql
                  obtain ⟨ay, rfl, hay, d0⟩ := HTO.out q _ hyq
                  have e0 := (hbelq.cell (p := ay.add q) (by rw [block_of_add]; exact hay)).trans d0
                  have HXq := Lib.hid hyq
                  obtain ⟨x0, x1, x2, x3, x4, x5, x6, x7, x8, x9, x10, x11⟩ := (show Blk _ _ _ #[_, _, _, _, _, _, _, _, _, _, _, _] from by have h := HBq.out; rw [HTC.out] at h; exact h).tab
                  clear d0 hyq hay
                  have s0 : (0 : Int) ≤ (q : Int) := by omega
                  have s1 : (q : Int) < (to.length : Int) := by omega
                  have HS2 := Lib.hid (HST.out y)
                  have HTq := Lib.hid (HT.out _ hbelq)
                  rcases stat_ways (T.statusOf y) with ⟨ho, u0⟩ | ⟨ho, u0, u1⟩ | ⟨ho, u0, u1⟩
                  · have HNX := Lib.hid (each_go HXq.out HSq.out ho)
                    clear ho
                    go_wp2_with fail
                    refine (HS2.out _ HTq.out).mono ?_
                    rintro e w2 ⟨rfl, b2⟩
                    have HB3 := Lib.hid (HBq.out.later b2)
                    clear HBq x0 x1 x2 x3 x4 x5 x6 x7 x8 x9 x10 x11 e0
                    go_wp2_with fail
                    go_roundw
                    case rel => exact ⟨q + 1, by omega, by go_num, HNX, below_next hbelq b2, HB3⟩
                    case measure => simp [intOf]; omega
                  · have HNX := Lib.hid (each_go HXq.out HSq.out ho)
                    clear ho
                    go_wp2_with fail
                    refine (HS2.out _ HTq.out).mono ?_
                    rintro e w2 ⟨rfl, b2⟩
                    have HB3 := Lib.hid (HBq.out.later b2)
                    clear HBq x0 x1 x2 x3 x4 x5 x6 x7 x8 x9 x10 x11 e0
                    go_wp2_with fail
                    go_roundw
                    case rel => exact ⟨q + 1, by omega, by go_num, HNX, below_next hbelq b2, HB3⟩
                    case measure => simp [intOf]; omega
                  · have HNX := Lib.hid (each_no HXq.out HSq.out ho)
                    clear ho
                    go_wp2_with fail
                    refine (HS2.out _ HTq.out).mono ?_
                    rintro e w2 ⟨rfl, b2⟩
                    clear HBq x0 x1 x2 x3 x4 x5 x6 x7 x8 x9 x10 x11 e0
                    go_wp2_with fail
                    go_ret
                    rw [HR2.out, each_no HX.out HS.out (HOK2.out.trans HNX.out)]
                    exact ⟨rfl, below_next hbelq b2⟩
                · have HNX := Lib.hid (each_go HX.out HS.out (HOK2.out.trans (each_end (by omega) HSq.out)))
                  go_wp2_with fail
                  go_roundw
                  case rel => exact ⟨j + 1, by omega, by go_num, HNX, hbelq, HBq⟩
                  case measure => simp [intOf]; omega
            · have HNX := Lib.hid (each_no HX.out HS.out (mapOk_no (to := to) hs3))
              have p2 : (T.statusOf cc != 3) = true := by rw [bne_iff_ne]; exact hs3
              clear hs3
              go_wp2_with fail
              refine (HS1.out _ (HTR.out _)).mono ?_
              rintro e w2 ⟨rfl, b2⟩
              clear x0 x1 x2 x3 x4 x5 x6 x7 x8 x9 x10 x11 e0 e1
              go_wp2_with fail
              go_ret
              rw [HR2.out, HNX.out]
              exact ⟨rfl, below_next (hbel.alloc hbel.size _) b2⟩
          · have HNX := Lib.hid (each_end (by omega) HS.out)
            go_wp2_with fail
            go_ret
            rw [HR2.out, HNX.out]
            exact ⟨rfl, hbel⟩
      · have p1 : (m != (T.maps.length : Int)) = true := by rw [bne_iff_ne]; exact hne
        have HR2 : Hid (R = false) := Lib.hid (by rw [HRR.out, hNm, decide_eq_false hne, Bool.false_and])
        clear hne hNm HRR
        go_wp2_with fail
        go_ret
        rw [HR2.out]
        exact ⟨rfl, hbel⟩

set_option maxRecDepth 100000 in
set_option maxHeartbeats 4000000 in
theorem refMapped_any (t : Tv) (T : Tab) (w : World) (ht : TabR w w.heap.size t T) (hg : GoodS T.status) :
    Calls Tryd.prog 45 #[t.val] w fun e w' => e = .returned (.bool T.rule5) ∧ Below w.heap.size w w' := by
  obtain ⟨tc, htc⟩ : ∃ tc, tc = t.cells := ⟨_, rfl⟩
  have HST := Lib.hid (fun c W (h : TabR W W.heap.size t T) => refStatus_any t T c W h hg)
  have HT := Lib.hid (fun W (h : Below w.heap.size w W) => ht.later h)
  have hsp := ht.r5
  have hmp := ht.r8
  obtain ⟨A0, A1, A2, A3, A4, A5, A6, A7, A8, A9, A10, A11, k0, k1, k2, k3, k4, k5, k6, k7, k8, k9, k10, k11, rfl⟩ := ht.shape
  clear ht
  have HTC := Lib.hid htc
  clear htc
  obtain ⟨A, cp, hA, hc1, hc2, _, hcell⟩ := hsp
  cases hA
  have HC := Lib.hid hcell
  have hlm : T.status.length ≤ 256 := hg.2.1
  obtain ⟨B, cq, hB, hd1, hd2, _, hcell2⟩ := hmp
  cases hB
  have HM := Lib.hid hcell2
  have hln : T.maps.length ≤ 9223372036854775807 := by unfold maxLen at hd2; omega
  have HEL := Lib.hid (fun i a (h : T.status[i]? = some a) => okS_el hg.1 h)
  clear hcell hc1 hc2 hcell2 hd1 hd2 hg
  obtain ⟨R, hR⟩ : ∃ R, R = T.rule5 := ⟨_, rfl⟩
  rw [← hR]
  obtain ⟨N, hN⟩ : ∃ N, N = mapCount T.status := ⟨_, rfl⟩
  obtain ⟨Rm, hRm⟩ : ∃ Rm, Rm = T.maps.all T.mapOk := ⟨_, rfl⟩
  have HN0 : Hid (0 + mapCount (T.status.drop 0) = N) := Lib.hid (by rw [hN, Int.zero_add]; rfl)
  have HM0 : Hid ((T.maps.drop 0).all T.mapOk = Rm) := Lib.hid hRm.symm
  have HRR : Hid (R = (decide (N = (T.maps.length : Int)) && Rm)) := Lib.hid (by rw [hR, hN, hRm]; rfl)
  clear hR hN hRm
  go_enter Tryd.func45, Tryd.ntmps45
  go_wp2_with fail
  go_loopw [3, 14] (fun n i wr => ∃ (j : Nat) (m : Int), j ≤ T.status.length ∧ i = .int .i64 j ∧ n = .int .i64 m ∧ 0 ≤ m ∧ m ≤ 1114112 * (j : Int) ∧ Hid (m + mapCount (T.status.drop j) = N) ∧ Below w.heap.size w wr ∧ Hid (Blk wr w.heap.size 26 tc)) (fun _ i _ => T.status.length - (intOf i).toNat)
  case atStart => exact ⟨0, 0, by omega, rfl, rfl, by omega, by omega, HN0, (Below.refl _ _).alloc (Nat.le_refl _) _, Lib.hid (by rw [HTC.out]; exact Blk.new _ _ _)⟩
  case round =>
    obtain ⟨j, m, hj, rfl, rfl, hm0, hm1, HS, hbel, HB⟩ := hrel
    clear HN0
    by_cases hjl : j < T.status.length
    · obtain ⟨⟨f, t, x⟩, hxj, _⟩ := get_el hjl
      obtain ⟨aj, rfl, ha, d0, d1, d2⟩ := HC.out j _ hxj
      simp only at d0 d1 d2
      obtain ⟨e0, e1, e2⟩ := span_cells hbel ha d0 d1 d2
      have hel := HEL.out j _ hxj
      simp only at hel
      have hcg := count_go hxj HS.out
      simp only at hcg
      have HCG := Lib.hid hcg
      have HB' := Lib.hid (HB.out.alloc (.cells #[.int .i64 f, .int .i64 t, .int .i64 x] 64))
      clear d0 d1 d2 hxj ha hcg HB
      have r0 : (0 : Int) ≤ (j : Int) := by omega
      have r1 : (j : Int) < (T.status.length : Int) := by omega
      by_cases hx3 : x = 3
      · have HNX := Lib.hid (HCG.out.1 hx3)
        have p1 : (x == 3) = true := by rw [beq_iff_eq]; exact hx3
        clear hx3 HCG
        go_wp2_with fail
        go_roundw
        case rel => exact ⟨j + 1, m + (t - f + 1), by omega, by go_num, rfl, by omega, by omega, HNX, hbel.alloc hbel.size _, HB'⟩
        case measure => simp [intOf]; omega
      · have HNX := Lib.hid (HCG.out.2 hx3)
        have p1 : (x == 3) = false := by rw [beq_eq_false_iff_ne]; exact hx3
        clear hx3 HCG
        go_wp2_with fail
        go_roundw
        case rel => exact ⟨j + 1, m, by omega, by go_num, rfl, by omega, by omega, HNX, hbel.alloc hbel.size _, HB'⟩
        case measure => simp [intOf]; omega
    · have hNm := count_end (by omega) HS.out
      obtain ⟨x0, x1, x2, x3, x4, x5, x6, x7, x8, x9, x10, x11⟩ := (show Blk _ _ _ #[_, _, _, _, _, _, _, _, _, _, _, _] from by have h := HB.out; rw [HTC.out] at h; exact h).tab
      have HBT := Lib.hid HB.out
      clear HS HC HEL HB
      by_cases hne : m = (T.maps.length : Int)
      · have p1 : (m != (T.maps.length : Int)) = false := by rw [bne_eq_false_iff_eq]; exact hne
        have HR2 : Hid (R = Rm) := Lib.hid (by rw [HRR.out, hNm, decide_eq_true hne, Bool.true_and])
        clear hne hNm HRR
        go_wp2_with fail
        clear x0 x1 x2 x3 x4 x5 x6 x7 x8 x9 x10 x11
        go_loopw [38] (fun i wr => ∃ (j : Nat), j ≤ T.maps.length ∧ i = .int .i64 j ∧ Hid ((T.maps.drop j).all T.mapOk = Rm) ∧ Below w.heap.size w wr ∧ Hid (Blk wr w.heap.size 26 tc)) (fun i _ => T.maps.length - (intOf i).toNat)
        case atStart => exact ⟨0, by omega, rfl, HM0, hbel, HBT⟩
        case round =>
          obtain ⟨j, hj, rfl, HS, hbel, HB⟩ := hrel
          clear HM0 HBT
          by_cases hjl : j < T.maps.length
          · obtain ⟨⟨cc, to⟩, hxj, _⟩ := get_el hjl
            obtain ⟨aj, sv, rfl, ha, d0, d1, hto⟩ := HM.out j _ hxj
            simp only at d0 d1 hto
            obtain ⟨A', c', rfl, he1, he2, _, hcl⟩ := id hto
            have HTO := Lib.hid hcl
            have hlt : to.length ≤ 9223372036854775807 := by unfold maxLen at he2; omega
            obtain ⟨e0, e1⟩ := map_cells hbel ha d0 d1
            have HX := Lib.hid hxj
            have HTR := Lib.hid (fun o => HT.out _ (hbel.alloc hbel.size o))
            have HB' := Lib.hid (HB.out.alloc (.cells #[.int .i64 cc, .slice A' to.length c'] 54))
            obtain ⟨x0, x1, x2, x3, x4, x5, x6, x7, x8, x9, x10, x11⟩ := (show Blk _ _ _ #[_, _, _, _, _, _, _, _, _, _, _, _] from by have h := HB'.out; rw [HTC.out] at h; exact h).tab
            clear d0 d1 hxj ha hto hcl he1 he2 HB
            have r0 : (0 : Int) ≤ (j : Int) := by omega
            have r1 : (j : Int) < (T.maps.length : Int) := by omega
            have HS1 := Lib.hid (HST.out cc)
            by_cases hs3 : T.statusOf cc = 3
            · have HOK := Lib.hid (mapOk_yes (T := T) (to := to) hs3)
              have p2 : (T.statusOf cc != 3) = false := by rw [bne_eq_false_iff_eq]; exact hs3
              obtain ⟨Rt, hRt⟩ : ∃ Rt, Rt = to.all (elOk T) := ⟨_, rfl⟩
              have HO : Hid ((to.drop 0).all (elOk T) = Rt) := Lib.hid hRt.symm
              have HOK2 : Hid (T.mapOk (cc, to) = Rt) := Lib.hid (HOK.out.trans hRt.symm)
              clear hs3 HOK hRt
              go_wp2_with fail
              refine (HS1.out _ (HTR.out _)).mono ?_
              rintro e w2 ⟨rfl, b2⟩
              have hbel2 := below_next (hbel.alloc hbel.size (.cells #[.int .i64 cc, .slice A' to.length c'] 54)) b2
              have HB2 := Lib.hid (HB'.out.later b2)
              have d1 := ((Blk.new wr 54 #[.int .i64 cc, .slice A' to.length c']).later b2).at_ (i := 1) (u := .slice A' to.length c') rfl
              clear HB' b2 hbel e0 e1 x0 x1 x2 x3 x4 x5 x6 x7 x8 x9 x10 x11
              go_wp2_with fail
              clear d1
              go_loopw [50] (fun i wr => ∃ (q : Nat), q ≤ to.length ∧ i = .int .i64 q ∧ Hid ((to.drop q).all (elOk T) = Rt) ∧ Below w.heap.size w wr ∧ Hid (Blk wr w.heap.size 26 tc)) (fun i _ => to.length - (intOf i).toNat)
              case atStart => exact ⟨0, by omega, rfl, HO, hbel2, HB2⟩
              case round =>
                obtain ⟨q, hq, rfl, HSq, hbelq, HBq⟩ := hrel
                clear HO HB2 hbel2
                by_cases hql : q < to.length
                · obtain ⟨y, hyq, _⟩ := get_el hql
                  obtain ⟨ay, rfl, hay, d0⟩ := HTO.out q _ hyq
                  have e0 := (hbelq.cell (p := ay.add q) (by rw [block_of_add]; exact hay)).trans d0
                  have HXq := Lib.hid hyq
                  obtain ⟨x0, x1, x2, x3, x4, x5, x6, x7, x8, x9, x10, x11⟩ := (show Blk _ _ _ #[_, _, _, _, _, _, _, _, _, _, _, _] from by have h := HBq.out; rw [HTC.out] at h; exact h).tab
                  clear d0 hyq hay
                  have s0 : (0 : Int) ≤ (q : Int) := by omega
                  have s1 : (q : Int) < (to.length : Int) := by omega
                  have HS2 := Lib.hid (HST.out y)
                  have HTq := Lib.hid (HT.out _ hbelq)
                  rcases stat_ways (T.statusOf y) with ⟨ho, u0⟩ | ⟨ho, u0, u1⟩ | ⟨ho, u0, u1⟩
                  · have HNX := Lib.hid (each_go HXq.out HSq.out ho)
                    clear ho
                    go_wp2_with fail
                    refine (HS2.out _ HTq.out).mono ?_
                    rintro e w2 ⟨rfl, b2⟩
                    have HB3 := Lib.hid (HBq.out.later b2)
                    clear HBq x0 x1 x2 x3 x4 x5 x6 x7 x8 x9 x10 x11 e0
                    go_wp2_with fail
                    go_roundw
                    case rel => exact ⟨q + 1, by omega, by go_num, HNX, below_next hbelq b2, HB3⟩
                    case measure => simp [intOf]; omega
                  · have HNX := Lib.hid (each_go HXq.out HSq.out ho)
                    clear ho
                    go_wp2_with fail
                    refine (HS2.out _ HTq.out).mono ?_
                    rintro e w2 ⟨rfl, b2⟩
                    have HB3 := Lib.hid (HBq.out.later b2)
                    clear HBq x0 x1 x2 x3 x4 x5 x6 x7 x8 x9 x10 x11 e0
                    go_wp2_with fail
                    go_roundw
                    case rel => exact ⟨q + 1, by omega, by go_num, HNX, below_next hbelq b2, HB3⟩
                    case measure => simp [intOf]; omega
                  · have HNX := Lib.hid (each_no HXq.out HSq.out ho)
                    clear ho
                    go_wp2_with fail
                    refine (HS2.out _ HTq.out).mono ?_
                    rintro e w2 ⟨rfl, b2⟩
                    clear HBq x0 x1 x2 x3 x4 x5 x6 x7 x8 x9 x10 x11 e0
                    go_wp2_with fail
                    go_ret
                    rw [HR2.out, each_no HX.out HS.out (HOK2.out.trans HNX.out)]
                    exact ⟨rfl, below_next hbelq b2⟩
                · have HNX := Lib.hid (each_go HX.out HS.out (HOK2.out.trans (each_end (by omega) HSq.out)))
                  go_wp2_with fail
                  go_roundw
                  case rel => exact ⟨j + 1, by omega, by go_num, HNX, hbelq, HBq⟩
                  case measure => simp [intOf]; omega
            · have HNX := Lib.hid (each_no HX.out HS.out (mapOk_no (to := to) hs3))
              have p2 : (T.statusOf cc != 3) = true := by rw [bne_iff_ne]; exact hs3
              clear hs3
              go_wp2_with fail
              refine (HS1.out _ (HTR.out _)).mono ?_
              rintro e w2 ⟨rfl, b2⟩
              clear x0 x1 x2 x3 x4 x5 x6 x7 x8 x9 x10 x11 e0 e1
              go_wp2_with fail
              go_ret
              rw [HR2.out, HNX.out]
              exact ⟨rfl, below_next (hbel.alloc hbel.size _) b2⟩
          · have HNX := Lib.hid (each_end (by omega) HS.out)
            go_wp2_with fail
            go_ret
            rw [HR2.out, HNX.out]
            exact ⟨rfl, hbel⟩
      · have p1 : (m != (T.maps.length : Int)) = true := by rw [bne_iff_ne]; exact hne
        have HR2 : Hid (R = false) := Lib.hid (by rw [HRR.out, hNm, decide_eq_false hne, Bool.false_and])
        clear hne hNm HRR
        go_wp2_with fail
        go_ret
        rw [HR2.out]
        exact ⟨rfl, hbel⟩
end Go.Proofs.YtkdhldhbjomiaaaDoor
