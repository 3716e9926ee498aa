/-
  The walks through the reference's finite (rule 6) and table.excluded (rule 7).
-/
import Derived.Test.YtkdhldhbjomiaaaDoorTabR6b
namespace Go.Proofs.YtkdhldhbjomiaaaDoor
open Go.RowKit ND

set_option maxRecDepth 100000 in
set_option maxHeartbeats 4000000 in
theorem finite_any (t : Tv) (T : Tab) (w : World) (ht : TabR w w.heap.size t T) (hne : ∀ m ∈ T.decomps, m.2 ≠ [] ∧ m.2.length ≤ 1000) (hlen : T.decomps.length ≤ 256) :
    Calls Tryd.prog 46 #[t.val] w fun e w' => e = .returned (.bool T.rule6) ∧ Below w.heap.size w w' := by
  obtain ⟨tc, htc⟩ : ∃ tc, tc = t.cells := ⟨_, rfl⟩
  have HSZ := Lib.hid (fun c W h => full_any t T c W h hne)
  have HFS := Lib.hid (fun c => full_size hlen c)
  have HT := Lib.hid (fun W (h : Below w.heap.size w W) => ht.later h)
  have hmp := ht.r9
  obtain ⟨A0, A1, A2, A3, A4, A5, A6, A7, A8, A9, A10, A11, k0, k1, k2, k3, k4, k5, k6, k7, k8, k9, k10, k11, rfl⟩ := ht.shape
  have HTC := Lib.hid htc
  obtain ⟨B, cq, hB, _, _, _, hcell2⟩ := hmp
  cases hB
  have HM := Lib.hid hcell2
  clear ht htc hne hcell2
  obtain ⟨R, hR⟩ : ∃ R, R = T.rule6 := ⟨_, rfl⟩
  rw [← hR]
  obtain ⟨Ra, hRa⟩ : ∃ Ra, Ra = T.decomps.all decOk := ⟨_, rfl⟩
  obtain ⟨Rb, hRb⟩ : ∃ Rb, Rb = T.decomps.all T.szOk := ⟨_, rfl⟩
  have HA0 : Hid ((T.decomps.drop 0).all decOk = Ra) := Lib.hid hRa.symm
  have HB0 : Hid ((T.decomps.drop 0).all T.szOk = Rb) := Lib.hid hRb.symm
  have HRR : Hid (R = (Ra && Rb)) := Lib.hid (by rw [hR, hRa, hRb]; rfl)
  clear hR hRa hRb
  go_enter Tryd.func46, Tryd.ntmps46
  go_wp2_with fail
  go_loopw [14] (fun i wr => ∃ (j : Nat), j ≤ T.decomps.length ∧ i = .int .i64 j ∧ Hid ((T.decomps.drop j).all decOk = Ra) ∧ Below w.heap.size w wr ∧ Hid (Blk wr w.heap.size 26 tc)) (fun i _ => T.decomps.length - (intOf i).toNat)
  case atStart => exact ⟨0, by omega, rfl, HA0, (Below.refl _ _).alloc (Nat.le_refl _) _, Lib.hid (by rw [HTC.out]; exact Blk.new _ _ _)⟩
  case round =>
    obtain ⟨j, hj, rfl, HS, hbel, HB⟩ := hrel
    clear HA0
    by_cases hjl : j < T.decomps.length
    · obtain ⟨⟨cc, to⟩, hxj, _⟩ := get_el hjl
      obtain ⟨aj, sv, rfl, ha, d0, d1, hto⟩ := HM.out j _ hxj
      simp only at d0 d1 hto
      obtain ⟨A', c', rfl, he1, he2, _, hcl⟩ := id hto
      have HTO := Lib.hid hcl
      have hlt : to.length ≤ 9223372036854775807 := by unfold maxLen at he2; omega
      obtain ⟨e0, e1⟩ := map_cells hbel ha d0 d1
      have HX := Lib.hid hxj
      have hbelw := hbel.alloc hbel.size (.cells #[.int .i64 cc, .slice A' to.length c'] 54)
      have HB' := Lib.hid (HB.out.alloc (.cells #[.int .i64 cc, .slice A' to.length c'] 54))
      clear d0 d1 hxj ha hto hcl he1 he2 HB
      have r0 : (0 : Int) ≤ (j : Int) := by omega
      have r1 : (j : Int) < (T.decomps.length : Int) := by omega
      by_cases h2 : 2 < to.length
      · have HN := Lib.hid (each_no HX.out HS.out (decOk_no (c := cc) h2))
        have p1 : (2 : Int) < (to.length : Int) := by omega
        clear h2
        go_wp2_with fail
        go_ret
        rw [HRR.out, HN.out]
        exact ⟨by simp, hbelw⟩
      · have HOK := Lib.hid (decOk_yes (c := cc) h2)
        have p1 : (to.length : Int) ≤ 2 := by omega
        obtain ⟨Rt, hRt⟩ : ∃ Rt, Rt = to.all decEl := ⟨_, rfl⟩
        have HO : Hid ((to.drop 0).all decEl = Rt) := Lib.hid hRt.symm
        have HOK2 : Hid (decOk (cc, to) = Rt) := Lib.hid (HOK.out.trans hRt.symm)
        clear h2 HOK hRt
        go_wp2_with fail
        generalize World.alloc _ (.cells #[.int .i64 cc, .slice A' to.length c'] 54) = wo at *
        clear e0 e1 hbel
        go_loop [25] (fun i => ∃ (q : Nat), q ≤ to.length ∧ i = .int .i64 q ∧ Hid ((to.drop q).all decEl = Rt)) (fun i => to.length - (intOf i).toNat)
        case atStart => exact ⟨0, by omega, rfl, HO⟩
        case round =>
          obtain ⟨q, hq, rfl, HSq⟩ := hrel
          clear HO
          by_cases hql : q < to.length
          · obtain ⟨y, hyq, _⟩ := get_el hql
            obtain ⟨ay, rfl, hay, d0⟩ := HTO.out q _ hyq
            have e0 := (hbelw.cell (p := ay.add q) (by rw [block_of_add]; exact hay)).trans d0
            have HXq := Lib.hid hyq
            clear d0 hyq hay
            have s0 : (0 : Int) ≤ (q : Int) := by omega
            have s1 : (q : Int) < (to.length : Int) := by omega
            have HSY := Lib.hid (fun W => refSyl_any y W)
            have HJA := Lib.hid (fun W => refJamo_any y W)
            rcases el_ways y with ⟨ho, u0⟩ | ⟨ho, u0, u1⟩ | ⟨ho, u0, u1, u2⟩ | ⟨ho, u0, u1, u2⟩
            · have HN := Lib.hid (each_no HXq.out HSq.out ho)
              clear ho
              go_wp2_with fail
              go_ret
              rw [HRR.out, each_no HX.out HS.out (HOK2.out.trans HN.out)]
              exact ⟨by simp, hbelw⟩
            · have HN := Lib.hid (each_no HXq.out HSq.out ho)
              rw [u1] at HSY
              clear ho u1
              go_wp2_with fail
              refine (HSY.out _).mono ?_
              rintro e w2 ⟨rfl, rfl⟩
              go_wp2_with fail
              go_ret
              rw [HRR.out, each_no HX.out HS.out (HOK2.out.trans HN.out)]
              exact ⟨by simp, hbelw⟩
            · have HN := Lib.hid (each_no HXq.out HSq.out ho)
              rw [u1] at HSY
              rw [u2] at HJA
              clear ho u1 u2
              go_wp2_with fail
              refine (HSY.out _).mono ?_
              rintro e w2 ⟨rfl, rfl⟩
              go_wp2_with fail
              refine (HJA.out _).mono ?_
              rintro e w2 ⟨rfl, rfl⟩
              go_wp2_with fail
              go_ret
              rw [HRR.out, each_no HX.out HS.out (HOK2.out.trans HN.out)]
              exact ⟨by simp, hbelw⟩
            · have HN := Lib.hid (each_go HXq.out HSq.out ho)
              rw [u1] at HSY
              rw [u2] at HJA
              clear ho u1 u2
              go_wp2_with fail
              refine (HSY.out _).mono ?_
              rintro e w2 ⟨rfl, rfl⟩
              go_wp2_with fail
              refine (HJA.out _).mono ?_
              rintro e w2 ⟨rfl, rfl⟩
              go_wp2_with fail
              go_round
              case rel => exact ⟨q + 1, by omega, by go_num, HN⟩
              case measure => simp [intOf]; omega
          · have HN := Lib.hid (each_go HX.out HS.out (HOK2.out.trans (each_end (by omega) HSq.out)))
            go_wp2_with fail
            go_roundw
            case rel => exact ⟨j + 1, by omega, by go_num, HN, hbelw, HB'⟩
            case measure => simp [intOf]; omega
    · have HN := Lib.hid (each_end (by omega) HS.out)
      have HR2 : Hid (R = Rb) := Lib.hid (by rw [HRR.out, HN.out, Bool.true_and])
      have x9 := (show Blk _ _ _ #[_, _, _, _, _, _, _, _, _, _, _, _] from by have h := HB.out; rw [HTC.out] at h; exact h).at_ (i := 9) rfl
      clear HS HN HRR
      go_wp2_with fail
      clear x9
      go_loopw [44] (fun i wr => ∃ (j : Nat), j ≤ T.decomps.length ∧ i = .int .i64 j ∧ Hid ((T.decomps.drop j).all T.szOk = Rb) ∧ Below w.heap.size w wr ∧ Hid (Blk wr w.heap.size 26 tc)) (fun i _ => T.decomps.length - (intOf i).toNat)
      case atStart => exact ⟨0, by omega, rfl, HB0, hbel, HB⟩
      case round =>
        obtain ⟨j, hj, rfl, HS, hbel, HB⟩ := hrel
        clear HB0
        by_cases hjl : j < T.decomps.length
        · obtain ⟨⟨cc, to⟩, hxj, _⟩ := get_el hjl
          obtain ⟨aj, sv, rfl, ha, d0, d1, hto⟩ := HM.out j _ hxj
          simp only at d0 d1 hto
          obtain ⟨A', c', rfl, _⟩ := id hto
          obtain ⟨e0, e1⟩ := map_cells hbel ha d0 d1
          have HX := Lib.hid hxj
          have HB' := Lib.hid (HB.out.alloc (.cells #[.int .i64 cc, .slice A' to.length c'] 54))
          obtain ⟨x0, x1, x2, x3, x4, x5, x6, x7, x8, x9, x10, x11⟩ := (show Blk _ _ _ #[_, _, _, _, _, _, _, _, _, _, _, _] from by have h := HB'.out; rw [HTC.out] at h; exact h).tab
          have HCA := Lib.hid (HSZ.out cc _ (HT.out _ (hbel.alloc hbel.size (.cells #[.int .i64 cc, .slice A' to.length c'] 54))))
          have HSO : Hid (T.szOk (cc, to) = decide (sizeF T.decomps (T.decomps.length + 1) cc ≤ 18)) := Lib.hid rfl
          clear d0 d1 hxj ha hto HB
          have r0 : (0 : Int) ≤ (j : Int) := by omega
          have r1 : (j : Int) < (T.decomps.length : Int) := by omega
          rcases HFS.out cc with ⟨hsz, hfu, _, _⟩ | ⟨hsz, hfu⟩
          · have HN := Lib.hid (each_go HX.out HS.out (HSO.out.trans (decide_eq_true hsz)))
            rw [hfu] at HCA
            clear hsz hfu
            go_wp2_with fail
            refine HCA.out.mono ?_
            rintro e w2 ⟨u, rfl, hu, b2⟩
            have HB2 := Lib.hid (HB'.out.later b2)
            clear x0 x1 x2 x3 x4 x5 x6 x7 x8 x9 x10 x11 e0 e1 HB' hu
            go_wp2_with fail
            go_roundw
            case rel => exact ⟨j + 1, by omega, by go_num, HN, below_next (hbel.alloc hbel.size _) b2, HB2⟩
            case measure => simp [intOf]; omega
          · have HN := Lib.hid (each_no HX.out HS.out (HSO.out.trans (decide_eq_false hsz)))
            rw [hfu] at HCA
            clear hsz hfu
            go_wp2_with fail
            refine HCA.out.mono ?_
            rintro e w2 ⟨u, rfl, hu, b2⟩
            clear x0 x1 x2 x3 x4 x5 x6 x7 x8 x9 x10 x11 e0 e1 HB' hu
            go_wp2_with fail
            go_ret
            rw [HR2.out, HN.out]
            exact ⟨rfl, below_next (hbel.alloc hbel.size _) b2⟩
        · have HN := Lib.hid (each_end (by omega) HS.out)
          go_wp2_with fail
          go_ret
          rw [HR2.out, HN.out]
          exact ⟨rfl, hbel⟩

theorem nilB_ways {w : World} {B : Nat} {u : Value} {ys : List Int} (h : Ints w B .i64 u ys) (hn : ys = [] → u = .slice none 0 0) : (ys = [] ∧ u = .slice none 0 0) ∨ (ys ≠ [] ∧ ∃ ad c, u = .slice (some ad) ys.length c) := by
  by_cases hy : ys = []
  · exact .inl ⟨hy, hn hy⟩
  · obtain ⟨ad, c, e, _⟩ := h.some_ hy
    exact .inr ⟨hy, ad, c, e⟩
set_option maxRecDepth 100000 in
set_option maxHeartbeats 2000000 in
theorem excluded_rule (t : Tv) (T : Tab) (w : World) (ht : TabR w w.heap.size t T) (hs : sortM T.decomps) (hne : ∀ m ∈ T.decomps, m.2 ≠ [] ∧ m.2.length ≤ 1000) (hlen : T.decomps.length ≤ 256) (hlx : T.excluded.length ≤ 256) :
    Calls Tryd.prog 38 #[t.val] w fun e w' => e = .returned (.bool T.rule7) ∧ Below w.heap.size w w' := by
  obtain ⟨tc, htc⟩ : ∃ tc, tc = t.cells := ⟨_, rfl⟩
  have HT := Lib.hid (fun W (h : Below w.heap.size w W) => (ht.later h).r9)
  have hex := ht.r10
  obtain ⟨A0, A1, A2, A3, A4, A5, A6, A7, A8, A9, A10, A11, k0, k1, k2, k3, k4, k5, k6, k7, k8, k9, k10, k11, rfl⟩ := ht.shape
  have HF := Lib.hid (fun c W (h : Mapps W W.heap.size (.slice A9 T.decomps.length k9) T.decomps) => find_any _ T.decomps c W h hs (fun m hm => (hne m hm).1) hlen)
  have HTC := Lib.hid htc
  obtain ⟨B, cq, hB, _, _, _, hcell2⟩ := hex
  cases hB
  have HC := Lib.hid hcell2
  have heq := fun (w : World) (a : Option Addr) (n c : Nat) => Lib.run_eql_slice_nil (P := Tryd.prog) w 24 3 a n c 0 0 Tryd.underlying24
  clear ht htc hs hne hcell2
  obtain ⟨R, hR⟩ : ∃ R, R = T.rule7 := ⟨_, rfl⟩
  rw [← hR]
  have HR0 : Hid ((T.excluded.drop 0).all T.exOk = R) := Lib.hid hR.symm
  clear hR
  go_enter Tryd.func38, Tryd.ntmps38
  go_wp2_with fail
  go_loopw [8] (fun i wr => ∃ (j : Nat), j ≤ T.excluded.length ∧ i = .int .i64 j ∧ Hid ((T.excluded.drop j).all T.exOk = R) ∧ Below w.heap.size w wr ∧ Hid (Blk wr w.heap.size 26 tc)) (fun i _ => T.excluded.length - (intOf i).toNat)
  case atStart => exact ⟨0, by omega, rfl, HR0, (Below.refl _ _).alloc (Nat.le_refl _) _, Lib.hid (by rw [HTC.out]; exact Blk.new _ _ _)⟩
  case round =>
    obtain ⟨j, hj, rfl, HS, hbel, HB⟩ := hrel
    clear HR0
    by_cases hjl : j < T.excluded.length
    · obtain ⟨x, hxj, _⟩ := get_el hjl
      obtain ⟨aj, rfl, ha, d0⟩ := HC.out j _ hxj
      have e0 := (hbel.cell (p := aj.add j) (by rw [block_of_add]; exact ha)).trans d0
      have x9 := (show Blk _ _ _ #[_, _, _, _, _, _, _, _, _, _, _, _] from by have h := HB.out; rw [HTC.out] at h; exact h).at_ (i := 9) rfl
      have HX := Lib.hid hxj
      have HCA := Lib.hid (HF.out x _ (HT.out _ hbel))
      clear d0 hxj ha
      have r0 : (0 : Int) ≤ (j : Int) := by omega
      have r1 : (j : Int) < (T.excluded.length : Int) := by omega
      go_wp2_with fail
      refine HCA.out.mono ?_
      rintro e w2 ⟨u, rfl, hu, hun, b2⟩
      have HB2 := Lib.hid (HB.out.later b2)
      rcases nilB_ways hu hun with ⟨hn, rfl⟩ | ⟨hn, ad, c, rfl⟩
      · have HN := Lib.hid (each_no HX.out HS.out (show T.exOk x = false from decide_eq_false (fun h => h hn)))
        clear hu hun hn x9 e0 HB
        go_wp2_with fail
        go_ret
        rw [HN.out]
        exact ⟨rfl, below_next hbel b2⟩
      · have HN := Lib.hid (each_go HX.out HS.out (show T.exOk x = true from decide_eq_true hn))
        clear hu hun hn x9 e0 HB
        go_wp2_with fail
        go_roundw
        case rel => exact ⟨j + 1, by omega, by go_num, HN, below_next hbel b2, HB2⟩
        case measure => simp [intOf]; omega
    · have HN := Lib.hid (each_end (by omega) HS.out)
      go_wp2_with fail
      go_ret
      rw [HN.out]
      exact ⟨rfl, hbel⟩
end Go.Proofs.YtkdhldhbjomiaaaDoor
