/-
  The walks through table.plain, table.prototyped and table.Check.
-/
import Derived.Test.YtkdhldhbjomiaaaDoorTabR8
import Derived.Test.YtkdhldhbjomiaaaDoorTabR2
import Derived.Test.YtkdhldhbjomiaaaDoorTabR3
import Derived.Test.YtkdhldhbjomiaaaDoorTabR4
namespace Go.Proofs.YtkdhldhbjomiaaaDoor
open Go.RowKit ND

set_option maxRecDepth 100000 in
set_option maxHeartbeats 1000000 in
theorem plain_any (t : Tv) (T : Tab) (hsh : Shape T) (hne : ∀ m ∈ T.decomps, m.2 ≠ [] ∧ m.2.length ≤ 1000) (c : Int) (w : World) (ht : TabR w w.heap.size t T) :
    Calls Tryd.prog 111 #[t.val, .int .i64 c] w fun e w' => e = .returned (.bool (T.plainB c)) ∧ Below w.heap.size w w' := by
  have HT := Lib.hid (fun W (h : Below w.heap.size w W) => ht.later h)
  have HI := Lib.hid (fun W h => ignorable_any t T c 0 1114111 W h hsh.c6.1 hsh.c6.2.1)
  obtain ⟨tc, htc⟩ : ∃ tc, tc = t.cells := ⟨_, rfl⟩
  obtain ⟨A0, A1, A2, A3, A4, A5, A6, A7, A8, A9, A10, A11, k0, k1, k2, k3, k4, k5, k6, k7, k8, k9, k10, k11, rfl⟩ := ht.shape
  have HF := Lib.hid (fun W (h : Mapps W W.heap.size (.slice A9 T.decomps.length k9) T.decomps) => find_any _ T.decomps c W h (keysB_sort hsh.kd) (fun m hm => (hne m hm).1) hsh.ld)
  have HTC := Lib.hid htc
  have heq := fun (w : World) (a : Option Addr) (n c : Nat) => Lib.run_eql_slice_nil (P := Tryd.prog) w 24 3 a n c 0 0 Tryd.underlying24
  have HB0 := Lib.hid (show Blk (w.alloc (.cells tc 26)) w.heap.size 26 tc from Blk.new _ _ _)
  rw [htc] at HB0
  clear ht htc hne hsh
  obtain ⟨R, hR⟩ : ∃ R, R = T.plainB c := ⟨_, rfl⟩
  rw [← hR]
  have HR : Hid (R = (decide (findL T.decomps c = []) && !T.ignB c)) := Lib.hid hR
  clear hR
  go_enter Tryd.func111, Tryd.ntmps111
  go_wp2_with fail
  refine (HF.out _ (HT.out _ ((Below.refl _ _).alloc (Nat.le_refl _) _)).r9).mono ?_
  rintro e w1 ⟨u, rfl, hu, hun, b1⟩
  have HB1 := Lib.hid (HB0.out.later b1)
  have hbel1 := below_next ((Below.refl w.heap.size w).alloc (Nat.le_refl _) _) b1
  rcases nilB_ways hu hun with ⟨hn, rfl⟩ | ⟨hn, ad, cu, rfl⟩
  · have HR2 : Hid (R = !T.ignB c) := Lib.hid (by rw [HR.out, decide_eq_true hn, Bool.true_and])
    obtain ⟨x0, x1, x2, x3, x4, x5, x6, x7, x8, x9, x10, x11⟩ := HB1.out.tab
    have HIW := Lib.hid (HI.out w1 (HT.out _ hbel1))
    clear hu hun hn HB0 HR b1
    go_wp2_with fail
    refine HIW.out.mono ?_
    rintro e w2 ⟨rfl, b2⟩
    clear x0 x1 x2 x3 x4 x5 x6 x7 x8 x9 x10 x11
    go_wp2_with fail
    go_ret
    rw [HR2.out]
    exact ⟨rfl, below_next hbel1 b2⟩
  · have HR2 : Hid (R = false) := Lib.hid (by rw [HR.out, decide_eq_false hn, Bool.false_and])
    clear hu hun hn HB0 HR b1
    go_wp2_with fail
    go_ret
    rw [HR2.out]
    exact ⟨rfl, hbel1⟩

theorem pel_ways (T : Tab) (c : Int) : (T.protoEl c = false ∧ T.plainB c = false) ∨ (T.protoEl c = false ∧ T.plainB c = true ∧ sylB c = true) ∨ (T.plainB c = true ∧ sylB c = false ∧ T.protoEl c = decide (findL T.prototypes c = [])) := by
  unfold Tab.protoEl
  cases T.plainB c <;> cases sylB c <;> simp

set_option maxRecDepth 100000 in
set_option maxHeartbeats 4000000 in
theorem prototyped_any (t : Tv) (T : Tab) (hsh : Shape T) (hsz : Sized T) (w : World) (ht : TabR w w.heap.size t T) :
    Calls Tryd.prog 40 #[t.val] w fun e w' => e = .returned (.bool T.rule9) ∧ Below w.heap.size w w' := by
  obtain ⟨tc, htc⟩ : ∃ tc, tc = t.cells := ⟨_, rfl⟩
  have HPL := Lib.hid (fun c W h => plain_any t T hsh hsz.nd c W h)
  have HT := Lib.hid (fun W (h : Below w.heap.size w W) => ht.later h)
  have hmp := ht.r11
  obtain ⟨A0, A1, A2, A3, A4, A5, A6, A7, A8, A9, A10, A11, k0, k1, k2, k3, k4, k5, k6, k7, k8, k9, k10, k11, rfl⟩ := ht.shape
  have HTC := Lib.hid htc
  have HFP := Lib.hid (fun c W (h : Mapps W W.heap.size (.slice A11 T.prototypes.length k11) T.prototypes) => find_any _ T.prototypes c W h (keysB_sort hsh.kp) (fun m hm => (hsz.np m hm).1) hsh.lp)
  obtain ⟨B, cq, hB, _, _, _, hcell2⟩ := hmp
  cases hB
  have HM := Lib.hid hcell2
  have hlp := hsh.lp
  have hnq := fun (w : World) (a : Option Addr) (n c : Nat) => run_neq_slice_nil_any (P := Tryd.prog) w 24 3 a n c 0 0 Tryd.underlying24
  clear ht htc hcell2 hsh hsz
  obtain ⟨R, hR⟩ : ∃ R, R = T.rule9 := ⟨_, rfl⟩
  rw [← hR]
  have HR0 : Hid ((T.prototypes.drop 0).all T.protoOk = R) := Lib.hid hR.symm
  clear hR
  go_enter Tryd.func40, Tryd.ntmps40
  go_wp2_with fail
  go_loopw [10] (fun i wr => ∃ (j : Nat), j ≤ T.prototypes.length ∧ i = .int .i64 j ∧ Hid ((T.prototypes.drop j).all T.protoOk = R) ∧ Below w.heap.size w wr ∧ Hid (Blk wr w.heap.size 26 tc)) (fun i _ => T.prototypes.length - (intOf i).toNat)
  case atStart => exact ⟨0, by omega, rfl, HR0, (Below.refl _ _).alloc (Nat.le_refl _) _, Lib.hid (by rw [HTC.out]; exact Blk.new _ _ _)⟩
  case round =>
    obtain ⟨j, hj, rfl, HS, hbel, HB⟩ := hrel
    clear HR0
    by_cases hjl : j < T.prototypes.length
    · obtain ⟨⟨cc, to⟩, hxj, _⟩ := get_el hjl
      obtain ⟨aj, sv, rfl, ha, d0, d1, hto⟩ := HM.out j _ hxj
      simp only at d0 d1 hto
      obtain ⟨A', c', rfl, he1, he2, _, hcl⟩ := id hto
      have HTO := Lib.hid hcl
      have hlt : to.length ≤ 9223372036854775807 := by unfold maxLen at he2; omega
      obtain ⟨e0, e1⟩ := map_cells hbel ha d0 d1
      have HX := Lib.hid hxj
      have hbelw := hbel.alloc hbel.size (.cells #[.int .i64 cc, .slice A' to.length c'] 54)
      have HB' := Lib.hid (HB.out.alloc (.cells #[.int .i64 cc, .slice A' to.length c'] 54))
      obtain ⟨x0, x1, x2, x3, x4, x5, x6, x7, x8, x9, x10, x11⟩ := (show Blk _ _ _ #[_, _, _, _, _, _, _, _, _, _, _, _] from by have h := HB'.out; rw [HTC.out] at h; exact h).tab
      have HP1 := Lib.hid (HPL.out cc _ (HT.out _ hbelw))
      clear d0 d1 hxj ha hto hcl he1 he2 HB
      have r0 : (0 : Int) ≤ (j : Int) := by omega
      have r1 : (j : Int) < (T.prototypes.length : Int) := by omega
      cases hpl : T.plainB cc
      · have HN := Lib.hid (each_no HX.out HS.out (by unfold Tab.protoOk; simp only; rw [hpl]; rfl))
        rw [hpl] at HP1
        clear hpl
        go_wp2_with fail
        refine HP1.out.mono ?_
        rintro e w2 ⟨rfl, b2⟩
        clear x0 x1 x2 x3 x4 x5 x6 x7 x8 x9 x10 x11 e0 e1
        go_wp2_with fail
        go_ret
        rw [HN.out]
        exact ⟨rfl, below_next hbelw b2⟩
      · obtain ⟨Rt, hRt⟩ : ∃ Rt, Rt = to.all T.protoEl := ⟨_, rfl⟩
        have HO : Hid ((to.drop 0).all T.protoEl = Rt) := Lib.hid hRt.symm
        have HOK : Hid (T.protoOk (cc, to) = Rt) := Lib.hid (by rw [hRt]; unfold Tab.protoOk; simp only; rw [hpl, Bool.true_and])
        rw [hpl] at HP1
        clear hpl hRt
        go_wp2_with fail
        refine HP1.out.mono ?_
        rintro e w2 ⟨rfl, b2⟩
        have hbel2 := below_next hbelw b2
        have HB2 := Lib.hid (HB'.out.later b2)
        have m1 := ((Blk.new wr 54 #[.int .i64 cc, .slice A' to.length c']).later b2).at_ (i := 1) (u := .slice A' to.length c') rfl
        clear x0 x1 x2 x3 x4 x5 x6 x7 x8 x9 x10 x11 e0 e1 hbel hbelw HB' b2
        go_wp2_with fail
        clear m1
        go_loopw [22] (fun i wr => ∃ (q : Nat), q ≤ to.length ∧ i = .int .i64 q ∧ Hid ((to.drop q).all T.protoEl = Rt) ∧ Below w.heap.size w wr ∧ Hid (Blk wr w.heap.size 26 tc)) (fun i _ => to.length - (intOf i).toNat)
        case atStart => exact ⟨0, by omega, rfl, HO, hbel2, HB2⟩
        case round =>
          obtain ⟨q, hq, rfl, HSq, hbelq, HBq⟩ := hrel
          clear HO HB2 hbel2
          by_cases hql : q < to.length
          · obtain ⟨y, hyq, _⟩ := get_el hql
            obtain ⟨ay, rfl, hay, d0⟩ := HTO.out q _ hyq
            have e0 := (hbelq.cell (p := ay.add q) (by rw [block_of_add]; exact hay)).trans d0
            have HXq := Lib.hid hyq
            obtain ⟨x0, x1, x2, x3, x4, x5, x6, x7, x8, x9, x10, x11⟩ := (show Blk _ _ _ #[_, _, _, _, _, _, _, _, _, _, _, _] from by have h := HBq.out; rw [HTC.out] at h; exact h).tab
            have HP2 := Lib.hid (HPL.out y _ (HT.out _ hbelq))
            have HSY := Lib.hid (fun W => syl_any y W)
            clear d0 hyq hay
            have s0 : (0 : Int) ≤ (q : Int) := by omega
            have s1 : (q : Int) < (to.length : Int) := by omega
            rcases pel_ways T y with ⟨ho, u0⟩ | ⟨ho, u0, u1⟩ | ⟨u0, u1, ho⟩
            · have HN := Lib.hid (each_no HXq.out HSq.out ho)
              rw [u0] at HP2
              clear ho u0
              go_wp2_with fail
              refine HP2.out.mono ?_
              rintro e w3 ⟨rfl, b3⟩
              clear x0 x1 x2 x3 x4 x5 x6 x7 x8 x9 x10 x11 e0
              go_wp2_with fail
              go_ret
              rw [each_no HX.out HS.out (HOK.out.trans HN.out)]
              exact ⟨rfl, below_next hbelq b3⟩
            · have HN := Lib.hid (each_no HXq.out HSq.out ho)
              rw [u0] at HP2
              rw [u1] at HSY
              clear ho u0 u1
              go_wp2_with fail
              refine HP2.out.mono ?_
              rintro e w3 ⟨rfl, b3⟩
              clear x0 x1 x2 x3 x4 x5 x6 x7 x8 x9 x10 x11 e0
              go_wp2_with fail
              refine (HSY.out _).mono ?_
              rintro e w4 ⟨rfl, rfl⟩
              go_wp2_with fail
              go_ret
              rw [each_no HX.out HS.out (HOK.out.trans HN.out)]
              exact ⟨rfl, below_next hbelq b3⟩
            · have HOE := Lib.hid ho
              rw [u0] at HP2
              rw [u1] at HSY
              clear ho u0 u1
              go_wp2_with fail
              refine HP2.out.mono ?_
              rintro e w3 ⟨rfl, b3⟩
              have hbel3 := below_next hbelq b3
              have HB3 := Lib.hid (HBq.out.later b3)
              have y11 := (show Blk _ _ _ #[_, _, _, _, _, _, _, _, _, _, _, _] from by have h := HB3.out; rw [HTC.out] at h; exact h).at_ (i := 11) rfl
              have HFQ := Lib.hid (HFP.out y _ (HT.out _ hbel3).r11)
              clear x0 x1 x2 x3 x4 x5 x6 x7 x8 x9 x10 x11 e0 b3 HBq
              go_wp2_with fail
              refine (HSY.out _).mono ?_
              rintro e w4 ⟨rfl, rfl⟩
              go_wp2_with fail
              refine HFQ.out.mono ?_
              rintro e w4 ⟨u, rfl, hu, hun, b4⟩
              rcases nilB_ways hu hun with ⟨hn, rfl⟩ | ⟨hn, adu, cu, rfl⟩
              · have HN := Lib.hid (each_go HXq.out HSq.out (HOE.out.trans (decide_eq_true hn)))
                have HB4 := Lib.hid (HB3.out.later b4)
                clear hu hun hn y11 HB3
                go_wp2_with fail
                go_roundw
                case rel => exact ⟨q + 1, by omega, by go_num, HN, below_next hbel3 b4, HB4⟩
                case measure => simp [intOf]; omega
              · have HN := Lib.hid (each_no HXq.out HSq.out (HOE.out.trans (decide_eq_false hn)))
                clear hu hun hn y11 HB3
                go_wp2_with fail
                go_ret
                rw [each_no HX.out HS.out (HOK.out.trans HN.out)]
                exact ⟨rfl, below_next hbel3 b4⟩
          · have HN := Lib.hid (each_go HX.out HS.out (HOK.out.trans (each_end (by omega) HSq.out)))
            go_wp2_with fail
            go_roundw
            case rel => exact ⟨j + 1, by omega, by go_num, HN, hbelq, HBq⟩
            case measure => simp [intOf]; omega
    · have HN := Lib.hid (each_end (by omega) HS.out)
      go_wp2_with fail
      go_ret
      rw [HN.out]
      exact ⟨rfl, hbel⟩
end Go.Proofs.YtkdhldhbjomiaaaDoor
