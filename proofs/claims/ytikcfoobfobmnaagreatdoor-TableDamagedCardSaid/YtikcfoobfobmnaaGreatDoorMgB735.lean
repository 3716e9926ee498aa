/-
  Merged texts: lemmas and walks that the last text of this claim leans on.
-/
import Derived.Test.YtikcfoobfobmnaaGreatDoorMgB734
import Derived.Test.YtikcfoobfobmnaaGreatDoorMgB727
import Derived.Test.YtikcfoobfobmnaaGreatDoorMgB710
import Derived.Test.YtikcfoobfobmnaaGreatDoorMgB76
import Derived.Test.YtikcfoobfobmnaaGreatDoorMgB729
import Derived.Test.YtikcfoobfobmnaaGreatDoorMgB728
import Derived.Test.YtikcfoobfobmnaaGreatDoorMgB722
import Derived.Test.YtikcfoobfobmnaaGreatDoorMgB730
import Derived.Test.YtikcfoobfobmnaaGreatDoorMgB71
import Derived.Deep.RegionWith
import Derived.Test.YtikcfoobfobmnaaGreatDoorMgB73
import Derived.Test.YtikcfoobfobmnaaGreatDoorMgB732
/-
  The walk through namedesk/namedeskref4.Encode: it writes the encoding of whatever tables.
-/
namespace Go.Proofs.YtikcfoobfobmnaaGreatDoor
open Go.RowKit ND

set_option maxRecDepth 100000 in
set_option maxHeartbeats 4000000 in
theorem refEncode_any (t : Tv) (T : Tab) (w : World) (ht : TabR w w.heap.size t T) :
    Calls Tryz.prog 5 #[t.val] w (RetPut w (encTR T)) := by
  obtain ⟨A0, A1, A2, A3, A4, A5, A6, A7, A8, A9, A10, A11, k0, k1, k2, k3, k4, k5, k6, k7, k8, k9, k10, k11, rfl⟩ := ht.shape
  have HR := Lib.hid (fun o : Obj => ht.later ((Below.refl _ _).alloc (Nat.le_refl _) o))
  clear ht
  go_enter Tryz.func5, Tryz.ntmps5
  go_wp2_with fail
  refine (check_ref _ T _ (HR.out _)).mono ?_
  rintro e w1 ⟨rfl, b1⟩
  have HB := Lib.hid ((Blk.new w 29 _).later b1)
  have HT := Lib.hid ((HR.out _).later b1)
  have hbel1 := below_next ((Below.refl _ _).alloc (Nat.le_refl _) _) b1
  clear b1 HR
  by_cases hck : T.check = 0
  case neg =>
    have HCK := Lib.hid hck
    have hne : (T.check != 0) = true := bne_iff_ne.2 hck
    clear hck
    go_wp2_with fail
    go_ret2
    rw [encTR_bad HCK.out]
    exact ⟨rfl, hbel1⟩
  have HCK := Lib.hid hck
  have HMO := Lib.hid (mps_ok hck)
  have HEX := Lib.hid (exc_ok hck).1
  have hne : (T.check != 0) = false := by rw [hck]; rfl
  clear hck
  obtain ⟨x0, x1, x2, x3, x4, x5, x6, x7, x8, x9, x10, x11⟩ := HB.out.tab
  go_wp2_with fail
  refine (refSpans_any _ T _ HT.out).mono ?_
  rintro e w2 ⟨ad, am_, rfl, hc, _, b2⟩
  have HC := Lib.hid hc.2
  have hca := hc.1
  have hbel2 := below_next hbel1 b2
  have HB2 := Lib.hid (HB.out.later b2)
  have HT2 := Lib.hid (HT.out.later b2)
  clear hc b2 HB HT hbel1 hne x0 x1 x2 x3 x4 x5 x6 x7 x8 x9 x10 x11
  go_wp2_with fail
  go_loopw [4, 24] (fun sv i wr => ∃ (k : Nat) (S : ByteArray), k ≤ 7 ∧ i = .int .i64 k ∧ sv = .string S ∧ S.size ≤ 4 + 7690 * k ∧ Hid (S.data.toList = encCols magicL ((T.cols.take k).map (·.1))) ∧ Below w2.heap.size w2 wr) (fun _ i _ => 7 - (intOf i).toNat)
  case atStart => exact ⟨0, _, by omega, rfl, rfl, by decide, Lib.hid rfl, Below.refl _ _⟩
  case round =>
    obtain ⟨k, S, hk, rfl, rfl, hS, HS, hbel⟩ := hrel
    by_cases hlt : k < 7
    · obtain ⟨⟨l, lo, hi⟩, hxk, _⟩ := get_el (xs := T.cols) (k := k) hlt
      obtain ⟨v, d0, hv⟩ := HC.out k _ hxk
      simp only at d0 hv
      obtain ⟨A, c, rfl, hc1, hc2, _, _⟩ := id hv
      have e0 := (hbel.cell (p := ad.add k) (by rw [block_of_add]; exact hca)).trans d0
      have HV := Lib.hid (hv.later hbel)
      have hb2 := hbel
      have HX := Lib.hid hxk
      clear d0 hxk hv hc1 hc2
      have q0 : (0 : Int) ≤ (k : Int) := by omega
      have q1 : (k : Int) < (7 : Int) := by omega
      clear HB2 HT2 hbel2
      obtain ⟨S', hS'⟩ : ∃ S' : ByteArray, S' = ⟨(putSpans S.data.toList l).1.toArray⟩ := ⟨_, rfl⟩
      have hl' : S'.data.toList = (putSpans S.data.toList l).1 := by rw [hS']
      have hsz : S'.size ≤ S.size + 7690 := by
        have h1 := putSpans_lenT S.data.toList l
        rw [← hl', sz_list, sz_list] at h1
        omega
      have HN : Hid (S'.data.toList = encCols magicL ((T.cols.take (k + 1)).map (·.1))) := Lib.hid (by rw [hl', HS.out, encCols_step HX.out])
      have HP := Lib.hid (fun W h => refPutSpans_any S (.slice A l.length c) l W h (by omega))
      unfold RetPut at HP
      rw [← hS'] at HP
      generalize (putSpans S.data.toList l).2 = er at HP
      clear hS' hl'
      go_wp2_with fail
      refine (HP.out _ HV.out).mono ?_
      rintro e w3 ⟨rfl, b3⟩
      have hb3 := below_next hb2 b3
      clear b3 hb2 HP HV
      go_wp2_with fail
      go_roundw
      case rel => exact ⟨k + 1, S', by omega, by go_num, rfl, by omega, HN, hb3⟩
      case measure => simp [intOf]; omega
    · obtain rfl : k = 7 := by omega
      have HE : Hid (S.data.toList = encCol T) := Lib.hid HS.out
      have hS1 : S.size ≤ 53834 := by omega
      have HB3 := Lib.hid (HB2.out.later hbel)
      have HT3 := Lib.hid (HT2.out.later hbel)
      have hbel3 := below_next hbel2 hbel
      obtain ⟨x0, x1, x2, x3, x4, x5, x6, x7, x8, x9, x10, x11⟩ := HB3.out.tab
      clear HS HC hca HB2 HT2 hbel2 hbel hS hlt hk
      go_wp2_with fail
      refine (refMappings_any _ T _ HT3.out).mono ?_
      rintro e w4 ⟨am, rfl, hm, b4⟩
      have HM := Lib.hid hm.2
      have hma := hm.1
      have HB4 := Lib.hid (HB3.out.later b4)
      have HT4 := Lib.hid (HT3.out.later b4)
      have hbel4 := below_next hbel3 b4
      clear hm b4 HB3 HT3 hbel3 x0 x1 x2 x3 x4 x5 x6 x7 x8 x9 x10 x11
      go_wp2_with fail
      go_loopw [4, 39] (fun sv i wr => ∃ (k : Nat) (S : ByteArray), k ≤ 4 ∧ i = .int .i64 k ∧ sv = .string S ∧ S.size ≤ 60000 + 10498600 * k ∧ Hid (S.data.toList = encMps (encCol T) (T.mps.take k)) ∧ Below w4.heap.size w4 wr) (fun _ i _ => 4 - (intOf i).toNat)
      case atStart => exact ⟨0, S, by omega, rfl, rfl, by omega, Lib.hid HE.out, Below.refl _ _⟩
      case round =>
        obtain ⟨k, S, hk, rfl, rfl, hS, HS, hbel⟩ := hrel
        clear HE hS1
        by_cases hlt : k < 4
        · obtain ⟨ms, hxk, hmm⟩ := get_el (xs := T.mps) (k := k) hlt
          obtain ⟨v, d0, hv⟩ := HM.out k _ hxk
          obtain ⟨hml, hrow⟩ := HMO.out ms hmm
          obtain ⟨A, c, rfl, hc1, hc2, _, hcell⟩ := hv
          have HCE := Lib.hid hcell
          have HROW := Lib.hid hrow
          have HX := Lib.hid hxk
          have e0 := (hbel.cell (p := am.add k) (by rw [block_of_add]; exact hma)).trans d0
          have q0 : (0 : Int) ≤ (k : Int) := by omega
          have q1 : (k : Int) < (4 : Int) := by omega
          clear hcell hrow hxk hmm d0 hc1 hc2 HB4 HT4 hbel4
          obtain ⟨S', hS'⟩ : ∃ S' : ByteArray, S' = ⟨(putInt S.data.toList (ms.length : Int)).toArray⟩ := ⟨_, rfl⟩
          have hl' : S'.data.toList = putInt S.data.toList (ms.length : Int) := by rw [hS']
          have hsz : S'.size ≤ S.size + 10 := by
            have h1 := putInt_len S.data.toList (ms.length : Int)
            rw [← hl', sz_list, sz_list] at h1
            omega
          have HN : Hid (S'.data.toList = putInt (encMps (encCol T) (T.mps.take k)) (ms.length : Int)) := Lib.hid (by rw [hl', HS.out])
          have HP := Lib.hid (fun W => refPutInt_any S (ms.length : Int) W (by omega) (by omega) (by omega))
          rw [← hS'] at HP
          clear hS' hl' HS
          go_wp2_with fail
          refine (HP.out _).mono ?_
          rintro e w5 ⟨rfl, b5⟩
          have hb5 := below_next hbel b5
          clear b5 hbel HP e0
          go_wp2_with fail
          go_loopw [4, 49] (fun sv i wj => ∃ (j : Nat) (S : ByteArray), j ≤ ms.length ∧ i = .int .i64 j ∧ sv = .string S ∧ S.size ≤ 60000 + 10498600 * k + 10 + 41010 * j ∧ Hid (S.data.toList = (ms.take j).foldl encRow (putInt (encMps (encCol T) (T.mps.take k)) (ms.length : Int))) ∧ Below w4.heap.size w4 wj) (fun _ i _ => ms.length - (intOf i).toNat)
          case atStart => exact ⟨0, S', by omega, rfl, rfl, by omega, Lib.hid HN.out, hb5⟩
          case round =>
            obtain ⟨j, S2, hj, rfl, rfl, hS2, HS2, hbelj⟩ := hrel
            clear HN hb5 hsz
            by_cases hjl : j < ms.length
            · obtain ⟨⟨f, tl⟩, hxj, hjm⟩ := get_el hjl
              obtain ⟨aj, sv, rfl, ha, d0, d1, hints⟩ := HCE.out j _ hxj
              simp only at d0 d1 hints
              obtain ⟨A', c', rfl, hc1, hc2, _, _⟩ := id hints
              obtain ⟨e0, e1⟩ := map_cells hbelj ha d0 d1
              obtain ⟨⟨hf0, hf1⟩, htl, _⟩ := HROW.out _ hjm
              simp only at hf0 hf1 htl
              have HXj := Lib.hid hxj
              have HI := Lib.hid (hints.later hbelj)
              clear d0 d1 hxj hjm ha hints hc1 hc2
              have r0 : (0 : Int) ≤ (j : Int) := by omega
              have r1 : (j : Int) < (ms.length : Int) := by omega
              obtain ⟨S3, hS3⟩ : ∃ S3 : ByteArray, S3 = ⟨(putInt S2.data.toList f).toArray⟩ := ⟨_, rfl⟩
              have hl3 : S3.data.toList = putInt S2.data.toList f := by rw [hS3]
              have hsz3 : S3.size ≤ S2.size + 10 := by
                have h1 := putInt_len S2.data.toList f
                rw [← hl3, sz_list, sz_list] at h1
                omega
              obtain ⟨S4, hS4⟩ : ∃ S4 : ByteArray, S4 = ⟨(putList S3.data.toList tl).1.toArray⟩ := ⟨_, rfl⟩
              have hl4 : S4.data.toList = (putList S3.data.toList tl).1 := by rw [hS4]
              have hsz4 : S4.size ≤ S3.size + 40970 := by
                have h1 := putList_lenT S3.data.toList tl
                rw [← hl4, sz_list, sz_list] at h1
                omega
              have HN : Hid (S4.data.toList = (ms.take (j + 1)).foldl encRow (putInt (encMps (encCol T) (T.mps.take k)) (ms.length : Int))) := Lib.hid (by rw [hl4, hl3, HS2.out, foldl_snoc HXj.out]; rfl)
              have HPI := Lib.hid (fun W => refPutInt_any S2 f W (by omega) hf0 hf1)
              rw [← hS3] at HPI
              have HPL := Lib.hid (fun W h => refPutList_any S3 (.slice A' tl.length c') tl W h (by omega))
              unfold RetPut at HPL
              rw [← hS4] at HPL
              generalize (putList S3.data.toList tl).2 = er at HPL
              clear hS3 hl3 hS4 hl4 HS2 hf0 hf1
              go_wp2_with fail
              have HI2 := Lib.hid (HI.out.later ((Below.refl _ _).alloc (Nat.le_refl _) (.cells #[.int .i64 f, .slice A' tl.length c'] 51)))
              have hbA := hbelj.alloc hbelj.size (.cells #[.int .i64 f, .slice A' tl.length c'] 51)
              have HBC := Lib.hid (Blk.new wr 51 #[.int .i64 f, .slice A' tl.length c'])
              generalize wr.alloc (.cells #[.int .i64 f, .slice A' tl.length c'] 51) = wA at *
              clear e0 e1 HI hbelj
              have m0 := cell_regrown (HBC.out.at_ (i := 0) (u := .int .i64 f) rfl)
              have m1 := cell_regrown (HBC.out.at_ (i := 1) (u := .slice A' tl.length c') rfl)
              refine wp_region_quiet_below (by kernel_rfl) (by kernel_rfl) ?_
              repeat (go_big_quiet_step (first | (go_at_call 19; exact quiet_t (fun W hW => HPL.out W (HI2.out.later hW))) | (go_at_call 9; exact quiet_t (fun W _ => HPI.out W))))
              refine wpQuiet_nil ?_
              rintro _ ⟨⟨dq, osq⟩, rfl⟩
              have hb9 := below_next hbA (below_regrown wA dq osq)
              generalize Go.Sort.grow (redrawn wA dq) osq = wB at *
              clear m0 m1 HBC HPI HPL HI2 hbA
              go_wp2_with fail
              go_roundw
              case rel => exact ⟨j + 1, S4, by omega, by go_num, rfl, by omega, HN, hb9⟩
              case measure => simp [intOf]; omega
            · obtain rfl : j = ms.length := by omega
              have HN : Hid (S2.data.toList = encMps (encCol T) (T.mps.take (k + 1))) := Lib.hid (by rw [HS2.out, List.take_length, encMps_step HX.out])
              go_wp2_with fail
              go_roundw
              case rel => exact ⟨k + 1, S2, by omega, by go_num, rfl, by omega, HN, hbelj⟩
              case measure => simp [intOf]; omega
        · obtain rfl : k = 4 := by omega
          have hbel5 := below_next hbel4 hbel
          have y10 := (HB4.out.later hbel).at_ (i := 10) rfl
          have HX10 := Lib.hid (HT4.out.later hbel).r10
          have hexl := HEX.out
          clear HM hma HB4 HT4 hbel4 hbel HMO hlt hk
          simp only at HX10
          obtain ⟨S5, hS5⟩ : ∃ S5 : ByteArray, S5 = ⟨(putList S.data.toList T.excluded).1.toArray⟩ := ⟨_, rfl⟩
          have hl5 : S5.data.toList = (putList S.data.toList T.excluded).1 := by rw [hS5]
          have hsz5 : S5.size ≤ S.size + 40970 := by
            have h1 := putList_lenT S.data.toList T.excluded
            rw [← hl5, sz_list, sz_list] at h1
            omega
          have HN5 : Hid (S5.data.toList = encBody T) := Lib.hid (by rw [hl5, HS.out]; rfl)
          have HPL := Lib.hid (fun W h => refPutList_any S (.slice A10 T.excluded.length k10) T.excluded W h (by omega))
          unfold RetPut at HPL
          rw [← hS5] at HPL
          generalize (putList S.data.toList T.excluded).2 = er at HPL
          clear hS5 hl5 HS
          have hsl := sumL_lt S5.data.toList
          have HSU := Lib.hid (fun W => refSum_any S5 W (by unfold maxLen; omega))
          obtain ⟨su, hsu⟩ : ∃ su, su = sumL S5.data.toList := ⟨_, rfl⟩
          rw [← hsu] at hsl HSU
          obtain ⟨S7, hS7⟩ : ∃ S7 : ByteArray, S7 = ⟨(putInt S5.data.toList (su : Int)).toArray⟩ := ⟨_, rfl⟩
          have hl7 : S7.data.toList = putInt S5.data.toList (su : Int) := by rw [hS7]
          have HA : Hid (S7.data.toList = encAllT T) := Lib.hid (by rw [hl7, hsu, HN5.out]; rfl)
          have hsz7 : S7.size ≤ S5.size + 10 := by
            have h1 := putInt_len S5.data.toList (su : Int)
            rw [← hl7, sz_list, sz_list] at h1
            omega
          have HPI := Lib.hid (fun W => refPutInt_any S5 (su : Int) W (by omega) (by omega) (by omega))
          rw [← hS7] at HPI
          have hal : (encAllT T).length = S7.size := by rw [← HA.out, sz_list]
          have HAL := Lib.hid hal
          clear hS7 hl7 hsu hal
          go_wp2_with fail
          refine (HPL.out _ HX10.out).mono ?_
          rintro e w5 ⟨rfl, b5⟩
          have B5 := below_next hbel5 b5
          clear b5 HPL HX10 y10 hbel5
          go_wp2_with fail
          refine (HSU.out _).mono ?_
          rintro e w6 ⟨rfl, rfl⟩
          have B6 := B5
          go_wp2_with fail
          refine (HPI.out _).mono ?_
          rintro e w7 ⟨rfl, b7⟩
          have B7 := below_next B6 b7
          clear b7 HSU HPI
          have hcase : 32768 < S7.size ∨ S7.size ≤ 32768 := by omega
          rcases hcase with hbig | hbig
          · go_wp2_with fail
            go_ret2
            rw [encTR_full HCK.out (by rw [HAL.out]; exact hbig)]
            exact ⟨rfl, B7⟩
          · go_wp2_with fail
            go_ret2
            rw [encTR_ok HCK.out (by rw [HAL.out]; exact hbig)]
            refine ⟨?_, B7⟩
            have hb : S7 = ⟨(encAllT T).toArray⟩ := ByteArray.ext (Array.toList_inj.1 HA.out)
            show _ = Ending.returned (.tuple #[.string ⟨(encAllT T).toArray⟩, .int .i64 0])
            rw [← hb]
            rfl
end Go.Proofs.YtikcfoobfobmnaaGreatDoor
/-
  The walks through table's reader: number, list, spans.
-/
namespace Go.Proofs.YtikcfoobfobmnaaGreatDoor
open Go.RowKit ND

theorem grown_of_below {w w' : World} (h : Below w.heap.size w w') (row : Option Nat) : w.grownBy w' row := ⟨h.os, h.tape, h.output, h.size, fun k hk _ => h.block k hk⟩

set_option maxRecDepth 100000 in
set_option maxHeartbeats 400000 in
theorem number_err (w : World) (g : Nat) (s : ByteArray) (p e : Int) (hb : Blk w g 75 #[.string s, .int .i64 p, .int .i64 e]) (he : e ≠ 0) :
    Calls Tryz.prog 39 #[.pointer (some ⟨g, 0, none⟩)] w fun r w' => r = .returned (.int .i64 0) ∧ w = w' := by
  have h2 : w.cell? ⟨g, 2, none⟩ = some (.int .i64 e) := by rw [hb.cell]; rfl
  have hne : (e != 0) = true := by rw [bne_iff_ne]; exact he
  clear hb he
  go_enter Tryz.func39, Tryz.ntmps39
  go_wp2_with fail
  go_ret
  exact ⟨rfl, rfl⟩

set_option maxRecDepth 100000 in
set_option maxHeartbeats 2000000 in
theorem number_ok (w : World) (g : Nat) (s : ByteArray) (p : Int) (hs : s.size ≤ maxLen) (hb : Blk w g 75 #[.string s, .int .i64 p, .int .i64 0]) :
    Calls Tryz.prog 39 #[.pointer (some ⟨g, 0, none⟩)] w fun r w' => ∃ v, r = .returned v ∧ v = .int .i64 (getInt s.data.toList p).1 ∧
      Blk w' g 75 #[.string s, .int .i64 (getInt s.data.toList p).2.1, .int .i64 (getInt s.data.toList p).2.2] ∧ w.grownBy w' (some g) := by
  have h0 : w.cell? ⟨g, 0, none⟩ = some (.string s) := by rw [hb.cell]; rfl
  have h1 : w.cell? ⟨g, 1, none⟩ = some (.int .i64 p) := by rw [hb.cell]; rfl
  have h2 : w.cell? ⟨g, 2, none⟩ = some (.int .i64 0) := by rw [hb.cell]; rfl
  have f1 := hb.free 1
  have f2 := hb.free 2
  have hlt := hb.lt
  have hget := Lib.hid (fun W => getInt_any s p W hs)
  have HB := Lib.hid hb; clear hb
  generalize getInt s.data.toList p = r at *
  obtain ⟨x, y, z⟩ := r
  unfold tri at hget
  simp only at hget ⊢
  go_enter Tryz.func39, Tryz.ntmps39
  go_wp2_with fail
  go_region_with (go_at_call 76; refine (hget.out _).mono ?_; rintro e w1 ⟨rfl, rfl⟩)
  all_goals
    go_wp2_with fail
    go_ret
    exact ⟨_, rfl, rfl, (HB.out.put 1 (.int .i64 y)).put 2 (.int .i64 z), grown_setCell (grown_setCell (show w.grownBy w.drew (some g) from ⟨rfl, rfl, rfl, Nat.le_refl _, fun _ _ _ => rfl⟩) _ _) _ _⟩

set_option maxRecDepth 100000 in
set_option maxHeartbeats 400000 in
theorem list_err (w : World) (g : Nat) (s : ByteArray) (p e : Int) (hb : Blk w g 75 #[.string s, .int .i64 p, .int .i64 e]) (he : e ≠ 0) :
    Calls Tryz.prog 38 #[.pointer (some ⟨g, 0, none⟩)] w fun r w' => r = .returned (.slice none 0 0) ∧ w = w' := by
  have h2 : w.cell? ⟨g, 2, none⟩ = some (.int .i64 e) := by rw [hb.cell]; rfl
  have hne : (e != 0) = true := by rw [bne_iff_ne]; exact he
  clear hb he
  go_enter Tryz.func38, Tryz.ntmps38
  go_wp2_with fail
  go_ret
  exact ⟨rfl, rfl⟩

set_option maxRecDepth 100000 in
set_option maxHeartbeats 2000000 in
theorem list_ok (w : World) (g : Nat) (s : ByteArray) (p : Int) (hs : s.size ≤ maxLen) (hb : Blk w g 75 #[.string s, .int .i64 p, .int .i64 0]) :
    Calls Tryz.prog 38 #[.pointer (some ⟨g, 0, none⟩)] w fun r w' => ∃ v, r = .returned v ∧ w'.ownsRow w.heap.size 3 1 v (getList s.data.toList p).1.length ((getList s.data.toList p).1.map (Value.int .i64)) ∧
      Blk w' g 75 #[.string s, .int .i64 (getList s.data.toList p).2.1, .int .i64 (getList s.data.toList p).2.2] ∧ w.grownBy w' (some g) := by
  have h0 : w.cell? ⟨g, 0, none⟩ = some (.string s) := by rw [hb.cell]; rfl
  have h1 : w.cell? ⟨g, 1, none⟩ = some (.int .i64 p) := by rw [hb.cell]; rfl
  have h2 : w.cell? ⟨g, 2, none⟩ = some (.int .i64 0) := by rw [hb.cell]; rfl
  have f1 := hb.free 1
  have f2 := hb.free 2
  have hlt := hb.lt
  have hget := Lib.hid (fun W => getListO_any s p W hs)
  have HB := Lib.hid hb; clear hb
  generalize getList s.data.toList p = r at *
  obtain ⟨x, y, z⟩ := r
  unfold RetGetO at hget
  simp only at hget ⊢
  go_enter Tryz.func38, Tryz.ntmps38
  go_wp2_with fail
  go_region_with (go_at_call 75; refine (hget.out _).mono ?_; rintro e w1 ⟨v, rfl, ho, b0⟩; have b1 : Below w.heap.size w w1 := ⟨b0.os, b0.tape, b0.output, b0.size, b0.block⟩; have k1 := (HB.out.later b1).at_ (i := 1) rfl; have k2 := (HB.out.later b1).at_ (i := 2) rfl; have q1 := (HB.out.later b1).free 1; have q2 := (HB.out.later b1).free 2)
  all_goals
    go_wp2_with fail
    go_ret
    exact ⟨_, rfl, own_grown (own_grown ho (grown_setCell (grown_refl _ _) _ _) hlt) (grown_setCell (grown_refl _ _) _ _) hlt, ((HB.out.later b1).put 1 (.int .i64 y)).put 2 (.int .i64 z), grown_setCell (grown_setCell (grown_of_below b1 _) _ _) _ _⟩

set_option maxRecDepth 100000 in
set_option maxHeartbeats 400000 in
theorem spans_err (w : World) (g : Nat) (s : ByteArray) (p e : Int) (hb : Blk w g 75 #[.string s, .int .i64 p, .int .i64 e]) (he : e ≠ 0) :
    Calls Tryz.prog 36 #[.pointer (some ⟨g, 0, none⟩)] w fun r w' => r = .returned (.slice none 0 0) ∧ w = w' := by
  have h2 : w.cell? ⟨g, 2, none⟩ = some (.int .i64 e) := by rw [hb.cell]; rfl
  have hne : (e != 0) = true := by rw [bne_iff_ne]; exact he
  clear hb he
  go_enter Tryz.func36, Tryz.ntmps36
  go_wp2_with fail
  go_ret
  exact ⟨rfl, rfl⟩

set_option maxRecDepth 100000 in
set_option maxHeartbeats 2000000 in
theorem spans_ok (w : World) (g : Nat) (s : ByteArray) (p : Int) (hs : s.size ≤ maxLen) (hb : Blk w g 75 #[.string s, .int .i64 p, .int .i64 0]) :
    Calls Tryz.prog 36 #[.pointer (some ⟨g, 0, none⟩)] w fun r w' => ∃ v, r = .returned v ∧ w'.ownsRow w.heap.size 61 3 v (getSpans s.data.toList p).1.length ((getSpans s.data.toList p).1.flatMap spCells) ∧
      Blk w' g 75 #[.string s, .int .i64 (getSpans s.data.toList p).2.1, .int .i64 (getSpans s.data.toList p).2.2] ∧ w.grownBy w' (some g) := by
  have h0 : w.cell? ⟨g, 0, none⟩ = some (.string s) := by rw [hb.cell]; rfl
  have h1 : w.cell? ⟨g, 1, none⟩ = some (.int .i64 p) := by rw [hb.cell]; rfl
  have h2 : w.cell? ⟨g, 2, none⟩ = some (.int .i64 0) := by rw [hb.cell]; rfl
  have f1 := hb.free 1
  have f2 := hb.free 2
  have hlt := hb.lt
  have hget := Lib.hid (fun W => getSpansO_any s p W hs)
  have HB := Lib.hid hb; clear hb
  generalize getSpans s.data.toList p = r at *
  obtain ⟨x, y, z⟩ := r
  unfold RetSpansO at hget
  simp only at hget ⊢
  go_enter Tryz.func36, Tryz.ntmps36
  go_wp2_with fail
  go_region_with (go_at_call 74; refine (hget.out _).mono ?_; rintro e w1 ⟨v, rfl, ho, b0⟩; have b1 : Below w.heap.size w w1 := ⟨b0.os, b0.tape, b0.output, b0.size, b0.block⟩; have k1 := (HB.out.later b1).at_ (i := 1) rfl; have k2 := (HB.out.later b1).at_ (i := 2) rfl; have q1 := (HB.out.later b1).free 1; have q2 := (HB.out.later b1).free 2)
  all_goals
    go_wp2_with fail
    go_ret
    exact ⟨_, rfl, own_grown (own_grown ho (grown_setCell (grown_refl _ _) _ _) hlt) (grown_setCell (grown_refl _ _) _ _) hlt, ((HB.out.later b1).put 1 (.int .i64 y)).put 2 (.int .i64 z), grown_setCell (grown_setCell (grown_of_below b1 _) _ _) _ _⟩

end Go.Proofs.YtikcfoobfobmnaaGreatDoor
/-
  append of one mapping to a row of the call's own, in a region with one order.
-/
namespace Go.Proofs.YtikcfoobfobmnaaGreatDoor
open Go.RowKit ND

theorem wpList_append_map {P : Program} {ops : Array Oper} {rest : List Oper} {o : Oper} {a : Act} {w : World} {Q : Exit → Act → World → Prop} {T : TypeId} {i0 : TypeInfo} (hgd : o.guard = none) (s x : Operand)
    (ho : o.op = .call { callee := .builtin .append, args := #[s, x], argTypes := #[T, T] }) (ht : P.underlying T = some (.slice 51)) (hi : P.info? 51 = some i0) (z : Value) (hz : i0.zero = some z) (h1 : i0.size = 2) (h2 : i0.bytes = 32) (hzs : z.cells.size = 2)
    (S : List Nat) (base : Nat) (v : Value) (D : List Mp) (k : Nat) (c : Int) (sv : Value) (l : List Int) (hs : a.eval s = v) (hx : a.eval x = .slice (some ⟨k, 0, none⟩) 1 1) (hown : OwnM S w base v D) (hk : Blk w k 51 #[.int .i64 c, sv]) (hsv : Ints (veil (S ++ v.ownBlock.toList) w) w.heap.size .i64 sv l)
    (hn : D.length ≤ 1000000) (hb : base ≤ w.heap.size)
    (h : ∀ v' w', OwnM S w' base v' (D ++ [(c, l)]) → w.grownBy w' v.ownBlock → (∀ g, v'.ownBlock = some g → v.ownBlock = some g ∨ g = w.heap.size) → (∃ A m c, v' = .slice A m c) → wpList P ops Q rest (a.put o.dst v') w') : wpList P ops Q (o :: rest) a w := by
  refine wpList_step fun K hK => ?_
  exact step_app_map hgd s x ho ht hi z hz h1 h2 hzs S base v D k c sv l hs hx hown hk hsv hn hb fun v' w' a b c d => hK _ _ (h v' w' a b c d)
end Go.Proofs.YtikcfoobfobmnaaGreatDoor
/-
  The walk through table's reader: mappings.
-/
namespace Go.Proofs.YtikcfoobfobmnaaGreatDoor
open Go.RowKit ND

/-- The reader in its block, the mappings so far. -/
structure RdM (S : List Nat) (w wr : World) (g : Nat) (s : ByteArray) (p e : Int) (lv : Value) (acc : List Mp) : Prop where
  rd : Blk wr g 75 #[.string s, .int .i64 p, .int .i64 e]
  own : OwnM S wr w.heap.size lv acc
  gr : w.grownBy wr (some g)
  lt : ∀ x ∈ S, x < w.heap.size
  mem : g ∈ S
section
variable {S : List Nat} {w wr w' : World} {g : Nat} {s : ByteArray} {p e p' e' : Int} {lv : Value} {acc : List Mp}
theorem RdM.apart (h : RdM S w wr g s p e lv acc) : ∀ q, lv.ownBlock = some q → w.heap.size ≤ q ∧ q < wr.heap.size := fun q hq => by
  obtain ⟨ps, _, _, ho, _⟩ := h.own
  exact ho.lt q hq
theorem RdM.next (h : RdM S w wr g s p e lv acc) (hb : Blk w' g 75 #[.string s, .int .i64 p', .int .i64 e']) (hg : wr.grownBy w' (some g)) : RdM S w w' g s p' e' lv acc :=
  ⟨hb, h.own.kept (onlyIn.of_grown hg h.mem) (fun q hq hx => by
    have h1 := (h.apart q hq).1
    have h2 := h.lt q hx
    omega), grown_trans h.gr hg, h.lt, h.mem⟩
theorem RdM.alloc (h : RdM S w wr g s p e lv acc) (o : Obj) : RdM S w (wr.alloc o) g s p e lv acc :=
  h.next (h.rd.alloc o) (grown_alloc wr o _)
theorem RdM.shape (h : RdM S w wr g s p e lv acc) : ∃ A n c, lv = .slice A n c := by
  obtain ⟨ps, _, _, ho, _⟩ := h.own
  rcases ho.2 with ⟨rfl, _⟩ | ⟨g, cap, cur, rfl, _⟩
  · exact ⟨_, _, _, rfl⟩
  · exact ⟨_, _, _, rfl⟩
theorem RdM.push (h : RdM S w wr g s p e lv acc) {lv' : Value} {acc' : List Mp} (ho : OwnM S w' w.heap.size lv' acc') (hg : wr.grownBy w' lv.ownBlock) : RdM S w w' g s p e lv' acc' :=
  ⟨h.rd.grown hg (fun e => by have h1 := h.apart g e.symm; have h2 := h.lt g h.mem; omega), ho, grown_new h.gr hg (fun x hx => (h.apart x hx).1), h.lt, h.mem⟩
theorem RdM.out (h : RdM S w wr g s p e lv acc) : Mapps (veil S wr) wr.heap.size lv acc := by
  have h1 := h.own.mapps h.lt
  rw [veil_size] at h1
  exact h1
/-- A sequence of the call's own may be appended. -/
theorem RdM.seq (h : RdM S w wr g s p e lv acc) {base : Nat} {v : Value} {xs : List Int} (ho : w'.ownsRow base 3 1 v xs.length (xs.map (Value.int .i64))) (hb : wr.heap.size ≤ base) : Ints (veil (S ++ lv.ownBlock.toList) w') w'.heap.size .i64 v xs :=
  Ints.veil_own' ho fun q hq hx => by
    have h1 := (ho.lt q hq).1
    have h3 := h.gr.size
    rcases List.mem_append.1 hx with hx | hx
    · have h4 := h.lt q hx
      omega
    · rw [Option.mem_toList] at hx
      have h2 := (h.apart q hx).2
      omega
end

set_option maxRecDepth 100000 in
set_option maxHeartbeats 400000 in
theorem mappings_err (w : World) (g : Nat) (s : ByteArray) (p e : Int) (hb : Blk w g 75 #[.string s, .int .i64 p, .int .i64 e]) (he : e ≠ 0) :
    Calls Tryz.prog 37 #[.pointer (some ⟨g, 0, none⟩)] w fun r w' => r = .returned (.slice none 0 0) ∧ w = w' := by
  have h2 : w.cell? ⟨g, 2, none⟩ = some (.int .i64 e) := by rw [hb.cell]; rfl
  have hne : (e == 0) = false := beq_eq_false_iff_ne.2 he
  have hnum := Lib.hid (number_err w g s p e hb he)
  clear hb he
  go_enter Tryz.func37, Tryz.ntmps37
  go_wp2_with fail
  refine hnum.out.mono ?_
  rintro r w1 ⟨rfl, rfl⟩
  go_wp2_with fail
  refine wp_loop_rounds 1 ?_
  rw [rounds_succ]
  go_wp2_with fail
  go_ret
  exact ⟨rfl, rfl⟩

/-- What mappings hands back. -/
def RetRdM (S : List Nat) (w : World) (g : Nat) (s : ByteArray) (p : Int) (r : Ending) (w' : World) : Prop :=
  ∃ v xs p' e', r = .returned v ∧ Mapps (veil S w') w'.heap.size v xs ∧ Blk w' g 75 #[.string s, .int .i64 p', .int .i64 e'] ∧ w.grownBy w' (some g) ∧ e' = (getMaps s.data.toList p).2.2 ∧ (e' = 0 → getMaps s.data.toList p = (xs, p', 0))

set_option maxRecDepth 100000 in
set_option maxHeartbeats 4000000 in
theorem mappings_ok (S : List Nat) (w : World) (g : Nat) (s : ByteArray) (p : Int) (hs : s.size ≤ maxLen) (hS : ∀ x ∈ S, x < w.heap.size) (hgS : g ∈ S) (hb : Blk w g 75 #[.string s, .int .i64 p, .int .i64 0]) :
    Calls Tryz.prog 37 #[.pointer (some ⟨g, 0, none⟩)] w (RetRdM S w g s p) := by
  obtain ⟨i0, hi, hz0, hz1, hz2⟩ := info_parts Tryz.infoMap
  have hnum := Lib.hid (number_ok w g s p hs hb)
  have herr := getInt_err0 s.data.toList p
  obtain ⟨n, q, e, hg⟩ : ∃ n q e, getInt s.data.toList p = (n, q, e) := ⟨_, _, _, rfl⟩
  rw [hg] at hnum herr
  simp only at hnum herr
  have HG := Lib.hid hg; clear hg hb
  go_enter Tryz.func37, Tryz.ntmps37
  go_wp2_with fail
  refine hnum.out.mono ?_
  rintro r w1 ⟨v, rfl, rfl, hb1, hg1⟩
  have c2 := hb1.at_ (i := 2) rfl
  have f2 := hb1.free 2
  clear hnum
  by_cases he : e = 0
  · subst he
    clear herr
    by_cases hn : n < 0 ∨ 256 < n
    · have HR := Lib.hid (getMaps_form HG.out hn)
      have hn' : (n < 0 ∧ decide (n < 0) = true ∧ decide (0 < n) = false) ∨ (256 < n ∧ decide (n < 0) = false ∧ decide (256 < n) = true ∧ decide (0 < n) = true) := by
        simp only [decide_eq_true_eq, decide_eq_false_iff_not]; omega
      clear hn
      have hb2 := hb1.put 2 (.int .i64 4)
      have c3 := hb2.at_ (i := 2) rfl
      have hg2 := grown_setCell hg1 2 (.int .i64 4)
      rcases hn' with ⟨hn, hd, hd'⟩ | ⟨hn, hd, hd', hd''⟩
      all_goals
        go_wp2_with fail
        refine wp_loop_rounds 1 ?_
        rw [rounds_succ]
        go_wp2_with fail
        go_ret
        exact ⟨_, [], q, 4, rfl, ⟨none, 0, rfl, Nat.le_refl _, Nat.zero_le _, fun _ => rfl, fun _ _ h => by simp at h⟩, hb2, hg2, by rw [HR.out], fun h => by cases h⟩
    · obtain ⟨m, rfl⟩ := Int.eq_ofNat_of_zero_le (show 0 ≤ n by omega)
      have hm : m ≤ 256 := by omega
      have HR := Lib.hid (getMaps_go HG.out hm)
      have hd : decide ((m : Int) < 0) = false := by simp
      have hd2 : decide (256 < (m : Int)) = false := by simp; omega
      clear hn
      obtain ⟨R, hR⟩ : ∃ R, R = getMaps s.data.toList p := ⟨_, rfl⟩
      rw [← hR] at HR
      have HRR := Lib.hid hR; clear hR
      have HS0 : Hid (RdM S w w1 g s q 0 (.slice none 0 0) []) := Lib.hid ⟨hb1, OwnM.nil _ _ _, hg1, hS, hgS⟩
      clear hb1 hg1 f2
      go_wp2_with fail
      clear c2
      go_loopw [4, 5] (fun lv i wr => ∃ (k : Nat) (p1 e1 : Int) (acc : List Mp), k ≤ m ∧ i = .int .i64 k ∧ acc.length ≤ k ∧ Hid (RdM S w wr g s p1 e1 lv acc) ∧ Hid (e1 = 0 ∧ finR p acc (getR s.data.toList (m - k) p1) = R ∨ e1 ≠ 0 ∧ R = ([], p, e1))) (fun _ i _ => m - (intOf i).toNat)
      case atStart => exact ⟨0, q, 0, [], by omega, rfl, by simp, HS0, Lib.hid (.inl ⟨rfl, by rw [Nat.sub_zero]; exact HR.out.symm⟩)⟩
      case round =>
        obtain ⟨k, p1, e1, acc, hk, rfl, hal, HS, HU⟩ := hrel
        clear HS0
        have c2 := HS.out.rd.at_ (i := 2) rfl
        obtain ⟨Av, nv, cv, rfl⟩ := HS.out.shape
        have hcase : (k < m ∧ e1 = 0) ∨ (k < m ∧ (e1 == 0) = false ∧ e1 ≠ 0) ∨ (m ≤ k ∧ e1 = 0) ∨ (m ≤ k ∧ e1 ≠ 0) := by
          by_cases h1 : k < m
          · by_cases h2 : e1 = 0
            · exact .inl ⟨h1, h2⟩
            · exact .inr (.inl ⟨h1, beq_eq_false_iff_ne.2 h2, h2⟩)
          · by_cases h2 : e1 = 0
            · exact .inr (.inr (.inl ⟨by omega, h2⟩))
            · exact .inr (.inr (.inr ⟨by omega, h2⟩))
        rcases hcase with ⟨hkm, rfl⟩ | ⟨hkm, hb0, he1⟩ | ⟨hkm, rfl⟩ | ⟨hkm, he1⟩
        · -- one more
          have HF : Hid (finR p acc (getR s.data.toList (m - k) p1) = R) := Lib.hid (by
            rcases HU.out with ⟨_, h⟩ | ⟨h, _⟩
            · exact h
            · exact absurd rfl h)
          obtain ⟨j, hj⟩ : ∃ j, m - k = j + 1 := ⟨m - k - 1, by omega⟩
          rw [hj] at HF
          have HJ : Hid (m - (k + 1) = j) := Lib.hid (by omega)
          clear HU hj
          have hnum := Lib.hid (number_ok wr g s p1 hs HS.out.rd)
          obtain ⟨c, q1, e1, hg⟩ : ∃ n q e, getInt s.data.toList p1 = (n, q, e) := ⟨_, _, _, rfl⟩
          rw [hg] at hnum
          simp only at hnum
          have HG1 := Lib.hid hg; clear hg
          go_wp2_with fail
          refine hnum.out.mono ?_
          rintro r w2 ⟨v, rfl, rfl, hb2, hg2⟩
          have HS2 := Lib.hid (HS.out.next hb2 hg2)
          clear hnum HS hb2 hg2 c2
          by_cases he1 : e1 = 0
          · subst he1
            have hlst := Lib.hid (list_ok w2 g s q1 hs HS2.out.rd)
            obtain ⟨xs, q2, e2, hg⟩ : ∃ n q e, getList s.data.toList q1 = (n, q, e) := ⟨_, _, _, rfl⟩
            rw [hg] at hlst
            simp only at hlst
            have HG2 := Lib.hid hg; clear hg
            go_wp2_with fail
            refine hlst.out.mono ?_
            rintro r w3 ⟨sv, rfl, ho3, hb3, hg3⟩
            obtain ⟨As, cs, rfl, _⟩ := id (Ints.of_own ho3)
            have HS3 := Lib.hid (HS2.out.next hb3 hg3)
            have HI3 : Hid (Ints (veil (S ++ (Value.slice Av nv cv).ownBlock.toList) (w3.alloc (.cells #[.int .i64 c, .slice As xs.length cs] 51))) (w3.alloc (.cells #[.int .i64 c, .slice As xs.length cs] 51)).heap.size .i64 (.slice As xs.length cs) xs) := Lib.hid (HS2.out.seq (ho3.alloc _) (Nat.le_refl _))
            have HSX := Lib.hid (HS3.out.alloc (.cells #[.int .i64 c, .slice As xs.length cs] 51))
            have HK := Lib.hid (Blk.new w3 51 #[.int .i64 c, .slice As xs.length cs])
            have hsz : w.heap.size ≤ (w3.alloc (.cells #[.int .i64 c, .slice As xs.length cs] 51)).heap.size := HSX.out.gr.size
            have HN : Hid (e2 = 0 ∧ finR p (acc ++ [(c, xs)]) (getR s.data.toList (m - (k + 1)) q2) = R ∨ e2 ≠ 0 ∧ R = ([], p, e2)) := Lib.hid (by
              rw [HJ.out]
              by_cases h2 : e2 = 0
              · subst h2
                exact .inl ⟨rfl, by rw [← HF.out, finR_go HG1.out HG2.out]⟩
              · exact .inr ⟨h2, by rw [← HF.out, finR_e2 HG1.out HG2.out h2]⟩)
            clear hlst ho3 hb3 hg3 HS2 HS3 HF
            go_wp2_with (at_builtin; refine wpList_append_map rfl (.tmp 36) (.tmp 42) rfl Tryz.underlying27 hi _ hz0 hz1 hz2 rfl S w.heap.size (.slice Av nv cv) acc w3.heap.size c (.slice As xs.length cs) xs rfl rfl HSX.out.own HK.out HI3.out (by omega) hsz ?_; intro v8 w8 hM8 hg8 _ hs8; have HS8 := Lib.hid (HSX.out.push hM8 hg8); clear hM8 hg8)
            go_roundw
            case rel => exact ⟨k + 1, q2, e2, acc ++ [(c, xs)], by omega, by go_num, by simp; omega, HS8, HN⟩
            case measure => simp [intOf]; omega
          · have hlst := Lib.hid (list_err w2 g s q1 e1 HS2.out.rd he1)
            go_wp2_with fail
            refine hlst.out.mono ?_
            rintro r w3 ⟨rfl, rfl⟩
            have HI3 : Hid (Ints (veil (S ++ (Value.slice Av nv cv).ownBlock.toList) (w2.alloc (.cells #[.int .i64 c, .slice none 0 0] 51))) (w2.alloc (.cells #[.int .i64 c, .slice none 0 0] 51)).heap.size .i64 (.slice none 0 0) []) := Lib.hid Ints.none_
            have HSX := Lib.hid (HS2.out.alloc (.cells #[.int .i64 c, .slice none 0 0] 51))
            have HK := Lib.hid (Blk.new w2 51 #[.int .i64 c, .slice none 0 0])
            have hsz : w.heap.size ≤ (w2.alloc (.cells #[.int .i64 c, .slice none 0 0] 51)).heap.size := HSX.out.gr.size
            have HN : Hid (e1 = 0 ∧ finR p (acc ++ [(c, [])]) (getR s.data.toList (m - (k + 1)) q1) = R ∨ e1 ≠ 0 ∧ R = ([], p, e1)) := Lib.hid (.inr ⟨he1, by rw [← HF.out, finR_e1 HG1.out he1]⟩)
            clear hlst HS2 HF
            go_wp2_with (at_builtin; refine wpList_append_map rfl (.tmp 36) (.tmp 42) rfl Tryz.underlying27 hi _ hz0 hz1 hz2 rfl S w.heap.size (.slice Av nv cv) acc w2.heap.size c (.slice none 0 0) [] rfl rfl HSX.out.own HK.out HI3.out (by omega) hsz ?_; intro v8 w8 hM8 hg8 _ hs8; have HS8 := Lib.hid (HSX.out.push hM8 hg8); clear hM8 hg8)
            go_roundw
            case rel => exact ⟨k + 1, q1, e1, acc ++ [(c, [])], by omega, by go_num, by simp; omega, HS8, HN⟩
            case measure => simp [intOf]; omega
        · have HF : Hid (R = ([], p, e1)) := Lib.hid (by
            rcases HU.out with ⟨h, _⟩ | ⟨_, h⟩
            · exact absurd h he1
            · exact h)
          go_wp2_with fail
          go_ret
          exact ⟨_, acc, p1, e1, rfl, HS.out.out, HS.out.rd, HS.out.gr, by rw [← HRR.out, HF.out], fun h => absurd h he1⟩
        · have HF : Hid (R = (acc, p1, 0)) := Lib.hid (by
            rcases HU.out with ⟨_, h⟩ | ⟨h, _⟩
            · rw [show m - k = 0 by omega, finR_end] at h; exact h.symm
            · exact absurd rfl h)
          go_wp2_with fail
          go_ret
          exact ⟨_, acc, p1, 0, rfl, HS.out.out, HS.out.rd, HS.out.gr, by rw [← HRR.out, HF.out], fun _ => by rw [← HRR.out, HF.out]⟩
        · have HF : Hid (R = ([], p, e1)) := Lib.hid (by
            rcases HU.out with ⟨h, _⟩ | ⟨_, h⟩
            · exact absurd h he1
            · exact h)
          go_wp2_with fail
          go_ret
          exact ⟨_, acc, p1, e1, rfl, HS.out.out, HS.out.rd, HS.out.gr, by rw [← HRR.out, HF.out], fun h => absurd h he1⟩
  · have HR := Lib.hid (getMaps_err HG.out he)
    have hn0 := herr he
    subst hn0
    have hne : (e == 0) = false := beq_eq_false_iff_ne.2 he
    clear herr
    go_wp2_with fail
    refine wp_loop_rounds 1 ?_
    rw [rounds_succ]
    go_wp2_with fail
    go_ret
    exact ⟨_, [], q, e, rfl, ⟨none, 0, rfl, Nat.le_refl _, Nat.zero_le _, fun _ => rfl, fun _ _ h => by simp at h⟩, hb1, hg1, by rw [HR.out], fun h => absurd h he⟩
end Go.Proofs.YtikcfoobfobmnaaGreatDoor
/-
  One read more of what Decode reads: the rest of the reading is a plain function of what has been read.
-/
namespace Go.Proofs.YtikcfoobfobmnaaGreatDoor
open Go.RowKit ND

/-- What is left to be read comes to R, or an error has been met. -/
def Left (e : Int) (c R : Tab × Int) : Prop := e = 0 ∧ c = R ∨ e ≠ 0 ∧ R = (noT, e)

theorem onlyIn.mapps {S : List Nat} {w W : World} {v : Value} {xs : List Mp} (h : Mapps (veil S w) w.heap.size v xs) (ho : onlyIn S w W) : Mapps W W.heap.size v xs := by
  have h1 := Mapps.later (w := veil S w) (by rw [veil_size]; exact h) ho.veiled
  rw [veil_size] at h1
  exact h1.unveil
theorem onlyIn.own {S : List Nat} {w W : World} {base : Nat} {e : TypeId} {size : Nat} {v : Value} {n : Nat} {xs : List Value} (h : w.ownsRow base e size v n xs) (hS : ∀ x ∈ S, x < base) (ho : onlyIn S w W) : W.ownsRow base e size v n xs := by
  refine ⟨h.1, ?_⟩
  rcases h.2 with hn | ⟨g, cap, cur, rfl, hb, hg, hrest⟩
  · exact .inl hn
  · exact .inr ⟨g, cap, cur, rfl, hb, (ho.2.2.2.2 g (fun hx => by have := hS g hx; omega) (Array.getElem?_eq_some_iff.1 hg).1).trans hg, hrest⟩
theorem own_shp {w : World} {base : Nat} {e : TypeId} {size : Nat} {v : Value} {n : Nat} {xs : List Value} (h : w.ownsRow base e size v n xs) : ∃ A c, v = .slice A n c := by
  rcases h.2 with ⟨rfl, h0⟩ | ⟨g, cap, cur, rfl, _⟩
  · exact ⟨none, 0, by rw [h0]⟩
  · exact ⟨_, _, rfl⟩

section
variable {S : List Nat} {w : World} {g : Nat} {s : ByteArray} {p e : Int} {n : Nat} {cs : List (List Sp)} {ms : List (List Mp)} {R : Tab × Int}
theorem spans_step (hS : ∀ x ∈ S, x < w.heap.size) (_hgS : g ∈ S) (hs : s.size ≤ maxLen) (hb : Blk w g 75 #[.string s, .int .i64 p, .int .i64 e]) (hu : Left e (contC s.data.toList (n + 1) p cs) R) :
    Calls Tryz.prog 36 #[.pointer (some ⟨g, 0, none⟩)] w fun r w' => ∃ A c xs p' e', r = .returned (.slice A xs.length c) ∧ (∀ W, onlyIn S w' W → Spans W W.heap.size (.slice A xs.length c) xs) ∧ Blk w' g 75 #[.string s, .int .i64 p', .int .i64 e'] ∧ w.grownBy w' (some g) ∧ Left e' (contC s.data.toList n p' (cs ++ [xs])) R := by
  rcases hu with ⟨rfl, hu⟩ | ⟨he, hu⟩
  · refine (spans_ok w g s p hs hb).mono ?_
    rintro r w' ⟨v, rfl, ho, hb', hg'⟩
    obtain ⟨xs, q, e', hg⟩ : ∃ xs q e', getSpans s.data.toList p = (xs, q, e') := ⟨_, _, _, rfl⟩
    rw [hg] at ho hb'
    simp only at ho hb'
    obtain ⟨A, c, rfl⟩ := own_shp ho
    refine ⟨A, c, xs, q, e', rfl, fun W hW => Spans.of_own (onlyIn.own ho hS hW), hb', hg', ?_⟩
    by_cases he : e' = 0
    · subst he
      exact .inl ⟨rfl, by rw [← hu, contC_go hg]⟩
    · exact .inr ⟨he, by rw [← hu, contC_err hg he]⟩
  · refine (spans_err w g s p e hb he).mono ?_
    rintro r w' ⟨rfl, rfl⟩
    exact ⟨none, 0, [], p, e, rfl, fun W _ => Spans.none_, hb, grown_refl _ _, .inr ⟨he, hu⟩⟩
theorem mappings_step (hS : ∀ x ∈ S, x < w.heap.size) (hgS : g ∈ S) (hs : s.size ≤ maxLen) (hb : Blk w g 75 #[.string s, .int .i64 p, .int .i64 e]) (hu : Left e (contM s.data.toList (n + 1) p cs ms) R) :
    Calls Tryz.prog 37 #[.pointer (some ⟨g, 0, none⟩)] w fun r w' => ∃ A c xs p' e', r = .returned (.slice A xs.length c) ∧ (∀ W, onlyIn S w' W → Mapps W W.heap.size (.slice A xs.length c) xs) ∧ Blk w' g 75 #[.string s, .int .i64 p', .int .i64 e'] ∧ w.grownBy w' (some g) ∧ Left e' (contM s.data.toList n p' cs (ms ++ [xs])) R := by
  rcases hu with ⟨rfl, hu⟩ | ⟨he, hu⟩
  · refine (mappings_ok S w g s p hs hS hgS hb).mono ?_
    rintro r w' ⟨v, xs, q, e', rfl, ho, hb', hg', h1, h2⟩
    obtain ⟨A, c, rfl, _⟩ := id ho
    refine ⟨A, c, xs, q, e', rfl, fun W hW => hW.mapps ho, hb', hg', ?_⟩
    by_cases he : e' = 0
    · exact .inl ⟨he, by rw [← hu, contM_go (h2 he)]⟩
    · obtain ⟨xs', q', e2, hg⟩ : ∃ xs q e', getMaps s.data.toList p = (xs, q, e') := ⟨_, _, _, rfl⟩
      rw [hg] at h1
      simp only at h1
      subst h1
      exact .inr ⟨he, by rw [← hu, contM_err hg he]⟩
  · refine (mappings_err w g s p e hb he).mono ?_
    rintro r w' ⟨rfl, rfl⟩
    exact ⟨none, 0, [], p, e, rfl, fun W _ => ⟨none, 0, rfl, Nat.le_refl _, Nat.zero_le _, fun _ => rfl, fun _ _ h => by simp at h⟩, hb, grown_refl _ _, .inr ⟨he, hu⟩⟩
theorem list_step (hS : ∀ x ∈ S, x < w.heap.size) (_hgS : g ∈ S) (hs : s.size ≤ maxLen) (hb : Blk w g 75 #[.string s, .int .i64 p, .int .i64 e]) (hu : Left e (contX s.data.toList p cs ms) R) :
    Calls Tryz.prog 38 #[.pointer (some ⟨g, 0, none⟩)] w fun r w' => ∃ A c xs p' e', r = .returned (.slice A xs.length c) ∧ (∀ W, onlyIn S w' W → Ints W W.heap.size .i64 (.slice A xs.length c) xs) ∧ Blk w' g 75 #[.string s, .int .i64 p', .int .i64 e'] ∧ w.grownBy w' (some g) ∧ Left e' (contS s.data.toList p' (mkT cs ms xs)) R ∧ (e' = 0 → ∃ b : Nat, p' = b ∧ b ≤ s.size) := by
  rcases hu with ⟨rfl, hu⟩ | ⟨he, hu⟩
  · refine (list_ok w g s p hs hb).mono ?_
    rintro r w' ⟨v, rfl, ho, hb', hg'⟩
    obtain ⟨xs, q, e', hg⟩ : ∃ xs q e', getList s.data.toList p = (xs, q, e') := ⟨_, _, _, rfl⟩
    rw [hg] at ho hb'
    simp only at ho hb'
    obtain ⟨A, c, rfl⟩ := own_shp ho
    refine ⟨A, c, xs, q, e', rfl, fun W hW => Ints.of_own (onlyIn.own ho hS hW), hb', hg', ?_, fun he => ?_⟩
    · by_cases he : e' = 0
      · subst he
        exact .inl ⟨rfl, by rw [← hu, contX_go hg]⟩
      · exact .inr ⟨he, by rw [← hu, contX_err hg he]⟩
    · subst he
      obtain ⟨_, b, _, eb, _, hle, _⟩ := getList_back hg
      exact ⟨b, eb, by rw [sz_list] at hle; exact hle⟩
  · refine (list_err w g s p e hb he).mono ?_
    rintro r w' ⟨rfl, rfl⟩
    exact ⟨none, 0, [], p, e, rfl, fun W _ => Ints.none_, hb, grown_refl _ _, .inr ⟨he, hu⟩, fun h => absurd h he⟩
end
end Go.Proofs.YtikcfoobfobmnaaGreatDoor
