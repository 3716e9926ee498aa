/-
  Merged texts: lemmas and walks that the last text of this claim leans on.
-/
import Derived.Test.YtikcfoobfobmnaaDoorMgB734
import Derived.Test.YtikcfoobfobmnaaDoorMgB725
import Derived.Test.YtikcfoobfobmnaaDoorMgB710
import Derived.Test.YtikcfoobfobmnaaDoorMgB76
import Derived.Test.YtikcfoobfobmnaaDoorMgB730
import Derived.Test.YtikcfoobfobmnaaDoorMgB728
import Derived.Test.YtikcfoobfobmnaaDoorMgB729
import Derived.Test.YtikcfoobfobmnaaDoorMgB722
import Derived.Test.YtikcfoobfobmnaaDoorMgB727
import Derived.Test.YtikcfoobfobmnaaDoorMgB720
import Derived.Test.YtikcfoobfobmnaaDoorMgB715
import Derived.Test.YtikcfoobfobmnaaDoorMgB731
import Derived.Test.YtikcfoobfobmnaaDoorMgB716
import Derived.Deep.CutBlock
/-
  The walk through namedesk/table.Encode: it writes the encoding of whatever tables.
-/
namespace Go.Proofs.YtikcfoobfobmnaaDoor
open Go.RowKit ND

set_option maxRecDepth 100000 in
set_option maxHeartbeats 4000000 in
theorem encode_any (t : Tv) (T : Tab) (w : World) (ht : TabR w w.heap.size t T) (hg : Glob w) :
    Calls Tryd.prog 7 #[t.val] w (RetPut w (encTR T)) := by
  obtain ⟨A0, A1, A2, A3, A4, A5, A6, A7, A8, A9, A10, A11, k0, k1, k2, k3, k4, k5, k6, k7, k8, k9, k10, k11, rfl⟩ := ht.shape
  have HR := Lib.hid (fun o : Obj => ht.later ((Below.refl _ _).alloc (Nat.le_refl _) o))
  have HGL := Lib.hid (fun o : Obj => hg.later ((Below.refl _ _).alloc (Nat.le_refl _) o))
  clear ht hg
  go_enter Tryd.func7, Tryd.ntmps7
  go_wp2_with fail
  refine (check_table _ T _ (HR.out _) (HGL.out _)).mono ?_
  rintro e w1 ⟨rfl, b1⟩
  have HB := Lib.hid ((Blk.new w 26 _).later b1)
  have HT := Lib.hid ((HR.out _).later b1)
  have hbel1 := below_next ((Below.refl _ _).alloc (Nat.le_refl _) _) b1
  clear b1 HR HGL
  by_cases hck : T.check = 0
  case neg =>
    have HCK := Lib.hid hck
    have hne : (T.check != 0) = true := bne_iff_ne.2 hck
    clear hck
    go_wp2_with fail
    go_ret2
    rw [encTR_bad HCK.out]
    exact ⟨rfl, hbel1⟩
  have HCK := Lib.hid hck
  have HMO := Lib.hid (mps_ok hck)
  have HEX := Lib.hid (exc_ok hck).1
  have hne : (T.check != 0) = false := by rw [hck]; rfl
  clear hck
  obtain ⟨x0, x1, x2, x3, x4, x5, x6, x7, x8, x9, x10, x11⟩ := HB.out.tab
  go_wp2_with fail
  refine (columns_any _ T _ HT.out).mono ?_
  rintro e w2 ⟨ad, rfl, hc, b2⟩
  have HC := Lib.hid hc.2
  have hca := hc.1
  have hbel2 := below_next hbel1 b2
  have HB2 := Lib.hid (HB.out.later b2)
  have HT2 := Lib.hid (HT.out.later b2)
  clear hc b2 HB HT hbel1 hne x0 x1 x2 x3 x4 x5 x6 x7 x8 x9 x10 x11
  go_wp2_with fail
  go_loopw [4, 17] (fun sv i wr => ∃ (k : Nat) (S : ByteArray), k ≤ 7 ∧ i = .int .i64 k ∧ sv = .string S ∧ S.size ≤ 4 + 7690 * k ∧ Hid (S.data.toList = encCols magicL ((T.cols.take k).map (·.1))) ∧ Below w2.heap.size w2 wr) (fun _ i _ => 7 - (intOf i).toNat)
  case atStart => exact ⟨0, _, by omega, rfl, rfl, by decide, Lib.hid rfl, Below.refl _ _⟩
  case round =>
    obtain ⟨k, S, hk, rfl, rfl, hS, HS, hbel⟩ := hrel
    by_cases hlt : k < 7
    · obtain ⟨⟨l, lo, hi⟩, hxk, _⟩ := get_el (xs := T.cols) (k := k) hlt
      obtain ⟨v, d0, d1, d2, hv⟩ := HC.out k _ hxk
      simp only at d0 d1 d2 hv
      obtain ⟨A, c, rfl, hc1, hc2, _, _⟩ := id hv
      obtain ⟨e0, e1, e2⟩ := span_cells hbel hca d0 d1 d2
      have HV := Lib.hid (hv.later (hbel.alloc hbel.size (.cells #[.slice A l.length c, .int .i64 lo, .int .i64 hi] 59)))
      have hb2 := hbel.alloc hbel.size (.cells #[.slice A l.length c, .int .i64 lo, .int .i64 hi] 59)
      have HBC := Lib.hid (Blk.new wr 59 #[.slice A l.length c, .int .i64 lo, .int .i64 hi])
      have HX := Lib.hid hxk
      clear d0 d1 d2 hxk hv hc1 hc2
      have q0 : (0 : Int) ≤ (k : Int) := by omega
      have q1 : (k : Int) < (7 : Int) := by omega
      clear HB2 HT2 hbel2
      obtain ⟨S', hS'⟩ : ∃ S' : ByteArray, S' = ⟨(putSpans S.data.toList l).1.toArray⟩ := ⟨_, rfl⟩
      have hl' : S'.data.toList = (putSpans S.data.toList l).1 := by rw [hS']
      have hsz : S'.size ≤ S.size + 7690 := by
        have h1 := putSpans_lenT S.data.toList l
        rw [← hl', sz_list, sz_list] at h1
        omega
      have HN : Hid (S'.data.toList = encCols magicL ((T.cols.take (k + 1)).map (·.1))) := Lib.hid (by rw [hl', HS.out, encCols_step HX.out])
      have HP := Lib.hid (fun W h => putSpans_any S (.slice A l.length c) l W h (by omega))
      unfold RetPut at HP
      rw [← hS'] at HP
      generalize (putSpans S.data.toList l).2 = er at HP
      clear hS' hl'
      go_wp2_with fail
      refine (HP.out _ HV.out).mono ?_
      rintro e w3 ⟨rfl, b3⟩
      have hb3 := below_next hb2 b3
      clear b3 hb2 HP HV
      go_wp2_with fail
      go_roundw
      case rel => exact ⟨k + 1, S', by omega, by go_num, rfl, by omega, HN, hb3⟩
      case measure => simp [intOf]; omega
    · obtain rfl : k = 7 := by omega
      have HE : Hid (S.data.toList = encCol T) := Lib.hid HS.out
      have hS1 : S.size ≤ 53834 := by omega
      have HB3 := Lib.hid (HB2.out.later hbel)
      have HT3 := Lib.hid (HT2.out.later hbel)
      have hbel3 := below_next hbel2 hbel
      obtain ⟨x0, x1, x2, x3, x4, x5, x6, x7, x8, x9, x10, x11⟩ := HB3.out.tab
      clear HS HC hca HB2 HT2 hbel2 hbel hS hlt hk
      go_wp2_with fail
      refine (mappings_any _ T _ HT3.out).mono ?_
      rintro e w4 ⟨am, rfl, hm, b4⟩
      have HM := Lib.hid hm.2
      have hma := hm.1
      have HB4 := Lib.hid (HB3.out.later b4)
      have HT4 := Lib.hid (HT3.out.later b4)
      have hbel4 := below_next hbel3 b4
      clear hm b4 HB3 HT3 hbel3 x0 x1 x2 x3 x4 x5 x6 x7 x8 x9 x10 x11
      go_wp2_with fail
      go_loopw [4, 32] (fun sv i wr => ∃ (k : Nat) (S : ByteArray), k ≤ 4 ∧ i = .int .i64 k ∧ sv = .string S ∧ S.size ≤ 60000 + 10498600 * k ∧ Hid (S.data.toList = encMps (encCol T) (T.mps.take k)) ∧ Below w4.heap.size w4 wr) (fun _ i _ => 4 - (intOf i).toNat)
      case atStart => exact ⟨0, S, by omega, rfl, rfl, by omega, Lib.hid HE.out, Below.refl _ _⟩
      case round =>
        obtain ⟨k, S, hk, rfl, rfl, hS, HS, hbel⟩ := hrel
        clear HE hS1
        by_cases hlt : k < 4
        · obtain ⟨ms, hxk, hmm⟩ := get_el (xs := T.mps) (k := k) hlt
          obtain ⟨v, d0, hv⟩ := HM.out k _ hxk
          obtain ⟨hml, hrow⟩ := HMO.out ms hmm
          obtain ⟨A, c, rfl, hc1, hc2, _, hcell⟩ := hv
          have HCE := Lib.hid hcell
          have HROW := Lib.hid hrow
          have HX := Lib.hid hxk
          have e0 := (hbel.cell (p := am.add k) (by rw [block_of_add]; exact hma)).trans d0
          have q0 : (0 : Int) ≤ (k : Int) := by omega
          have q1 : (k : Int) < (4 : Int) := by omega
          clear hcell hrow hxk hmm d0 hc1 hc2 HB4 HT4 hbel4
          obtain ⟨S', hS'⟩ : ∃ S' : ByteArray, S' = ⟨(putInt S.data.toList (ms.length : Int)).toArray⟩ := ⟨_, rfl⟩
          have hl' : S'.data.toList = putInt S.data.toList (ms.length : Int) := by rw [hS']
          have hsz : S'.size ≤ S.size + 10 := by
            have h1 := putInt_len S.data.toList (ms.length : Int)
            rw [← hl', sz_list, sz_list] at h1
            omega
          have HN : Hid (S'.data.toList = putInt (encMps (encCol T) (T.mps.take k)) (ms.length : Int)) := Lib.hid (by rw [hl', HS.out])
          have HP := Lib.hid (fun W => putInt_any S (ms.length : Int) W (by omega) (by omega) (by omega))
          rw [← hS'] at HP
          clear hS' hl' HS
          go_wp2_with fail
          refine (HP.out _).mono ?_
          rintro e w5 ⟨rfl, b5⟩
          have hb5 := below_next hbel b5
          clear b5 hbel HP e0
          go_wp2_with fail
          go_loopw [4, 42] (fun sv i wj => ∃ (j : Nat) (S : ByteArray), j ≤ ms.length ∧ i = .int .i64 j ∧ sv = .string S ∧ S.size ≤ 60000 + 10498600 * k + 10 + 41010 * j ∧ Hid (S.data.toList = (ms.take j).foldl encRow (putInt (encMps (encCol T) (T.mps.take k)) (ms.length : Int))) ∧ Below w4.heap.size w4 wj) (fun _ i _ => ms.length - (intOf i).toNat)
          case atStart => exact ⟨0, S', by omega, rfl, rfl, by omega, Lib.hid HN.out, hb5⟩
          case round =>
            obtain ⟨j, S2, hj, rfl, rfl, hS2, HS2, hbelj⟩ := hrel
            clear HN hb5 hsz
            by_cases hjl : j < ms.length
            · obtain ⟨⟨f, tl⟩, hxj, hjm⟩ := get_el hjl
              obtain ⟨aj, sv, rfl, ha, d0, d1, hints⟩ := HCE.out j _ hxj
              simp only at d0 d1 hints
              obtain ⟨A', c', rfl, hc1, hc2, _, _⟩ := id hints
              obtain ⟨e0, e1⟩ := map_cells hbelj ha d0 d1
              obtain ⟨⟨hf0, hf1⟩, htl, _⟩ := HROW.out _ hjm
              simp only at hf0 hf1 htl
              have HXj := Lib.hid hxj
              have HI := Lib.hid (hints.later hbelj)
              clear d0 d1 hxj hjm ha hints hc1 hc2
              have r0 : (0 : Int) ≤ (j : Int) := by omega
              have r1 : (j : Int) < (ms.length : Int) := by omega
              obtain ⟨S3, hS3⟩ : ∃ S3 : ByteArray, S3 = ⟨(putInt S2.data.toList f).toArray⟩ := ⟨_, rfl⟩
              have hl3 : S3.data.toList = putInt S2.data.toList f := by rw [hS3]
              have hsz3 : S3.size ≤ S2.size + 10 := by
                have h1 := putInt_len S2.data.toList f
                rw [← hl3, sz_list, sz_list] at h1
                omega
              obtain ⟨S4, hS4⟩ : ∃ S4 : ByteArray, S4 = ⟨(putList S3.data.toList tl).1.toArray⟩ := ⟨_, rfl⟩
              have hl4 : S4.data.toList = (putList S3.data.toList tl).1 := by rw [hS4]
              have hsz4 : S4.size ≤ S3.size + 40970 := by
                have h1 := putList_lenT S3.data.toList tl
                rw [← hl4, sz_list, sz_list] at h1
                omega
              have HN : Hid (S4.data.toList = (ms.take (j + 1)).foldl encRow (putInt (encMps (encCol T) (T.mps.take k)) (ms.length : Int))) := Lib.hid (by rw [hl4, hl3, HS2.out, foldl_snoc HXj.out]; rfl)
              have HPI := Lib.hid (fun W => putInt_any S2 f W (by omega) hf0 hf1)
              rw [← hS3] at HPI
              have HPL := Lib.hid (fun W h => putList_any S3 (.slice A' tl.length c') tl W h (by omega))
              unfold RetPut at HPL
              rw [← hS4] at HPL
              generalize (putList S3.data.toList tl).2 = er at HPL
              clear hS3 hl3 hS4 hl4 HS2 hf0 hf1
              go_wp2_with fail
              have HI2 := Lib.hid (HI.out.later ((Below.refl _ _).alloc (Nat.le_refl _) (.cells #[.int .i64 f, .slice A' tl.length c'] 53)))
              have hbA := hbelj.alloc hbelj.size (.cells #[.int .i64 f, .slice A' tl.length c'] 53)
              have HBC := Lib.hid (Blk.new wr 53 #[.int .i64 f, .slice A' tl.length c'])
              generalize wr.alloc (.cells #[.int .i64 f, .slice A' tl.length c'] 53) = wA at *
              clear e0 e1 HI hbelj
              have m0 := cell_regrown (HBC.out.at_ (i := 0) (u := .int .i64 f) rfl)
              have m1 := cell_regrown (HBC.out.at_ (i := 1) (u := .slice A' tl.length c') rfl)
              refine wp_region_quiet_below (by kernel_rfl) (by kernel_rfl) ?_
              repeat (go_big_quiet_step (first | (go_at_call 27; exact quiet_t (fun W hW => HPL.out W (HI2.out.later hW))) | (go_at_call 26; exact quiet_t (fun W _ => HPI.out W))))
              refine wpQuiet_nil ?_
              rintro _ ⟨⟨dq, osq⟩, rfl⟩
              have hb9 := below_next hbA (below_regrown wA dq osq)
              generalize Go.Sort.grow (redrawn wA dq) osq = wB at *
              clear m0 m1 HBC HPI HPL HI2 hbA
              go_wp2_with fail
              go_roundw
              case rel => exact ⟨j + 1, S4, by omega, by go_num, rfl, by omega, HN, hb9⟩
              case measure => simp [intOf]; omega
            · obtain rfl : j = ms.length := by omega
              have HN : Hid (S2.data.toList = encMps (encCol T) (T.mps.take (k + 1))) := Lib.hid (by rw [HS2.out, List.take_length, encMps_step HX.out])
              go_wp2_with fail
              go_roundw
              case rel => exact ⟨k + 1, S2, by omega, by go_num, rfl, by omega, HN, hbelj⟩
              case measure => simp [intOf]; omega
        · obtain rfl : k = 4 := by omega
          have hbel5 := below_next hbel4 hbel
          have y10 := (HB4.out.later hbel).at_ (i := 10) rfl
          have HX10 := Lib.hid (HT4.out.later hbel).r10
          have hexl := HEX.out
          clear HM hma HB4 HT4 hbel4 hbel HMO hlt hk
          simp only at HX10
          obtain ⟨S5, hS5⟩ : ∃ S5 : ByteArray, S5 = ⟨(putList S.data.toList T.excluded).1.toArray⟩ := ⟨_, rfl⟩
          have hl5 : S5.data.toList = (putList S.data.toList T.excluded).1 := by rw [hS5]
          have hsz5 : S5.size ≤ S.size + 40970 := by
            have h1 := putList_lenT S.data.toList T.excluded
            rw [← hl5, sz_list, sz_list] at h1
            omega
          have HN5 : Hid (S5.data.toList = encBody T) := Lib.hid (by rw [hl5, HS.out]; rfl)
          have HPL := Lib.hid (fun W h => putList_any S (.slice A10 T.excluded.length k10) T.excluded W h (by omega))
          unfold RetPut at HPL
          rw [← hS5] at HPL
          generalize (putList S.data.toList T.excluded).2 = er at HPL
          clear hS5 hl5 HS
          have hsl := sumL_lt S5.data.toList
          have HSU := Lib.hid (fun W => sum_any S5 W (by unfold maxLen; omega))
          obtain ⟨su, hsu⟩ : ∃ su, su = sumL S5.data.toList := ⟨_, rfl⟩
          rw [← hsu] at hsl HSU
          obtain ⟨S7, hS7⟩ : ∃ S7 : ByteArray, S7 = ⟨(putInt S5.data.toList (su : Int)).toArray⟩ := ⟨_, rfl⟩
          have hl7 : S7.data.toList = putInt S5.data.toList (su : Int) := by rw [hS7]
          have HA : Hid (S7.data.toList = encAllT T) := Lib.hid (by rw [hl7, hsu, HN5.out]; rfl)
          have hsz7 : S7.size ≤ S5.size + 10 := by
            have h1 := putInt_len S5.data.toList (su : Int)
            rw [← hl7, sz_list, sz_list] at h1
            omega
          have HPI := Lib.hid (fun W => putInt_any S5 (su : Int) W (by omega) (by omega) (by omega))
          rw [← hS7] at HPI
          have hal : (encAllT T).length = S7.size := by rw [← HA.out, sz_list]
          have HAL := Lib.hid hal
          clear hS7 hl7 hsu hal
          go_wp2_with fail
          refine (HPL.out _ HX10.out).mono ?_
          rintro e w5 ⟨rfl, b5⟩
          have B5 := below_next hbel5 b5
          clear b5 HPL HX10 y10 hbel5
          go_wp2_with fail
          refine (HSU.out _).mono ?_
          rintro e w6 ⟨rfl, b6⟩
          have B6 := below_next B5 b6
          go_wp2_with fail
          refine (HPI.out _).mono ?_
          rintro e w7 ⟨rfl, b7⟩
          have B7 := below_next B6 b7
          clear b7 HSU HPI
          have hcase : 32768 < S7.size ∨ S7.size ≤ 32768 := by omega
          rcases hcase with hbig | hbig
          · go_wp2_with fail
            go_ret2
            rw [encTR_full HCK.out (by rw [HAL.out]; exact hbig)]
            exact ⟨rfl, B7⟩
          · go_wp2_with fail
            go_ret2
            rw [encTR_ok HCK.out (by rw [HAL.out]; exact hbig)]
            refine ⟨?_, B7⟩
            have hb : S7 = ⟨(encAllT T).toArray⟩ := ByteArray.ext (Array.toList_inj.1 HA.out)
            show _ = Ending.returned (.tuple #[.string ⟨(encAllT T).toArray⟩, .int .i64 0])
            rw [← hb]
            rfl
end Go.Proofs.YtikcfoobfobmnaaDoor
/-
  The walk through namedesk/namedeskref4.Encode: it writes the encoding of whatever tables.
-/
namespace Go.Proofs.YtikcfoobfobmnaaDoor
open Go.RowKit ND

set_option maxRecDepth 100000 in
set_option maxHeartbeats 4000000 in
theorem refEncode_any (t : Tv) (T : Tab) (w : World) (ht : TabR w w.heap.size t T) :
    Calls Tryd.prog 8 #[t.val] w (RetPut w (encTR T)) := by
  obtain ⟨A0, A1, A2, A3, A4, A5, A6, A7, A8, A9, A10, A11, k0, k1, k2, k3, k4, k5, k6, k7, k8, k9, k10, k11, rfl⟩ := ht.shape
  have HR := Lib.hid (fun o : Obj => ht.later ((Below.refl _ _).alloc (Nat.le_refl _) o))
  clear ht
  go_enter Tryd.func8, Tryd.ntmps8
  go_wp2_with fail
  refine (check_ref _ T _ (HR.out _)).mono ?_
  rintro e w1 ⟨rfl, b1⟩
  have HB := Lib.hid ((Blk.new w 26 _).later b1)
  have HT := Lib.hid ((HR.out _).later b1)
  have hbel1 := below_next ((Below.refl _ _).alloc (Nat.le_refl _) _) b1
  clear b1 HR
  by_cases hck : T.check = 0
  case neg =>
    have HCK := Lib.hid hck
    have hne : (T.check != 0) = true := bne_iff_ne.2 hck
    clear hck
    go_wp2_with fail
    go_ret2
    rw [encTR_bad HCK.out]
    exact ⟨rfl, hbel1⟩
  have HCK := Lib.hid hck
  have HMO := Lib.hid (mps_ok hck)
  have HEX := Lib.hid (exc_ok hck).1
  have hne : (T.check != 0) = false := by rw [hck]; rfl
  clear hck
  obtain ⟨x0, x1, x2, x3, x4, x5, x6, x7, x8, x9, x10, x11⟩ := HB.out.tab
  go_wp2_with fail
  refine (refSpans_any _ T _ HT.out).mono ?_
  rintro e w2 ⟨ad, am_, rfl, hc, _, b2⟩
  have HC := Lib.hid hc.2
  have hca := hc.1
  have hbel2 := below_next hbel1 b2
  have HB2 := Lib.hid (HB.out.later b2)
  have HT2 := Lib.hid (HT.out.later b2)
  clear hc b2 HB HT hbel1 hne x0 x1 x2 x3 x4 x5 x6 x7 x8 x9 x10 x11
  go_wp2_with fail
  go_loopw [4, 24] (fun sv i wr => ∃ (k : Nat) (S : ByteArray), k ≤ 7 ∧ i = .int .i64 k ∧ sv = .string S ∧ S.size ≤ 4 + 7690 * k ∧ Hid (S.data.toList = encCols magicL ((T.cols.take k).map (·.1))) ∧ Below w2.heap.size w2 wr) (fun _ i _ => 7 - (intOf i).toNat)
  case atStart => exact ⟨0, _, by omega, rfl, rfl, by decide, Lib.hid rfl, Below.refl _ _⟩
  case round =>
    obtain ⟨k, S, hk, rfl, rfl, hS, HS, hbel⟩ := hrel
    by_cases hlt : k < 7
    · obtain ⟨⟨l, lo, hi⟩, hxk, _⟩ := get_el (xs := T.cols) (k := k) hlt
      obtain ⟨v, d0, hv⟩ := HC.out k _ hxk
      simp only at d0 hv
      obtain ⟨A, c, rfl, hc1, hc2, _, _⟩ := id hv
      have e0 := (hbel.cell (p := ad.add k) (by rw [block_of_add]; exact hca)).trans d0
      have HV := Lib.hid (hv.later hbel)
      have hb2 := hbel
      have HX := Lib.hid hxk
      clear d0 hxk hv hc1 hc2
      have q0 : (0 : Int) ≤ (k : Int) := by omega
      have q1 : (k : Int) < (7 : Int) := by omega
      clear HB2 HT2 hbel2
      obtain ⟨S', hS'⟩ : ∃ S' : ByteArray, S' = ⟨(putSpans S.data.toList l).1.toArray⟩ := ⟨_, rfl⟩
      have hl' : S'.data.toList = (putSpans S.data.toList l).1 := by rw [hS']
      have hsz : S'.size ≤ S.size + 7690 := by
        have h1 := putSpans_lenT S.data.toList l
        rw [← hl', sz_list, sz_list] at h1
        omega
      have HN : Hid (S'.data.toList = encCols magicL ((T.cols.take (k + 1)).map (·.1))) := Lib.hid (by rw [hl', HS.out, encCols_step HX.out])
      have HP := Lib.hid (fun W h => refPutSpans_any S (.slice A l.length c) l W h (by omega))
      unfold RetPut at HP
      rw [← hS'] at HP
      generalize (putSpans S.data.toList l).2 = er at HP
      clear hS' hl'
      go_wp2_with fail
      refine (HP.out _ HV.out).mono ?_
      rintro e w3 ⟨rfl, b3⟩
      have hb3 := below_next hb2 b3
      clear b3 hb2 HP HV
      go_wp2_with fail
      go_roundw
      case rel => exact ⟨k + 1, S', by omega, by go_num, rfl, by omega, HN, hb3⟩
      case measure => simp [intOf]; omega
    · obtain rfl : k = 7 := by omega
      have HE : Hid (S.data.toList = encCol T) := Lib.hid HS.out
      have hS1 : S.size ≤ 53834 := by omega
      have HB3 := Lib.hid (HB2.out.later hbel)
      have HT3 := Lib.hid (HT2.out.later hbel)
      have hbel3 := below_next hbel2 hbel
      obtain ⟨x0, x1, x2, x3, x4, x5, x6, x7, x8, x9, x10, x11⟩ := HB3.out.tab
      clear HS HC hca HB2 HT2 hbel2 hbel hS hlt hk
      go_wp2_with fail
      refine (refMappings_any _ T _ HT3.out).mono ?_
      rintro e w4 ⟨am, rfl, hm, b4⟩
      have HM := Lib.hid hm.2
      have hma := hm.1
      have HB4 := Lib.hid (HB3.out.later b4)
      have HT4 := Lib.hid (HT3.out.later b4)
      have hbel4 := below_next hbel3 b4
      clear hm b4 HB3 HT3 hbel3 x0 x1 x2 x3 x4 x5 x6 x7 x8 x9 x10 x11
      go_wp2_with fail
      go_loopw [4, 39] (fun sv i wr => ∃ (k : Nat) (S : ByteArray), k ≤ 4 ∧ i = .int .i64 k ∧ sv = .string S ∧ S.size ≤ 60000 + 10498600 * k ∧ Hid (S.data.toList = encMps (encCol T) (T.mps.take k)) ∧ Below w4.heap.size w4 wr) (fun _ i _ => 4 - (intOf i).toNat)
      case atStart => exact ⟨0, S, by omega, rfl, rfl, by omega, Lib.hid HE.out, Below.refl _ _⟩
      case round =>
        obtain ⟨k, S, hk, rfl, rfl, hS, HS, hbel⟩ := hrel
        clear HE hS1
        by_cases hlt : k < 4
        · obtain ⟨ms, hxk, hmm⟩ := get_el (xs := T.mps) (k := k) hlt
          obtain ⟨v, d0, hv⟩ := HM.out k _ hxk
          obtain ⟨hml, hrow⟩ := HMO.out ms hmm
          obtain ⟨A, c, rfl, hc1, hc2, _, hcell⟩ := hv
          have HCE := Lib.hid hcell
          have HROW := Lib.hid hrow
          have HX := Lib.hid hxk
          have e0 := (hbel.cell (p := am.add k) (by rw [block_of_add]; exact hma)).trans d0
          have q0 : (0 : Int) ≤ (k : Int) := by omega
          have q1 : (k : Int) < (4 : Int) := by omega
          clear hcell hrow hxk hmm d0 hc1 hc2 HB4 HT4 hbel4
          obtain ⟨S', hS'⟩ : ∃ S' : ByteArray, S' = ⟨(putInt S.data.toList (ms.length : Int)).toArray⟩ := ⟨_, rfl⟩
          have hl' : S'.data.toList = putInt S.data.toList (ms.length : Int) := by rw [hS']
          have hsz : S'.size ≤ S.size + 10 := by
            have h1 := putInt_len S.data.toList (ms.length : Int)
            rw [← hl', sz_list, sz_list] at h1
            omega
          have HN : Hid (S'.data.toList = putInt (encMps (encCol T) (T.mps.take k)) (ms.length : Int)) := Lib.hid (by rw [hl', HS.out])
          have HP := Lib.hid (fun W => refPutInt_any S (ms.length : Int) W (by omega) (by omega) (by omega))
          rw [← hS'] at HP
          clear hS' hl' HS
          go_wp2_with fail
          refine (HP.out _).mono ?_
          rintro e w5 ⟨rfl, b5⟩
          have hb5 := below_next hbel b5
          clear b5 hbel HP e0
          go_wp2_with fail
          go_loopw [4, 49] (fun sv i wj => ∃ (j : Nat) (S : ByteArray), j ≤ ms.length ∧ i = .int .i64 j ∧ sv = .string S ∧ S.size ≤ 60000 + 10498600 * k + 10 + 41010 * j ∧ Hid (S.data.toList = (ms.take j).foldl encRow (putInt (encMps (encCol T) (T.mps.take k)) (ms.length : Int))) ∧ Below w4.heap.size w4 wj) (fun _ i _ => ms.length - (intOf i).toNat)
          case atStart => exact ⟨0, S', by omega, rfl, rfl, by omega, Lib.hid HN.out, hb5⟩
          case round =>
            obtain ⟨j, S2, hj, rfl, rfl, hS2, HS2, hbelj⟩ := hrel
            clear HN hb5 hsz
            by_cases hjl : j < ms.length
            · obtain ⟨⟨f, tl⟩, hxj, hjm⟩ := get_el hjl
              obtain ⟨aj, sv, rfl, ha, d0, d1, hints⟩ := HCE.out j _ hxj
              simp only at d0 d1 hints
              obtain ⟨A', c', rfl, hc1, hc2, _, _⟩ := id hints
              obtain ⟨e0, e1⟩ := map_cells hbelj ha d0 d1
              obtain ⟨⟨hf0, hf1⟩, htl, _⟩ := HROW.out _ hjm
              simp only at hf0 hf1 htl
              have HXj := Lib.hid hxj
              have HI := Lib.hid (hints.later hbelj)
              clear d0 d1 hxj hjm ha hints hc1 hc2
              have r0 : (0 : Int) ≤ (j : Int) := by omega
              have r1 : (j : Int) < (ms.length : Int) := by omega
              obtain ⟨S3, hS3⟩ : ∃ S3 : ByteArray, S3 = ⟨(putInt S2.data.toList f).toArray⟩ := ⟨_, rfl⟩
              have hl3 : S3.data.toList = putInt S2.data.toList f := by rw [hS3]
              have hsz3 : S3.size ≤ S2.size + 10 := by
                have h1 := putInt_len S2.data.toList f
                rw [← hl3, sz_list, sz_list] at h1
                omega
              obtain ⟨S4, hS4⟩ : ∃ S4 : ByteArray, S4 = ⟨(putList S3.data.toList tl).1.toArray⟩ := ⟨_, rfl⟩
              have hl4 : S4.data.toList = (putList S3.data.toList tl).1 := by rw [hS4]
              have hsz4 : S4.size ≤ S3.size + 40970 := by
                have h1 := putList_lenT S3.data.toList tl
                rw [← hl4, sz_list, sz_list] at h1
                omega
              have HN : Hid (S4.data.toList = (ms.take (j + 1)).foldl encRow (putInt (encMps (encCol T) (T.mps.take k)) (ms.length : Int))) := Lib.hid (by rw [hl4, hl3, HS2.out, foldl_snoc HXj.out]; rfl)
              have HPI := Lib.hid (fun W => refPutInt_any S2 f W (by omega) hf0 hf1)
              rw [← hS3] at HPI
              have HPL := Lib.hid (fun W h => refPutList_any S3 (.slice A' tl.length c') tl W h (by omega))
              unfold RetPut at HPL
              rw [← hS4] at HPL
              generalize (putList S3.data.toList tl).2 = er at HPL
              clear hS3 hl3 hS4 hl4 HS2 hf0 hf1
              go_wp2_with fail
              have HI2 := Lib.hid (HI.out.later ((Below.refl _ _).alloc (Nat.le_refl _) (.cells #[.int .i64 f, .slice A' tl.length c'] 53)))
              have hbA := hbelj.alloc hbelj.size (.cells #[.int .i64 f, .slice A' tl.length c'] 53)
              have HBC := Lib.hid (Blk.new wr 53 #[.int .i64 f, .slice A' tl.length c'])
              generalize wr.alloc (.cells #[.int .i64 f, .slice A' tl.length c'] 53) = wA at *
              clear e0 e1 HI hbelj
              have m0 := cell_regrown (HBC.out.at_ (i := 0) (u := .int .i64 f) rfl)
              have m1 := cell_regrown (HBC.out.at_ (i := 1) (u := .slice A' tl.length c') rfl)
              refine wp_region_quiet_below (by kernel_rfl) (by kernel_rfl) ?_
              repeat (go_big_quiet_step (first | (go_at_call 34; exact quiet_t (fun W hW => HPL.out W (HI2.out.later hW))) | (go_at_call 33; exact quiet_t (fun W _ => HPI.out W))))
              refine wpQuiet_nil ?_
              rintro _ ⟨⟨dq, osq⟩, rfl⟩
              have hb9 := below_next hbA (below_regrown wA dq osq)
              generalize Go.Sort.grow (redrawn wA dq) osq = wB at *
              clear m0 m1 HBC HPI HPL HI2 hbA
              go_wp2_with fail
              go_roundw
              case rel => exact ⟨j + 1, S4, by omega, by go_num, rfl, by omega, HN, hb9⟩
              case measure => simp [intOf]; omega
            · obtain rfl : j = ms.length := by omega
              have HN : Hid (S2.data.toList = encMps (encCol T) (T.mps.take (k + 1))) := Lib.hid (by rw [HS2.out, List.take_length, encMps_step HX.out])
              go_wp2_with fail
              go_roundw
              case rel => exact ⟨k + 1, S2, by omega, by go_num, rfl, by omega, HN, hbelj⟩
              case measure => simp [intOf]; omega
        · obtain rfl : k = 4 := by omega
          have hbel5 := below_next hbel4 hbel
          have y10 := (HB4.out.later hbel).at_ (i := 10) rfl
          have HX10 := Lib.hid (HT4.out.later hbel).r10
          have hexl := HEX.out
          clear HM hma HB4 HT4 hbel4 hbel HMO hlt hk
          simp only at HX10
          obtain ⟨S5, hS5⟩ : ∃ S5 : ByteArray, S5 = ⟨(putList S.data.toList T.excluded).1.toArray⟩ := ⟨_, rfl⟩
          have hl5 : S5.data.toList = (putList S.data.toList T.excluded).1 := by rw [hS5]
          have hsz5 : S5.size ≤ S.size + 40970 := by
            have h1 := putList_lenT S.data.toList T.excluded
            rw [← hl5, sz_list, sz_list] at h1
            omega
          have HN5 : Hid (S5.data.toList = encBody T) := Lib.hid (by rw [hl5, HS.out]; rfl)
          have HPL := Lib.hid (fun W h => refPutList_any S (.slice A10 T.excluded.length k10) T.excluded W h (by omega))
          unfold RetPut at HPL
          rw [← hS5] at HPL
          generalize (putList S.data.toList T.excluded).2 = er at HPL
          clear hS5 hl5 HS
          have hsl := sumL_lt S5.data.toList
          have HSU := Lib.hid (fun W => refSum_any S5 W (by unfold maxLen; omega))
          obtain ⟨su, hsu⟩ : ∃ su, su = sumL S5.data.toList := ⟨_, rfl⟩
          rw [← hsu] at hsl HSU
          obtain ⟨S7, hS7⟩ : ∃ S7 : ByteArray, S7 = ⟨(putInt S5.data.toList (su : Int)).toArray⟩ := ⟨_, rfl⟩
          have hl7 : S7.data.toList = putInt S5.data.toList (su : Int) := by rw [hS7]
          have HA : Hid (S7.data.toList = encAllT T) := Lib.hid (by rw [hl7, hsu, HN5.out]; rfl)
          have hsz7 : S7.size ≤ S5.size + 10 := by
            have h1 := putInt_len S5.data.toList (su : Int)
            rw [← hl7, sz_list, sz_list] at h1
            omega
          have HPI := Lib.hid (fun W => refPutInt_any S5 (su : Int) W (by omega) (by omega) (by omega))
          rw [← hS7] at HPI
          have hal : (encAllT T).length = S7.size := by rw [← HA.out, sz_list]
          have HAL := Lib.hid hal
          clear hS7 hl7 hsu hal
          go_wp2_with fail
          refine (HPL.out _ HX10.out).mono ?_
          rintro e w5 ⟨rfl, b5⟩
          have B5 := below_next hbel5 b5
          clear b5 HPL HX10 y10 hbel5
          go_wp2_with fail
          refine (HSU.out _).mono ?_
          rintro e w6 ⟨rfl, rfl⟩
          have B6 := B5
          go_wp2_with fail
          refine (HPI.out _).mono ?_
          rintro e w7 ⟨rfl, b7⟩
          have B7 := below_next B6 b7
          clear b7 HSU HPI
          have hcase : 32768 < S7.size ∨ S7.size ≤ 32768 := by omega
          rcases hcase with hbig | hbig
          · go_wp2_with fail
            go_ret2
            rw [encTR_full HCK.out (by rw [HAL.out]; exact hbig)]
            exact ⟨rfl, B7⟩
          · go_wp2_with fail
            go_ret2
            rw [encTR_ok HCK.out (by rw [HAL.out]; exact hbig)]
            refine ⟨?_, B7⟩
            have hb : S7 = ⟨(encAllT T).toArray⟩ := ByteArray.ext (Array.toList_inj.1 HA.out)
            show _ = Ending.returned (.tuple #[.string ⟨(encAllT T).toArray⟩, .int .i64 0])
            rw [← hb]
            rfl
end Go.Proofs.YtikcfoobfobmnaaDoor
/-
  The walk through the law TableEncode.
-/
namespace Go.Proofs.YtikcfoobfobmnaaDoor
open Go.RowKit ND

theorem short_of' {T : Tab} (h : Shape T) : ShortT 256 T := ⟨h.c0.2.1, h.c1.2.1, h.c2.2.1, h.c3.2.1, h.c4.2.1, h.c5.2.1, h.c6.2.1, h.lx, h.lm, h.ld, h.lenX, h.lp⟩

set_option maxRecDepth 100000 in
set_option maxHeartbeats 4000000 in
theorem TableEncode_go (W : World) (hg : Glob W) (v : Value) (xs : List Int) (hv : Ints W W.heap.size .i64 v xs) (a1 a2 a3 : Int) (t0 : Tv) (T0 : Tab) (ht0 : TabR W W.heap.size t0 T0) :
    Calls Tryd.prog 3 #[v, .int .i64 a1, .int .i64 a2, .int .i64 a3, t0.val] W fun e W' => e = .returned (.bool true) ∧ Below W.heap.size W W' := by
  have HG := Lib.hid (fun V (h : Below W.heap.size W V) => awake4 V (hg.later h))
  have HGL := Lib.hid (fun V (h : Below W.heap.size W V) => hg.later h)
  obtain ⟨A, c, rfl, _⟩ := id hv
  have HT := Lib.hid (fun V (h : Below W.heap.size W V) => keepTables_any V _ xs (hv.later h))
  clear hv hg
  obtain ⟨A0_0, A0_1, A0_2, A0_3, A0_4, A0_5, A0_6, A0_7, A0_8, A0_9, A0_10, A0_11, k0_0, k0_1, k0_2, k0_3, k0_4, k0_5, k0_6, k0_7, k0_8, k0_9, k0_10, k0_11, rfl⟩ := ht0.shape
  obtain ⟨t0, ht0', htb0⟩ := Tbl.new ht0
  have HV0 := Lib.hid htb0
  have HBV0 := Lib.hid ((Below.refl W.heap.size W).alloc (Nat.le_refl _) (.cells #[.slice A0_0 T0.category.length k0_0, .slice A0_1 T0.cls.length k0_1, .slice A0_2 T0.joining.length k0_2, .slice A0_3 T0.bidi.length k0_3, .slice A0_4 T0.script.length k0_4, .slice A0_5 T0.status.length k0_5, .slice A0_6 T0.ignorable.length k0_6, .slice A0_7 T0.extensions.length k0_7, .slice A0_8 T0.maps.length k0_8, .slice A0_9 T0.decomps.length k0_9, .slice A0_10 T0.excluded.length k0_10, .slice A0_11 T0.prototypes.length k0_11] 26))
  clear ht0 ht0' htb0
  go_enter Tryd.func3, Tryd.ntmps3
  go_upto_region 1 with fail
  generalize W.alloc (.cells #[.slice A0_0 T0.category.length k0_0, .slice A0_1 T0.cls.length k0_1, .slice A0_2 T0.joining.length k0_2, .slice A0_3 T0.bidi.length k0_3, .slice A0_4 T0.script.length k0_4, .slice A0_5 T0.status.length k0_5, .slice A0_6 T0.ignorable.length k0_6, .slice A0_7 T0.extensions.length k0_7, .slice A0_8 T0.maps.length k0_8, .slice A0_9 T0.decomps.length k0_9, .slice A0_10 T0.excluded.length k0_10, .slice A0_11 T0.prototypes.length k0_11] 26) = v0 at *
  go_upto_region 2 with (go_at_call 5; refine (HT.out v0 HBV0.out).mono ?_; rintro e w1 ⟨t, T1, rfl, ht1, hm1, hb1⟩; obtain ⟨A1_0, A1_1, A1_2, A1_3, A1_4, A1_5, A1_6, A1_7, A1_8, A1_9, A1_10, A1_11, k1_0, k1_1, k1_2, k1_3, k1_4, k1_5, k1_6, k1_7, k1_8, k1_9, k1_10, k1_11, rfl⟩ := ht1.shape; have HT1 := Lib.hid ht1; have HM1 := Lib.hid hm1; have HB1 := Lib.hid hb1; clear ht1 hm1 hb1)
  obtain ⟨t1, ht1, htb1⟩ := Tbl.new HT1.out
  have HV1 := Lib.hid htb1
  have HBV1 := Lib.hid (HB1.out.alloc HB1.out.size (.cells #[.slice A1_0 T1.category.length k1_0, .slice A1_1 T1.cls.length k1_1, .slice A1_2 T1.joining.length k1_2, .slice A1_3 T1.bidi.length k1_3, .slice A1_4 T1.script.length k1_4, .slice A1_5 T1.status.length k1_5, .slice A1_6 T1.ignorable.length k1_6, .slice A1_7 T1.extensions.length k1_7, .slice A1_8 T1.maps.length k1_8, .slice A1_9 T1.decomps.length k1_9, .slice A1_10 T1.excluded.length k1_10, .slice A1_11 T1.prototypes.length k1_11] 26))
  clear htb1 HT1 HB1
  generalize w1.alloc (.cells #[.slice A1_0 T1.category.length k1_0, .slice A1_1 T1.cls.length k1_1, .slice A1_2 T1.joining.length k1_2, .slice A1_3 T1.bidi.length k1_3, .slice A1_4 T1.script.length k1_4, .slice A1_5 T1.status.length k1_5, .slice A1_6 T1.ignorable.length k1_6, .slice A1_7 T1.extensions.length k1_7, .slice A1_8 T1.maps.length k1_8, .slice A1_9 T1.decomps.length k1_9, .slice A1_10 T1.excluded.length k1_10, .slice A1_11 T1.prototypes.length k1_11] 26) = v1 at *
  generalize w1.heap.size = b1 at *
  clear ht1
  have HS1 := Lib.hid (short_of' HM1.out.shape)
  have HO2 := Lib.hid (fun (V : World) (h : TabR V V.heap.size t1 T1) => other_any V t1 T1 a1 a2 a3 256 h HS1.out (by omega))
  obtain ⟨x0, x1, x2, x3, x4, x5, x6, x7, x8, x9, x10, x11⟩ := HV1.out.1.tab
  go_upto_region 3 with (go_at_call 6; refine (HO2.out _ HV1.out.2).mono ?_; rintro e w2 ⟨t, T2, rfl, ht2, hs2, hb2⟩; obtain ⟨A2_0, A2_1, A2_2, A2_3, A2_4, A2_5, A2_6, A2_7, A2_8, A2_9, A2_10, A2_11, k2_0, k2_1, k2_2, k2_3, k2_4, k2_5, k2_6, k2_7, k2_8, k2_9, k2_10, k2_11, rfl⟩ := ht2.shape; have HT2 := Lib.hid ht2; have HB2 := Lib.hid hb2; clear ht2 hs2 hb2)
  clear x0 x1 x2 x3 x4 x5 x6 x7 x8 x9 x10 x11
  obtain ⟨t2, ht2, htb2⟩ := Tbl.new HT2.out
  have HV2 := Lib.hid htb2
  have HBV2 := Lib.hid (HB2.out.alloc HB2.out.size (.cells #[.slice A2_0 T2.category.length k2_0, .slice A2_1 T2.cls.length k2_1, .slice A2_2 T2.joining.length k2_2, .slice A2_3 T2.bidi.length k2_3, .slice A2_4 T2.script.length k2_4, .slice A2_5 T2.status.length k2_5, .slice A2_6 T2.ignorable.length k2_6, .slice A2_7 T2.extensions.length k2_7, .slice A2_8 T2.maps.length k2_8, .slice A2_9 T2.decomps.length k2_9, .slice A2_10 T2.excluded.length k2_10, .slice A2_11 T2.prototypes.length k2_11] 26))
  clear htb2 HT2 HB2
  generalize w2.alloc (.cells #[.slice A2_0 T2.category.length k2_0, .slice A2_1 T2.cls.length k2_1, .slice A2_2 T2.joining.length k2_2, .slice A2_3 T2.bidi.length k2_3, .slice A2_4 T2.script.length k2_4, .slice A2_5 T2.status.length k2_5, .slice A2_6 T2.ignorable.length k2_6, .slice A2_7 T2.extensions.length k2_7, .slice A2_8 T2.maps.length k2_8, .slice A2_9 T2.decomps.length k2_9, .slice A2_10 T2.excluded.length k2_10, .slice A2_11 T2.prototypes.length k2_11] 26) = v2 at *
  generalize w2.heap.size = b2 at *
  clear ht2 HT HO2 HS1 HM1
  have hB2 := below_next (below_next HBV0.out HBV1.out) HBV2.out
  have HB := Lib.hid hB2
  have HV1' := Lib.hid (HV1.out.later HBV2.out)
  have HV0' := Lib.hid ((HV0.out.later HBV1.out).later HBV2.out)
  clear hB2 HV1 HV0 HBV0 HBV1 HBV2
  have HAW : Hid (∀ V, Below v2.heap.size v2 V → Calls Tryd.prog 9 #[] V fun e V' => e = .returned (.bool true) ∧ Below V.heap.size V V') := Lib.hid fun V hV => HG.out V (HB.out.trans (hV.mono HB.out.size))
  obtain ⟨S1, r1, HQ1⟩ : ∃ (S : ByteArray) (r : Int), Hid (RetPut = RetPut ∧ S = ⟨(encTR T1).1.toArray⟩ ∧ r = (encTR T1).2) := ⟨_, _, Lib.hid ⟨rfl, rfl, rfl⟩⟩
  have HE1 : Hid (∀ V, Below v2.heap.size v2 V → Calls Tryd.prog 7 #[t1.val] V fun e V' => e = .returned (.tuple #[.string S1, .int .i64 r1]) ∧ Below V.heap.size V V') := Lib.hid fun V hV => (encode_any t1 T1 V (HV1'.out.later hV).2 (HGL.out V (HB.out.trans (hV.mono HB.out.size)))).mono fun e V' h => ⟨by rw [h.1, HQ1.out.2.1, HQ1.out.2.2], h.2⟩
  have HF1 : Hid (∀ V, Below v2.heap.size v2 V → Calls Tryd.prog 8 #[t1.val] V fun e V' => e = .returned (.tuple #[.string S1, .int .i64 r1]) ∧ Below V.heap.size V V') := Lib.hid fun V hV => (refEncode_any t1 T1 V (HV1'.out.later hV).2).mono fun e V' h => ⟨by rw [h.1, HQ1.out.2.1, HQ1.out.2.2], h.2⟩
  clear HQ1
  obtain ⟨S2, r2, HQ2⟩ : ∃ (S : ByteArray) (r : Int), Hid (RetPut = RetPut ∧ S = ⟨(encTR T2).1.toArray⟩ ∧ r = (encTR T2).2) := ⟨_, _, Lib.hid ⟨rfl, rfl, rfl⟩⟩
  have HE2 : Hid (∀ V, Below v2.heap.size v2 V → Calls Tryd.prog 7 #[t2.val] V fun e V' => e = .returned (.tuple #[.string S2, .int .i64 r2]) ∧ Below V.heap.size V V') := Lib.hid fun V hV => (encode_any t2 T2 V (HV2.out.later hV).2 (HGL.out V (HB.out.trans (hV.mono HB.out.size)))).mono fun e V' h => ⟨by rw [h.1, HQ2.out.2.1, HQ2.out.2.2], h.2⟩
  have HF2 : Hid (∀ V, Below v2.heap.size v2 V → Calls Tryd.prog 8 #[t2.val] V fun e V' => e = .returned (.tuple #[.string S2, .int .i64 r2]) ∧ Below V.heap.size V V') := Lib.hid fun V hV => (refEncode_any t2 T2 V (HV2.out.later hV).2).mono fun e V' h => ⟨by rw [h.1, HQ2.out.2.1, HQ2.out.2.2], h.2⟩
  clear HQ2
  obtain ⟨S0, r0, HQ0⟩ : ∃ (S : ByteArray) (r : Int), Hid (RetPut = RetPut ∧ S = ⟨(encTR T0).1.toArray⟩ ∧ r = (encTR T0).2) := ⟨_, _, Lib.hid ⟨rfl, rfl, rfl⟩⟩
  have HE0 : Hid (∀ V, Below v2.heap.size v2 V → Calls Tryd.prog 7 #[t0.val] V fun e V' => e = .returned (.tuple #[.string S0, .int .i64 r0]) ∧ Below V.heap.size V V') := Lib.hid fun V hV => (encode_any t0 T0 V (HV0'.out.later hV).2 (HGL.out V (HB.out.trans (hV.mono HB.out.size)))).mono fun e V' h => ⟨by rw [h.1, HQ0.out.2.1, HQ0.out.2.2], h.2⟩
  have HF0 : Hid (∀ V, Below v2.heap.size v2 V → Calls Tryd.prog 8 #[t0.val] V fun e V' => e = .returned (.tuple #[.string S0, .int .i64 r0]) ∧ Below V.heap.size V V') := Lib.hid fun V hV => (refEncode_any t0 T0 V (HV0'.out.later hV).2).mono fun e V' h => ⟨by rw [h.1, HQ0.out.2.1, HQ0.out.2.2], h.2⟩
  clear HQ0
  have HBC0 : Hid (Below v2.heap.size v2 v2) := Lib.hid (Below.refl _ _)
  clear HG HGL
  obtain ⟨x0, x1, x2, x3, x4, x5, x6, x7, x8, x9, x10, x11⟩ := (HV1'.out.later HBC0.out).1.tab
  go_upto_region 4 with (go_at_call 7; refine (HE1.out _ HBC0.out).mono ?_; rintro e u1 ⟨rfl, b1⟩)
  have HBC1 := Lib.hid (HBC0.out.trans (b1.mono HBC0.out.size))
  clear b1 x0 x1 x2 x3 x4 x5 x6 x7 x8 x9 x10 x11
  obtain ⟨x0, x1, x2, x3, x4, x5, x6, x7, x8, x9, x10, x11⟩ := (HV1'.out.later HBC1.out).1.tab
  go_upto_region 5 with (go_at_call 8; refine (HF1.out _ HBC1.out).mono ?_; rintro e u2 ⟨rfl, b2⟩)
  have HBC2 := Lib.hid (HBC1.out.trans (b2.mono HBC1.out.size))
  clear b2 x0 x1 x2 x3 x4 x5 x6 x7 x8 x9 x10 x11
  obtain ⟨x0, x1, x2, x3, x4, x5, x6, x7, x8, x9, x10, x11⟩ := (HV2.out.later HBC2.out).1.tab
  go_upto_region 6 with (go_at_call 7; refine (HE2.out _ HBC2.out).mono ?_; rintro e u3 ⟨rfl, b3⟩)
  have HBC3 := Lib.hid (HBC2.out.trans (b3.mono HBC2.out.size))
  clear b3 x0 x1 x2 x3 x4 x5 x6 x7 x8 x9 x10 x11
  obtain ⟨x0, x1, x2, x3, x4, x5, x6, x7, x8, x9, x10, x11⟩ := (HV2.out.later HBC3.out).1.tab
  go_upto_region 7 with (go_at_call 8; refine (HF2.out _ HBC3.out).mono ?_; rintro e u4 ⟨rfl, b4⟩)
  have HBC4 := Lib.hid (HBC3.out.trans (b4.mono HBC3.out.size))
  clear b4 x0 x1 x2 x3 x4 x5 x6 x7 x8 x9 x10 x11
  obtain ⟨x0, x1, x2, x3, x4, x5, x6, x7, x8, x9, x10, x11⟩ := (HV0'.out.later HBC4.out).1.tab
  go_upto_region 8 with (go_at_call 7; refine (HE0.out _ HBC4.out).mono ?_; rintro e u5 ⟨rfl, b5⟩)
  have HBC5 := Lib.hid (HBC4.out.trans (b5.mono HBC4.out.size))
  clear b5 x0 x1 x2 x3 x4 x5 x6 x7 x8 x9 x10 x11
  obtain ⟨x0, x1, x2, x3, x4, x5, x6, x7, x8, x9, x10, x11⟩ := (HV0'.out.later HBC5.out).1.tab
  go_upto_region 9 with (go_at_call 8; refine (HF0.out _ HBC5.out).mono ?_; rintro e u6 ⟨rfl, b6⟩)
  have HBC6 := Lib.hid (HBC5.out.trans (b6.mono HBC5.out.size))
  clear b6 x0 x1 x2 x3 x4 x5 x6 x7 x8 x9 x10 x11
  go_wp2_with fail
  refine (HAW.out _ HBC6.out).mono ?_
  rintro e u7 ⟨rfl, b7⟩
  go_wp2_with fail
  go_ret
  exact ⟨by simp, HB.out.trans ((below_next HBC6.out b7).mono HB.out.size)⟩
theorem TableEncode_walk (W : World) (hg : Glob W) (v : Value) (xs : List Int) (hv : Ints W W.heap.size .i64 v xs) (_ : ∀ x ∈ xs, -9223372036854775808 ≤ x ∧ x ≤ 9223372036854775807) (_ : xs.length * 8 ≤ 140737488351232) (a1 : Int) (_ : -9223372036854775808 ≤ a1 ∧ a1 ≤ 9223372036854775807) (a2 : Int) (_ : -9223372036854775808 ≤ a2 ∧ a2 ≤ 9223372036854775807) (a3 : Int) (_ : -9223372036854775808 ≤ a3 ∧ a3 ≤ 9223372036854775807) (t0 : Tv) (T0 : Tab) (ht0 : TabR W W.heap.size t0 T0) :
    Calls Tryd.prog 3 #[v, .int .i64 a1, .int .i64 a2, .int .i64 a3, t0.val] W fun e W' => e = .returned (.bool true) ∧ Below W.heap.size W W' := TableEncode_go W hg v xs hv a1 a2 a3 t0 T0 ht0
end Go.Proofs.YtikcfoobfobmnaaDoor
