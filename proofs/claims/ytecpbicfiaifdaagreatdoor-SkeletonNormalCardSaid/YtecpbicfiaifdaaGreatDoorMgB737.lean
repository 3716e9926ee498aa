/-
  Merged texts: lemmas and walks that the last text of this claim leans on.
-/
import Derived.Test.YtecpbicfiaifdaaGreatDoorMgB728
import Derived.Test.YtecpbicfiaifdaaGreatDoorMgB715
import Derived.Test.YtecpbicfiaifdaaGreatDoorMgB716
import Derived.Test.YtecpbicfiaifdaaGreatDoorMgB735
import Derived.Test.YtecpbicfiaifdaaGreatDoorMgB736
import Derived.Test.YtecpbicfiaifdaaGreatDoorMgB722
import Derived.Test.YtecpbicfiaifdaaGreatDoorMgB78
/-
  The reference's NFD with its result known.
-/
namespace Go.Proofs.YtecpbicfiaifdaaGreatDoor
open Go.RowKit ND

theorem refNfd_eq (t : Tv) (T : Tab) (v : Value) (xs : List Int) (w : World) (r : List Int × Int) (ht : TabR w w.heap.size t T) (hv : Ints w w.heap.size .i64 v xs) (hr : nfdR T (accE T xs) xs = r) :
    Calls Tryz.prog 14 #[t.val, v] w (RetTwo w r.1 r.2) := by subst hr; exact refNfd_any t T v xs w ht hv
end Go.Proofs.YtecpbicfiaifdaaGreatDoor
/-
  The walk through the law SkeletonNormal.
-/
namespace Go.Proofs.YtecpbicfiaifdaaGreatDoor
open Go.RowKit ND

theorem skel_len {T : Tab} (h : T.check = 0) {l : List Int} (hl : l.length ≤ 12) : (nfdL T l).length ≤ 216 ∧ (skelM T (nfdL T l)).length ≤ 4000 ∧ (skelL T l).length ≤ 4000 := by
  have h1 := (flatD_len (decOk_of h) l).2
  have h2 := skelM_len (proOk_of h) (nfdL T l)
  have h3 : (nfdL T l).length = _ := nfdL_length l
  have h4 := skelL_length (T := T) l
  refine ⟨by omega, by omega, by omega⟩
/-- What has the same normalization form D has the same skeleton. -/
theorem skelR_as {T : Tab} (h : T.check = 0) {l c : List Int} (hl : l.length ≤ 12) (hc : nfdL T c = nfdL T l) (hs : c.all scalarB = true) (hn : c.length ≤ (nfdL T l).length) : skelR T c = (skelL T l, 0) := by
  obtain ⟨h1, h2, _⟩ := skel_len h hl
  have h3 : (flatD T c).length = (nfdL T l).length := by rw [← hc]; exact (nfdL_length c).symm
  rw [skelR_ok h hs (by omega) (by omega) (by rw [hc]; omega), skelL_same hc]
theorem skel_nfd {T : Tab} (h : T.check = 0) {l : List Int} (hs : l.all scalarB = true) (hl : l.length ≤ 12) : isNfdB T (skelL T l) = true := by
  obtain ⟨_, _, h3⟩ := skel_len h hl
  have e1 : flatD T (skelL T l) = skelL T l := flatD_done _ fun x hx => ⟨(skelL_sk h hx).1, (skelL_sk h hx).2.1⟩
  have e2 : nfdR T (accE T (skelL T l)) (skelL T l) = (skelL T l, 0) := by
    rw [accE_ok h (by omega) (skelL_scal h hs), nfdR_ok (by rw [e1]; omega), skelL_nfdL h]
  unfold isNfdB
  rw [e2]; simp
set_option maxRecDepth 100000 in
set_option maxHeartbeats 4000000 in
theorem SkeletonNormal_go (W : World) (hg : Glob W) (v : Value) (xs : List Int) (hv : Ints W W.heap.size .i64 v xs) (vm : Value) (ms : List Int) (hvm : Ints W W.heap.size .i64 vm ms) :
    Calls Tryz.prog 3 #[v, vm] W fun e W' => e = .returned (.bool true) ∧ Below W.heap.size W W' := by
  have HG := Lib.hid hg
  have HM := Lib.hid hvm
  obtain ⟨Ax, cx, rfl, _⟩ := id hv
  obtain ⟨Am, cm, rfl, _⟩ := id hvm
  have HT := Lib.hid (keepTables_any W _ xs hv)
  clear hv hg hvm
  go_enter Tryz.func3, Tryz.ntmps3
  go_upto_region 2 with (go_at_call 12; refine HT.out.mono ?_; rintro e w1 ⟨t, T, rfl, ht1, hm1, hb1⟩; obtain ⟨A0, A1, A2, A3, A4, A5, A6, A7, A8, A9, A10, A11, k0, k1, k2, k3, k4, k5, k6, k7, k8, k9, k10, k11, rfl⟩ := ht1.shape; have HT1 := Lib.hid ht1; have HB1 := Lib.hid hb1; have HM1 := Lib.hid hm1; clear ht1 hb1 hm1)
  obtain ⟨t, ht, htb⟩ := Tbl.new HT1.out
  have HT2 := Lib.hid htb
  have HB2 := Lib.hid (HB1.out.alloc HB1.out.size (.cells #[.slice A0 T.category.length k0, .slice A1 T.cls.length k1, .slice A2 T.joining.length k2, .slice A3 T.bidi.length k3, .slice A4 T.script.length k4, .slice A5 T.status.length k5, .slice A6 T.ignorable.length k6, .slice A7 T.extensions.length k7, .slice A8 T.maps.length k8, .slice A9 T.decomps.length k9, .slice A10 T.excluded.length k10, .slice A11 T.prototypes.length k11] 26))
  clear htb HT1 HT
  generalize w1.alloc (.cells #[.slice A0 T.category.length k0, .slice A1 T.cls.length k1, .slice A2 T.joining.length k2, .slice A3 T.bidi.length k3, .slice A4 T.script.length k4, .slice A5 T.status.length k5, .slice A6 T.ignorable.length k6, .slice A7 T.extensions.length k7, .slice A8 T.maps.length k8, .slice A9 T.decomps.length k9, .slice A10 T.excluded.length k10, .slice A11 T.prototypes.length k11] 26) = w2 at *
  generalize w1.heap.size = tb at *
  clear ht
  have hck := HM1.out.check
  have HG2 := Lib.hid (HG.out.later HB2.out)
  have HM2 := Lib.hid (HM.out.later HB2.out)
  clear HG HM HM1
  go_upto_region 3 with (go_at_call 13; refine (points_any _ (.slice Am ms.length cm) ms HM2.out).mono ?_; rintro e w3 ⟨u3, as_, rfl, hi3, hal, has, b3⟩; obtain ⟨A3, c3, rfl, _⟩ := id hi3; have HA3 := Lib.hid hi3; have HSA := Lib.hid (List.all_eq_true.2 has); have B3 := Lib.hid b3; clear hi3 b3 HM2 has)
  obtain ⟨l1, l2, l3⟩ := skel_len hck (by omega : as_.length ≤ 12)
  have H1 := Lib.hid (fun W (h : Below w2.heap.size w2 W) hi => refNfd_eq t T (.slice A3 as_.length c3) as_ W _ (HT2.out.later h).2 hi (nfd_short hck HSA.out (by omega)))
  have H2 := Lib.hid (fun W (h : Below w2.heap.size w2 W) hi => refNfc_any t T (.slice A3 as_.length c3) as_ W (HT2.out.later h).2 hi hck HSA.out (nfd_short hck HSA.out (by omega)) (by omega))
  have H3 := Lib.hid (fun W (h : Below w2.heap.size w2 W) hi => skOf_eq t T (.slice A3 as_.length c3) as_ W _ (HT2.out.later h).2 (HG2.out.later h) hi (skelR_short hck HSA.out (by omega)))
  have H4 := Lib.hid (fun v W (h : Below w2.heap.size w2 W) hi => skOf_eq t T v (nfdL T as_) W _ (HT2.out.later h).2 (HG2.out.later h) hi (skelR_nfd hck HSA.out (by omega)))
  have H5 := Lib.hid (fun v cs W (h : Below w2.heap.size w2 W) hi (hc : nfdL T cs = nfdL T as_ ∧ cs.all scalarB = true ∧ cs.length ≤ (nfdL T as_).length) => skOf_eq t T v cs W _ (HT2.out.later h).2 (HG2.out.later h) hi (skelR_as hck (by omega) hc.1 hc.2.1 hc.2.2))
  have H6 := Lib.hid (fun v W (h : Below w2.heap.size w2 W) hi => refIsNfd_any t T v (skelL T as_) W (HT2.out.later h).2 hi)
  rw [skel_nfd hck HSA.out (by omega)] at H6
  have HSK := Lib.hid (fun x (hx : x ∈ skelL T as_) => skelL_sk hck hx)
  clear hck HSA l1 l2
  generalize skelL T as_ = sl at *
  obtain ⟨dl, hdl⟩ : ∃ dl, nfdL T as_ = dl := ⟨_, rfl⟩
  rw [hdl] at H1 H4
  clear hdl
  obtain ⟨x0, x1, x2, x3, x4, x5, x6, x7, x8, x9, x10, x11⟩ := (HT2.out.later B3.out).1.tab
  go_upto_region 4 with (go_at_call 14; refine (H1.out _ B3.out HA3.out).mono ?_; rintro e w4 ⟨u4, rfl, ho4, b4⟩; obtain ⟨A4, c4, rfl, _⟩ := id (Ints.of_own ho4); have HD4 := Lib.hid (Ints.of_own ho4); have B4 := Lib.hid (below_next B3.out b4); have HA4 := Lib.hid (HA3.out.later b4); clear ho4 b4 HA3 H1)
  clear x0 x1 x2 x3 x4 x5 x6 x7 x8 x9 x10 x11
  obtain ⟨x0, x1, x2, x3, x4, x5, x6, x7, x8, x9, x10, x11⟩ := (HT2.out.later B4.out).1.tab
  go_upto_region 5 with (go_at_call 15; refine (H2.out _ B4.out HA4.out).mono ?_; rintro e w5 ⟨u5, cs, rfl, ho5, hcs, b5⟩; obtain ⟨A5, c5, rfl, _⟩ := id (Ints.of_own ho5); have HC5 := Lib.hid (Ints.of_own ho5); have HCS := Lib.hid hcs; have B5 := Lib.hid (below_next B4.out b5); have HA5 := Lib.hid (HA4.out.later b5); have HD5 := Lib.hid (HD4.out.later b5); clear ho5 b5 hcs HA4 HD4 H2)
  clear x0 x1 x2 x3 x4 x5 x6 x7 x8 x9 x10 x11
  obtain ⟨x0, x1, x2, x3, x4, x5, x6, x7, x8, x9, x10, x11⟩ := (HT2.out.later B5.out).1.tab
  go_upto_region 6 with (go_at_call 16; refine (H3.out _ B5.out HA5.out).mono ?_; rintro e w6 ⟨u6, rfl, ho6, b6⟩; obtain ⟨A6, c6, rfl, _⟩ := id (Ints.of_own ho6); have HX6 := Lib.hid (Ints.of_own ho6); have B6 := Lib.hid (below_next B5.out b6); have HC6 := Lib.hid (HC5.out.later b6); have HD6 := Lib.hid (HD5.out.later b6); clear ho6 b6 HA5 HC5 HD5 H3)
  clear x0 x1 x2 x3 x4 x5 x6 x7 x8 x9 x10 x11
  obtain ⟨x0, x1, x2, x3, x4, x5, x6, x7, x8, x9, x10, x11⟩ := (HT2.out.later B6.out).1.tab
  go_upto_region 7 with (go_at_call 16; refine (H4.out _ _ B6.out HD6.out).mono ?_; rintro e w7 ⟨u7, rfl, ho7, b7⟩; obtain ⟨A7, c7, rfl, _⟩ := id (Ints.of_own ho7); have HY7 := Lib.hid (Ints.of_own ho7); have B7 := Lib.hid (below_next B6.out b7); have HC7 := Lib.hid (HC6.out.later b7); have HX7 := Lib.hid (HX6.out.later b7); clear ho7 b7 HC6 HD6 HX6 H4)
  clear x0 x1 x2 x3 x4 x5 x6 x7 x8 x9 x10 x11
  obtain ⟨x0, x1, x2, x3, x4, x5, x6, x7, x8, x9, x10, x11⟩ := (HT2.out.later B7.out).1.tab
  go_upto_region 8 with (go_at_call 16; refine (H5.out _ _ _ B7.out HC7.out HCS.out).mono ?_; rintro e w8 ⟨u8, rfl, ho8, b8⟩; obtain ⟨A8, c8, rfl, _⟩ := id (Ints.of_own ho8); have HZ8 := Lib.hid (Ints.of_own ho8); have B8 := Lib.hid (below_next B7.out b8); have HX8 := Lib.hid (HX7.out.later b8); have HY8 := Lib.hid (HY7.out.later b8); clear ho8 b8 HC7 HX7 HY7 H5 HCS)
  clear x0 x1 x2 x3 x4 x5 x6 x7 x8 x9 x10 x11
  go_upto_region 10 with (first
    | (go_at_call 17; refine (same_of _ _ sl sl _ HX8.out HY8.out rfl).mono ?_; rintro e w9 ⟨rfl, b9⟩; have B9 := Lib.hid (below_next B8.out b9); have HX9 := Lib.hid (HX8.out.later b9); have HZ9 := Lib.hid (HZ8.out.later b9); clear b9 HX8 HY8 HZ8)
    | (go_at_call 17; refine (same_of _ _ sl sl _ HX9.out HZ9.out rfl).mono ?_; rintro e w10 ⟨rfl, b10⟩; have B10 := Lib.hid (below_next B9.out b10); have HX10 := Lib.hid (HX9.out.later b10); obtain ⟨x0, x1, x2, x3, x4, x5, x6, x7, x8, x9, x10, x11⟩ := (HT2.out.later B10.out).1.tab; clear b10 HX9 HZ9)
    | (go_at_call 18; refine (H6.out _ _ B10.out HX10.out).mono ?_; rintro e w11 ⟨rfl, b11⟩; have B11 := Lib.hid (below_next B10.out b11); have HX11 := Lib.hid (HX10.out.later b11); clear b11 HX10 H6))
  clear x0 x1 x2 x3 x4 x5 x6 x7 x8 x9 x10 x11
  have HT11 := Lib.hid (HT2.out.later B11.out)
  have HG11 := Lib.hid (HG2.out.later B11.out)
  have HB11 := Lib.hid (below_next HB2.out B11.out)
  clear HT2 HG2 HB2 B3 B4 B5 B6 B7 B8 B9 B10 B11
  go_wp2_with fail
  go_loopw [83] (fun si wr => ∃ (k : Nat), k ≤ sl.length ∧ si = .int .i64 k ∧ Hid (Below w11.heap.size w11 wr)) (fun si _ => sl.length - (intOf si).toNat)
  case atStart => exact ⟨0, by omega, rfl, Lib.hid (Below.refl _ _)⟩
  case round =>
    obtain ⟨k, hk, rfl, HBr⟩ := hrel
    by_cases hlt : k < sl.length
    · obtain ⟨x, hxk, hxm⟩ := get_of hlt
      obtain ⟨_, _, hve, _, _, _, hcell⟩ := HX11.out
      cases hve
      obtain ⟨ad, rfl, ha, hce⟩ := hcell k x hxk
      have e1 := (HBr.out.cell (p := ad.add k) (by rw [block_of_add]; exact ha)).trans hce
      have k0 : (0 : Int) ≤ (k : Int) := by omega
      have k1 : (k : Int) < (sl.length : Int) := by omega
      have HTr := Lib.hid (HT11.out.later HBr.out)
      have HIx := Lib.hid (refIgnorable_any t T x wr HTr.out.2)
      have HPx := Lib.hid (fun W h => refPrototype_any t T x W h)
      rw [(HSK.out x hxm).2.2.1] at HIx
      rw [(HSK.out x hxm).2.2.2] at HPx
      clear hcell hxk ha hce hxm
      obtain ⟨x0, x1, x2, x3, x4, x5, x6, x7, x8, x9, x10, x11⟩ := HTr.out.1.tab
      go_wp2_with (first
        | (go_at_call 19; refine HIx.out.mono ?_; rintro e w12 ⟨rfl, b12⟩; have HT12 := Lib.hid (HTr.out.later b12); clear x0 x1 x2 x3 x4 x5 x6 x7 x8 x9 x10 x11; obtain ⟨x0, x1, x2, x3, x4, x5, x6, x7, x8, x9, x10, x11⟩ := HT12.out.1.tab)
        | (go_at_call 20; refine (HPx.out _ HT12.out.2).mono ?_; rintro e w13 ⟨u13, rfl, hu13, b13⟩; obtain ⟨A13, c13, rfl, _⟩ := hu13; clear x0 x1 x2 x3 x4 x5 x6 x7 x8 x9 x10 x11))
      go_roundw
      case rel => exact ⟨k + 1, by omega, by go_num, Lib.hid (below_then HBr.out (Nat.le_refl _) (below_next b12 b13))⟩
      case measure => simp [intOf]; omega
    · go_wp2_with (go_at_call 21; refine (awake20 _ (HG11.out.later HBr.out)).mono ?_; rintro e w13 ⟨rfl, b13⟩)
      go_ret
      exact ⟨rfl, below_next HB11.out (below_then HBr.out (Nat.le_refl _) b13)⟩
theorem SkeletonNormal_walk (W : World) (hg : Glob W) (v : Value) (xs : List Int) (hv : Ints W W.heap.size .i64 v xs) (_ : ∀ x ∈ xs, -9223372036854775808 ≤ x ∧ x ≤ 9223372036854775807) (_ : xs.length * 8 ≤ 140737488351232) (vm : Value) (ms : List Int) (hvm : Ints W W.heap.size .i64 vm ms) (_ : ∀ x ∈ ms, -9223372036854775808 ≤ x ∧ x ≤ 9223372036854775807) (_ : ms.length * 8 ≤ 140737488351232) :
    Calls Tryz.prog 3 #[v, vm] W fun e W' => e = .returned (.bool true) ∧ Below W.heap.size W W' := SkeletonNormal_go W hg v xs hv vm ms hvm
end Go.Proofs.YtecpbicfiaifdaaGreatDoor
