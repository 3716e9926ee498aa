/-
  Merged texts: lemmas and walks that the last text of this claim leans on.
-/
import Derived.Test.YtecpbicfiaifdaaGreatDoorMgB737
import Derived.Test.YtecpbicfiaifdaaGreatDoorMgB736
import Derived.Test.YtecpbicfiaifdaaGreatDoorMgB722
import Derived.Test.YtecpbicfiaifdaaGreatDoorMgB724
import Derived.Test.YtecpbicfiaifdaaGreatDoorMgB723
import Derived.Test.YtecpbicfiaifdaaGreatDoorMgB715
import Derived.Test.YtecpbicfiaifdaaGreatDoorMgB716
import Derived.Test.YtecpbicfiaifdaaGreatDoorMgB735
/-
  The walk through the reference's Twins.
-/
namespace Go.Proofs.YtecpbicfiaifdaaGreatDoor
open Go.RowKit ND

theorem classesR_bad {T : Tab} {ls : List (List Int)} {c : List Int} {er : Int} (h : classesR T ls = (c, er)) (h0 : er ≠ 0) : c = [] := by
  unfold classesR at h
  split at h
  · exact (Prod.mk.inj h).1.symm
  · split at h
    · exact (Prod.mk.inj h).1.symm
    · exact absurd (Prod.mk.inj h).2.symm h0
set_option maxRecDepth 100000 in
set_option maxHeartbeats 2000000 in
theorem refTwins_any (t : Tv) (T : Tab) (v : Value) (yss : List (List Int)) (w : World) (ht : TabR w w.heap.size t T) (hv : Lists w w.heap.size v yss) :
    Calls Tryz.prog 67 #[t.val, v] w fun e w' => e = .returned (.tuple #[.int .i64 (twinsR T yss).1, .int .i64 (twinsR T yss).2.1, .bool (twinsR T yss).2.2]) ∧ Below w.heap.size w w' := by
  obtain ⟨A, c, rfl, _⟩ := id hv
  have HB0 : Hid (Below w.heap.size w (w.alloc (.cells t.cells 26))) := Lib.hid ((Below.refl _ _).alloc (Nat.le_refl _) _)
  have HT : Hid (Tbl (w.alloc (.cells t.cells 26)) w.heap.size t T) := Lib.hid ⟨Blk.new _ _ _, ht.later HB0.out⟩
  have HC := Lib.hid (refClasses_any t T _ yss _ HT.out.2 (hv.later HB0.out))
  clear ht hv
  unfold twinsR
  obtain ⟨cl, er, hcl⟩ : ∃ cl er, classesR T yss = (cl, er) := ⟨_, _, rfl⟩
  have hbad := classesR_bad hcl
  rw [hcl] at HC ⊢
  clear hcl
  show Calls _ _ _ _ fun e w' => e = .returned (.tuple #[.int .i64 (twinsGo 0 cl).1, .int .i64 (twinsGo 0 cl).2.1, .bool (twinsGo 0 cl).2.2]) ∧ _
  by_cases h0 : er = 0
  · subst h0
    clear hbad
    obtain ⟨R, hR⟩ : ∃ R, twinsGo 0 cl = R := ⟨_, rfl⟩
    have HR : Hid (twinsGo 0 (cl.drop 0) = R) := Lib.hid hR
    rw [hR]
    clear hR
    go_enter Tryz.func67, Tryz.ntmps67
    go_upto_region 1 with fail
    generalize w.alloc (.cells t.cells 26) = w1 at *
    obtain ⟨x0, x1, x2, x3, x4, x5, x6, x7, x8, x9, x10, x11⟩ := HT.out.1.tab
    go_upto_region 4 with (go_at_call 66; refine HC.out.mono ?_; rintro e w2 ⟨u2, rfl, ho2, b2⟩; obtain ⟨A2, c2, rfl, _⟩ := id (Ints.of_own ho2); have HU := Lib.hid (Ints.of_own ho2); have HB2 := Lib.hid (below_next HB0.out b2); clear ho2 b2)
    clear x0 x1 x2 x3 x4 x5 x6 x7 x8 x9 x10 x11 HC
    have l1 : cl.length ≤ 9223372036854775807 := by
      obtain ⟨_, _, e, h1, h2, _⟩ := HU.out
      unfold maxLen at h2; cases e; omega
    go_wp2_with fail
    go_loopw [21] (fun si wr => ∃ (j : Nat), j ≤ cl.length ∧ si = .int .i64 j ∧ Hid (twinsGo j (cl.drop j) = R) ∧ wr = w2) (fun si _ => cl.length - (intOf si).toNat)
    case atStart => exact ⟨0, by omega, rfl, HR, rfl⟩
    case round =>
      clear HR
      obtain ⟨j, hj, rfl, HS, rfl⟩ := hrel
      by_cases hlt : j < cl.length
      · obtain ⟨x, hxj, _⟩ := get_of hlt
        obtain ⟨_, _, hve, _, _, _, hcell⟩ := HU.out
        cases hve
        obtain ⟨ad, rfl, ha, e1⟩ := hcell j x hxj
        have j0 : (0 : Int) ≤ (j : Int) := by omega
        have j1 : (j : Int) < (cl.length : Int) := by omega
        have hst := twins_step hxj
        rw [HS.out] at hst
        clear hcell hxj ha
        by_cases hx : x < (j : Int)
        · rw [if_pos hx] at hst
          have HN := Lib.hid hst
          clear hst
          go_wp2_with fail
          go_ret3
          rw [HN.out]
          exact ⟨rfl, HB2.out⟩
        · rw [if_neg hx] at hst
          have HN := Lib.hid hst.symm
          clear hst
          go_wp2_with fail
          go_roundw
          case rel => exact ⟨j + 1, by omega, by go_num, HN, by first | rfl | trivial⟩
          case measure => simp [intOf]; omega
      · have HN : Hid (R = (0, 0, false)) := Lib.hid (HS.out.symm.trans (twins_end (by omega)))
        go_wp2_with fail
        go_ret3
        rw [HN.out]
        exact ⟨rfl, HB2.out⟩
  · obtain rfl := hbad h0
    have hb : (er != 0) = true := by simpa using h0
    clear h0 hbad
    go_enter Tryz.func67, Tryz.ntmps67
    go_upto_region 1 with fail
    generalize w.alloc (.cells t.cells 26) = w1 at *
    obtain ⟨x0, x1, x2, x3, x4, x5, x6, x7, x8, x9, x10, x11⟩ := HT.out.1.tab
    go_wp2_with (go_at_call 66; refine HC.out.mono ?_; rintro e w2 ⟨u2, rfl, ho2, b2⟩; obtain ⟨A2, c2, rfl, _⟩ := id (Ints.of_own ho2); have HB2 := Lib.hid (below_next HB0.out b2); clear ho2 b2)
    go_ret3
    exact ⟨rfl, HB2.out⟩
end Go.Proofs.YtecpbicfiaifdaaGreatDoor
/-
  The walk through agrees of the laws of layer 21: for whatever tables and sequences.
-/
namespace Go.Proofs.YtecpbicfiaifdaaGreatDoor
open Go.RowKit ND

set_option maxRecDepth 100000 in
set_option maxHeartbeats 4000000 in
theorem agrees21_any (t : Tv) (T : Tab) (v : Value) (xs : List Int) (u : Value) (us : List Int) (z : Value) (yss : List (List Int)) (w : World) (ht : TabR w w.heap.size t T) (hg : Glob w) (hv : Ints w w.heap.size .i64 v xs) (hu : Ints w w.heap.size .i64 u us) (hz : Lists w w.heap.size z yss) :
    Calls Tryz.prog 35 #[t.val, v, u, z] w fun e w' => e = .returned (.bool true) ∧ Below w.heap.size w w' := by
  obtain ⟨A, c, rfl, _⟩ := id hv
  obtain ⟨A', c', rfl, _⟩ := id hu
  obtain ⟨Az, cz, rfl, _⟩ := id hz
  have HB0 : Hid (Below w.heap.size w (w.alloc (.cells t.cells 26))) := Lib.hid ((Below.refl _ _).alloc (Nat.le_refl _) _)
  have HT : Hid (Tbl (w.alloc (.cells t.cells 26)) w.heap.size t T) := Lib.hid ⟨Blk.new _ _ _, ht.later HB0.out⟩
  have HV := Lib.hid (hv.later HB0.out)
  have HU := Lib.hid (hu.later HB0.out)
  have HZ := Lib.hid (hz.later HB0.out)
  have HG := Lib.hid (hg.later HB0.out)
  clear ht hv hu hz hg
  go_enter Tryz.func35, Tryz.ntmps35
  go_upto_region 1 with fail
  generalize w.alloc (.cells t.cells 26) = w1 at *
  obtain ⟨tb, htb⟩ : ∃ tb, w.heap.size = tb := ⟨_, rfl⟩
  rw [htb] at HT
  simp only [htb]
  have H1 := Lib.hid (fun W (h : Below w1.heap.size w1 W) => cfSame_any t T _ xs _ us W (HT.out.later h).2 (HG.out.later h) (HV.out.later h) (HU.out.later h))
  have H2 := Lib.hid (fun W (h : Below w1.heap.size w1 W) => refConf_any t T _ xs _ us W (HT.out.later h).2 (HV.out.later h) (HU.out.later h))
  have H3 := Lib.hid (fun W (h : Below w1.heap.size w1 W) => differ_any t T _ xs _ us W (HT.out.later h).2 (HG.out.later h) (HV.out.later h) (HU.out.later h))
  have H4 := Lib.hid (fun W (h : Below w1.heap.size w1 W) => refDiffer_any t T _ xs _ us W (HT.out.later h).2 (HV.out.later h) (HU.out.later h))
  have H5 := Lib.hid (fun W (h : Below w1.heap.size w1 W) => classes_any t T _ yss W (HT.out.later h).2 (HG.out.later h) (HZ.out.later h))
  have H6 := Lib.hid (fun W (h : Below w1.heap.size w1 W) => refClasses_any t T _ yss W (HT.out.later h).2 (HZ.out.later h))
  have H7 := Lib.hid (fun W (h : Below w1.heap.size w1 W) => twins_any t T _ yss W (HT.out.later h).2 (HG.out.later h) (HZ.out.later h))
  have H8 := Lib.hid (fun W (h : Below w1.heap.size w1 W) => refTwins_any t T _ yss W (HT.out.later h).2 (HZ.out.later h))
  obtain ⟨⟨s1, s2⟩, hs⟩ : ∃ r, sameR T xs us = r := ⟨_, rfl⟩
  obtain ⟨⟨d1, d2⟩, hd⟩ : ∃ r, differR T xs us = r := ⟨_, rfl⟩
  obtain ⟨⟨cl, ce⟩, hc⟩ : ∃ r, classesR T yss = r := ⟨_, rfl⟩
  obtain ⟨⟨t1, t2, t3⟩, htw⟩ : ∃ r, twinsR T yss = r := ⟨_, rfl⟩
  rw [hs] at H1 H2
  rw [hd] at H3 H4
  rw [hc] at H5 H6
  rw [htw] at H7 H8
  clear hs hd hc htw
  obtain ⟨x0, x1, x2, x3, x4, x5, x6, x7, x8, x9, x10, x11⟩ := HT.out.1.tab
  go_upto_region 2 with (go_at_call 36; refine (H1.out _ (Below.refl _ _)).mono ?_; rintro e w2 ⟨rfl, b2⟩; have B2 := Lib.hid b2; clear b2 H1)
  clear x0 x1 x2 x3 x4 x5 x6 x7 x8 x9 x10 x11
  obtain ⟨x0, x1, x2, x3, x4, x5, x6, x7, x8, x9, x10, x11⟩ := (HT.out.later B2.out).1.tab
  go_upto_region 3 with (go_at_call 30; refine (H2.out _ B2.out).mono ?_; rintro e w3 ⟨rfl, b3⟩; have B3 := Lib.hid (below_next B2.out b3); clear b3 H2)
  clear x0 x1 x2 x3 x4 x5 x6 x7 x8 x9 x10 x11
  obtain ⟨x0, x1, x2, x3, x4, x5, x6, x7, x8, x9, x10, x11⟩ := (HT.out.later B3.out).1.tab
  go_upto_region 4 with (go_at_call 37; refine (H3.out _ B3.out).mono ?_; rintro e w4 ⟨rfl, b4⟩; have B4 := Lib.hid (below_next B3.out b4); clear b4 H3)
  clear x0 x1 x2 x3 x4 x5 x6 x7 x8 x9 x10 x11
  obtain ⟨x0, x1, x2, x3, x4, x5, x6, x7, x8, x9, x10, x11⟩ := (HT.out.later B4.out).1.tab
  go_upto_region 5 with (go_at_call 62; refine (H4.out _ B4.out).mono ?_; rintro e w5 ⟨rfl, b5⟩; have B5 := Lib.hid (below_next B4.out b5); clear b5 H4)
  clear x0 x1 x2 x3 x4 x5 x6 x7 x8 x9 x10 x11
  obtain ⟨x0, x1, x2, x3, x4, x5, x6, x7, x8, x9, x10, x11⟩ := (HT.out.later B5.out).1.tab
  go_upto_region 6 with (go_at_call 61; refine (H5.out _ B5.out).mono ?_; rintro e w6 ⟨u6, rfl, ho6, b6⟩; obtain ⟨A6, c6, rfl, _⟩ := id (Ints.of_own ho6); have I4_6 := Lib.hid (Ints.of_own ho6); have B6 := Lib.hid (below_next B5.out b6); clear ho6 b6 H5)
  clear x0 x1 x2 x3 x4 x5 x6 x7 x8 x9 x10 x11
  obtain ⟨x0, x1, x2, x3, x4, x5, x6, x7, x8, x9, x10, x11⟩ := (HT.out.later B6.out).1.tab
  go_upto_region 7 with (go_at_call 66; refine (H6.out _ B6.out).mono ?_; rintro e w7 ⟨u7, rfl, ho7, b7⟩; obtain ⟨A7, c7, rfl, _⟩ := id (Ints.of_own ho7); have I5_7 := Lib.hid (Ints.of_own ho7); have I4_7 := Lib.hid (I4_6.out.later b7); clear I4_6; have B7 := Lib.hid (below_next B6.out b7); clear ho7 b7 H6)
  clear x0 x1 x2 x3 x4 x5 x6 x7 x8 x9 x10 x11
  obtain ⟨x0, x1, x2, x3, x4, x5, x6, x7, x8, x9, x10, x11⟩ := (HT.out.later B7.out).1.tab
  go_upto_region 8 with (go_at_call 29; refine (H7.out _ B7.out).mono ?_; rintro e w8 ⟨rfl, b8⟩; have I4_8 := Lib.hid (I4_7.out.later b8); clear I4_7; have I5_8 := Lib.hid (I5_7.out.later b8); clear I5_7; have B8 := Lib.hid (below_next B7.out b8); clear b8 H7)
  clear x0 x1 x2 x3 x4 x5 x6 x7 x8 x9 x10 x11
  obtain ⟨x0, x1, x2, x3, x4, x5, x6, x7, x8, x9, x10, x11⟩ := (HT.out.later B8.out).1.tab
  go_upto_region 9 with (go_at_call 67; refine (H8.out _ B8.out).mono ?_; rintro e w9 ⟨rfl, b9⟩; have I4_9 := Lib.hid (I4_8.out.later b9); clear I4_8; have I5_9 := Lib.hid (I5_8.out.later b9); clear I5_8; have B9 := Lib.hid (below_next B8.out b9); clear b9 H8)
  clear x0 x1 x2 x3 x4 x5 x6 x7 x8 x9 x10 x11
  go_wp2_with (go_at_call 17; refine (same_of _ _ cl cl _ I4_9.out I5_9.out rfl).mono ?_; rintro e w10 ⟨rfl, b10⟩)
  go_ret
  exact ⟨by simp, below_next HB0.out (below_next B9.out b10)⟩
end Go.Proofs.YtecpbicfiaifdaaGreatDoor
/-
  The walk through awake of the laws of layer 21: the example of its chapter.
-/
namespace Go.Proofs.YtecpbicfiaifdaaGreatDoor
open Go.RowKit ND

def tab21 : Tab := ⟨[], [], [], [], [], [], [], [], [], [], [], [(109, [114, 110])]⟩
theorem cl21 : classesR tab21 [[109], [97], [114, 110]] = ([0, 1, 0], 0) := by decide +kernel
theorem tw21 : twinsR tab21 [[109], [97], [114, 110]] = (0, 2, true) := by decide +kernel
/-- The example's tables, as they lie. -/
theorem lay21 (w : World) : ∃ t : Tv, t = ⟨.slice none 0 0, .slice none 0 0, .slice none 0 0, .slice none 0 0, .slice none 0 0, .slice none 0 0, .slice none 0 0, .slice none 0 0, .slice none 0 0, .slice none 0 0, .slice none 0 0, .slice (some ⟨w.heap.size + 1, 0, none⟩) 1 1⟩ ∧ Tbl (((w.alloc (.cells #[.int .i64 114, .int .i64 110] 3)).alloc (.cells #[.int .i64 109, .slice (some ⟨w.heap.size, 0, none⟩) 2 2] 71)).alloc (.cells #[.slice none 0 0, .slice none 0 0, .slice none 0 0, .slice none 0 0, .slice none 0 0, .slice none 0 0, .slice none 0 0, .slice none 0 0, .slice none 0 0, .slice none 0 0, .slice none 0 0, .slice (some ⟨w.heap.size + 1, 0, none⟩) 1 1] 26)) (w.heap.size + 1 + 1) t tab21 ∧ Below w.heap.size w (((w.alloc (.cells #[.int .i64 114, .int .i64 110] 3)).alloc (.cells #[.int .i64 109, .slice (some ⟨w.heap.size, 0, none⟩) 2 2] 71)).alloc (.cells #[.slice none 0 0, .slice none 0 0, .slice none 0 0, .slice none 0 0, .slice none 0 0, .slice none 0 0, .slice none 0 0, .slice none 0 0, .slice none 0 0, .slice none 0 0, .slice none 0 0, .slice (some ⟨w.heap.size + 1, 0, none⟩) 1 1] 26)) := by
  have b1 := (Below.refl w.heap.size w).alloc (Nat.le_refl _) (.cells #[.int .i64 114, .int .i64 110] 3)
  have i1 : Ints (w.alloc (.cells #[.int .i64 114, .int .i64 110] 3)) (w.alloc (.cells #[.int .i64 114, .int .i64 110] 3)).heap.size .i64 (.slice (some ⟨w.heap.size, 0, none⟩) 2 2) [114, 110] := (by have h := Ints.of_own (own_new w 3 [114, 110] (by simp)); simpa using h)
  have s1 : (w.alloc (.cells #[.int .i64 114, .int .i64 110] 3)).heap.size = w.heap.size + 1 := by simp
  generalize (w.alloc (.cells #[.int .i64 114, .int .i64 110] 3)) = a1 at *
  have b3 := (Below.refl a1.heap.size a1).alloc (Nat.le_refl _) (.cells #[.int .i64 109, .slice (some ⟨w.heap.size, 0, none⟩) 2 2] 71)
  have hm := lit_map a1 109 _ [114, 110] i1
  have s3 : (a1.alloc (.cells #[.int .i64 109, .slice (some ⟨w.heap.size, 0, none⟩) 2 2] 71)).heap.size = w.heap.size + 1 + 1 := by simp [s1]
  rw [s1] at hm
  generalize a1.alloc (.cells #[.int .i64 109, .slice (some ⟨w.heap.size, 0, none⟩) 2 2] 71) = a3 at *
  have b4 := (Below.refl a3.heap.size a3).alloc (Nat.le_refl _) (.cells #[.slice none 0 0, .slice none 0 0, .slice none 0 0, .slice none 0 0, .slice none 0 0, .slice none 0 0, .slice none 0 0, .slice none 0 0, .slice none 0 0, .slice none 0 0, .slice none 0 0, .slice (some ⟨w.heap.size + 1, 0, none⟩) 1 1] 26)
  have hX := Blk.new a3 26 #[.slice none 0 0, .slice none 0 0, .slice none 0 0, .slice none 0 0, .slice none 0 0, .slice none 0 0, .slice none 0 0, .slice none 0 0, .slice none 0 0, .slice none 0 0, .slice none 0 0, .slice (some ⟨w.heap.size + 1, 0, none⟩) 1 1]
  rw [s3] at hX
  refine ⟨_, rfl, ⟨hX, ⟨Spans.none_, Spans.none_, Spans.none_, Spans.none_, Spans.none_, Spans.none_, Spans.none_, Mapps.none_, Mapps.none_, Mapps.none_, Ints.none_, hm.later b4⟩⟩, below_next (below_next b1 b3) b4⟩
/-- The example's sequences, as they lie. -/
theorem rows21 (w1 : World) : Lists ((((w1.alloc (.cells #[.int .i64 109] 3)).alloc (.cells #[.int .i64 97] 3)).alloc (.cells #[.int .i64 114, .int .i64 110] 3)).alloc (.cells #[.slice (some ⟨w1.heap.size, 0, none⟩) 1 1, .slice (some ⟨w1.heap.size + 1, 0, none⟩) 1 1, .slice (some ⟨w1.heap.size + 1 + 1, 0, none⟩) 2 2] 22)) ((((w1.alloc (.cells #[.int .i64 109] 3)).alloc (.cells #[.int .i64 97] 3)).alloc (.cells #[.int .i64 114, .int .i64 110] 3)).alloc (.cells #[.slice (some ⟨w1.heap.size, 0, none⟩) 1 1, .slice (some ⟨w1.heap.size + 1, 0, none⟩) 1 1, .slice (some ⟨w1.heap.size + 1 + 1, 0, none⟩) 2 2] 22)).heap.size (.slice (some ⟨w1.heap.size + 1 + 1 + 1, 0, none⟩) 3 3) [[109], [97], [114, 110]] ∧ Below w1.heap.size w1 ((((w1.alloc (.cells #[.int .i64 109] 3)).alloc (.cells #[.int .i64 97] 3)).alloc (.cells #[.int .i64 114, .int .i64 110] 3)).alloc (.cells #[.slice (some ⟨w1.heap.size, 0, none⟩) 1 1, .slice (some ⟨w1.heap.size + 1, 0, none⟩) 1 1, .slice (some ⟨w1.heap.size + 1 + 1, 0, none⟩) 2 2] 22)) := by
  have c1 := (Below.refl w1.heap.size w1).alloc (Nat.le_refl _) (.cells #[.int .i64 109] 3)
  have i1 : Ints (w1.alloc (.cells #[.int .i64 109] 3)) (w1.alloc (.cells #[.int .i64 109] 3)).heap.size .i64 (.slice (some ⟨w1.heap.size, 0, none⟩) 1 1) [109] := (by have h := Ints.of_own (own_new w1 3 [109] (by simp)); simpa using h)
  have s1 : (w1.alloc (.cells #[.int .i64 109] 3)).heap.size = w1.heap.size + 1 := by simp
  generalize (w1.alloc (.cells #[.int .i64 109] 3)) = a1 at *
  have c2 := (Below.refl a1.heap.size a1).alloc (Nat.le_refl _) (.cells #[.int .i64 97] 3)
  have i2 : Ints (a1.alloc (.cells #[.int .i64 97] 3)) (a1.alloc (.cells #[.int .i64 97] 3)).heap.size .i64 (.slice (some ⟨a1.heap.size, 0, none⟩) 1 1) [97] := (by have h := Ints.of_own (own_new a1 3 [97] (by simp)); simpa using h)
  have s2 : (a1.alloc (.cells #[.int .i64 97] 3)).heap.size = w1.heap.size + 1 + 1 := by simp [s1]
  have i1 := i1.later c2
  rw [s1] at i2
  generalize a1.alloc (.cells #[.int .i64 97] 3) = a2 at *
  have c3 := (Below.refl a2.heap.size a2).alloc (Nat.le_refl _) (.cells #[.int .i64 114, .int .i64 110] 3)
  have i3 : Ints (a2.alloc (.cells #[.int .i64 114, .int .i64 110] 3)) (a2.alloc (.cells #[.int .i64 114, .int .i64 110] 3)).heap.size .i64 (.slice (some ⟨a2.heap.size, 0, none⟩) 2 2) [114, 110] := (by have h := Ints.of_own (own_new a2 3 [114, 110] (by simp)); simpa using h)
  have s3 : (a2.alloc (.cells #[.int .i64 114, .int .i64 110] 3)).heap.size = w1.heap.size + 1 + 1 + 1 := by simp [s2]
  have i1 := i1.later c3
  have i2 := i2.later c3
  rw [s2] at i3
  generalize a2.alloc (.cells #[.int .i64 114, .int .i64 110] 3) = a3 at *
  have c4 := (Below.refl a3.heap.size a3).alloc (Nat.le_refl _) (.cells #[.slice (some ⟨w1.heap.size, 0, none⟩) 1 1, .slice (some ⟨w1.heap.size + 1, 0, none⟩) 1 1, .slice (some ⟨w1.heap.size + 1 + 1, 0, none⟩) 2 2] 22)
  have h := lists_three a3 _ _ _ [109] [97] [114, 110] i1 i2 i3
  rw [s3] at h
  exact ⟨h, below_next (below_next (below_next c1 c2) c3) c4⟩
set_option maxRecDepth 100000 in
set_option maxHeartbeats 4000000 in
theorem awake21 (w : World) (hg : Glob w) : Calls Tryz.prog 31 #[] w fun e w' => e = .returned (.bool true) ∧ Below w.heap.size w w' := by
  have HG := Lib.hid (fun W (h : Below w.heap.size w W) => hg.later h)
  clear hg
  go_enter Tryz.func31, Tryz.ntmps31
  go_upto_region 2 with fail
  obtain ⟨t, ht, htb, hb0⟩ := lay21 w
  have HT := Lib.hid htb
  have B0 := Lib.hid hb0
  clear htb hb0 ht
  generalize (((w.alloc (.cells #[.int .i64 114, .int .i64 110] 3)).alloc (.cells #[.int .i64 109, .slice (some ⟨w.heap.size, 0, none⟩) 2 2] 71)).alloc (.cells #[.slice none 0 0, .slice none 0 0, .slice none 0 0, .slice none 0 0, .slice none 0 0, .slice none 0 0, .slice none 0 0, .slice none 0 0, .slice none 0 0, .slice none 0 0, .slice none 0 0, .slice (some ⟨w.heap.size + 1, 0, none⟩) 1 1] 26)) = w1 at *
  obtain ⟨tb, htb⟩ : ∃ tb, w.heap.size + 1 + 1 = tb := ⟨_, rfl⟩
  rw [htb] at HT
  simp only [htb]
  clear htb
  go_upto_region 3 with fail
  obtain ⟨hls, hb2⟩ := rows21 w1
  have HLS := Lib.hid hls
  have B1 := Lib.hid hb2
  have HT2 := Lib.hid (HT.out.later hb2)
  clear hls hb2 HT
  generalize ((((w1.alloc (.cells #[.int .i64 109] 3)).alloc (.cells #[.int .i64 97] 3)).alloc (.cells #[.int .i64 114, .int .i64 110] 3)).alloc (.cells #[.slice (some ⟨w1.heap.size, 0, none⟩) 1 1, .slice (some ⟨w1.heap.size + 1, 0, none⟩) 1 1, .slice (some ⟨w1.heap.size + 1 + 1, 0, none⟩) 2 2] 22)) = w2 at *
  obtain ⟨lb, hlb⟩ : ∃ lb, w1.heap.size + 1 + 1 + 1 = lb := ⟨_, rfl⟩
  rw [hlb] at HLS
  simp only [hlb]
  clear hlb
  have HG2 := Lib.hid (fun W (h : Below w2.heap.size w2 W) => HG.out W (below_next B0.out (below_next B1.out h)))
  have HCL := Lib.hid (fun W (h : Below w2.heap.size w2 W) => classes_any t tab21 _ [[109], [97], [114, 110]] W (HT2.out.later h).2 (HG2.out W h) (HLS.out.later h))
  have HTW := Lib.hid (fun W (h : Below w2.heap.size w2 W) => twins_any t tab21 _ [[109], [97], [114, 110]] W (HT2.out.later h).2 (HG2.out W h) (HLS.out.later h))
  rw [cl21] at HCL
  rw [tw21] at HTW
  clear HG
  obtain ⟨x0, x1, x2, x3, x4, x5, x6, x7, x8, x9, x10, x11⟩ := HT2.out.1.tab
  go_upto_region 4 with (go_at_call 61; refine (HCL.out _ (Below.refl _ _)).mono ?_; rintro e w3 ⟨u3, rfl, ho3, b3⟩; obtain ⟨A3, c3, rfl, _⟩ := id (Ints.of_own ho3); have HU3 := Lib.hid (Ints.of_own ho3); have B3 := Lib.hid b3; clear b3 ho3)
  clear x0 x1 x2 x3 x4 x5 x6 x7 x8 x9 x10 x11
  obtain ⟨x0, x1, x2, x3, x4, x5, x6, x7, x8, x9, x10, x11⟩ := (HT2.out.later B3.out).1.tab
  go_upto_region 5 with (go_at_call 29; refine (HTW.out _ B3.out).mono ?_; rintro e w4 ⟨rfl, b4⟩; have B4 := Lib.hid (below_next B3.out b4); have HU4 := Lib.hid (HU3.out.later b4); clear b4)
  clear x0 x1 x2 x3 x4 x5 x6 x7 x8 x9 x10 x11
  go_wp2_with (go_at_call 17; have bl := (Below.refl w4.heap.size w4).alloc (Nat.le_refl _) (.cells #[.int .i64 0, .int .i64 1, .int .i64 0] 3); refine (same_of _ _ [0, 1, 0] [0, 1, 0] _ (HU4.out.later bl) (by have h := Ints.of_own (own_new w4 3 [0, 1, 0] (by simp)); simpa using h) rfl).mono ?_; rintro e w5 ⟨rfl, b5⟩; have B5 := Lib.hid (below_next B4.out (below_next bl b5)); clear bl b5)
  go_ret
  exact ⟨rfl, below_next B0.out (below_next B1.out B5.out)⟩
end Go.Proofs.YtecpbicfiaifdaaGreatDoor
/-
  The walk through the law ConfuseMade.
-/
namespace Go.Proofs.YtecpbicfiaifdaaGreatDoor
open Go.RowKit ND

/-- A slice of slices that can be read. -/
def ListsP (v : Value) (w : World) : Prop := ∃ ls, Lists w w.heap.size v ls
theorem listsP_later (v : Value) (w w' : World) (h : ListsP v w) (hb : Below w.heap.size w w') : ListsP v w' := by obtain ⟨ls, h⟩ := h; exact ⟨ls, h.later hb⟩
/-- What holds ahead of region 9. -/
structure m21Ctx (w0 : World) (b : Nat) (t : Tv) (T : Tab) (va : Value) (as_ : List Int) (vb : Value) (bs : List Int) : Prop where
  tb : Tbl w0 b t T
  g : Glob w0
  a : Ints w0 w0.heap.size .i64 va as_
  b_ : Ints w0 w0.heap.size .i64 vb bs
def m21Specs (t : Tv) (va : Value) (vb : Value) : List SpecK := [.val (.bool true), .val (.bool true), .val t.val, .val va, .lst (fun _ => True), .val vb, .lst (fun _ => True), .val vb, .lst (fun _ => True), .val va, .lst (fun _ => True), .oth ListsP listsP_later, .val (.bool true), .val (.bool true), .val (.bool true)]
def m21Fixed (b : Nat) (va : Value) (vb : Value) : List (Tmp × Value) := [(1, va), (2, vb), (7, .pointer (some ⟨b, 0, none⟩))]
def m21Ob (w0 : World) (b : Nat) (t : Tv) (va : Value) (vb : Value) (Q : Exit → Act → World → Prop) (k : Nat) : Prop := ObR 24 Tryz.prog (opsAt Tryz.f10 9) 50 [] (m21Fixed b va vb) w0 (m21Specs t va vb) [] Q k
section
variable {w0 : World} {b : Nat} {t : Tv} {T : Tab} {va : Value} {as_ : List Int} {vb : Value} {bs : List Int} {Q : Exit → Act → World → Prop}
theorem m21_ob0 (H : m21Ctx w0 b t T va as_ vb bs) : m21Ob w0 b t va vb Q 0 := by
  intro o ho a w hb hf hd K hK
  rw [if_pos (wanted_none _ (get_op (·.guard) ho (by kernel_rfl)))]
  refine ob_enter (enter0 (tys := #[]) (get_op (·.op) ho (by kernel_rfl)) (fun args w => enters_of Tryz.func31 (by kernel_rfl) rfl args w)) (awake21 w (H.g.later hb)) fun e w' ⟨he, h1⟩ => ⟨_, he, ?_⟩
  exact hK _ _ (rk_of rfl rfl) (.inl h1)
theorem m21_ob1 : m21Ob w0 b t va vb Q 1 := by
  intro o ho a w hb hf hd K hK
  rw [if_pos (wanted_none _ (get_op (·.guard) ho (by kernel_rfl)))]
  obtain ⟨v0, h0, e0⟩ := dep_k (F := 24) ho hd 0 36 (.val (.bool true)) (by kernel_rfl) (by kernel_rfl) rfl (by kernel_rfl)
  obtain rfl : _ = v0 := Eq.symm e0
  exact ob_move (get_op (·.op) ho (by kernel_rfl)) (eval_tmp h0) (hK _ _ (rk_of rfl rfl) (.inl (Below.refl _ _)))
theorem m21_ob2 (H : m21Ctx w0 b t T va as_ vb bs) : m21Ob w0 b t va vb Q 2 := by
  intro o ho a w hb hf hd K hK
  obtain ⟨v1, h1, e1⟩ := dep_k (F := 24) ho hd 1 37 (.val (.bool true)) (by kernel_rfl) (by kernel_rfl) rfl (by kernel_rfl)
  obtain rfl : _ = v1 := Eq.symm e1
  rw [if_pos (wanted_at (g := 1) (b := true) ho (by kernel_rfl) (by kernel_rfl) h1 rfl)]
  exact ob_value (load_tab (H.tb.later hb) (get_op (·.op) ho (by kernel_rfl)) (eval_tmp (hf.2.2 (7, _) (by simp [m21Fixed])))) (hK _ _ (rk_of rfl rfl) (.inl (Below.refl _ _)))
theorem m21_ob3 : m21Ob w0 b t va vb Q 3 := by
  intro o ho a w hb hf hd K hK
  obtain ⟨v1, h1, e1⟩ := dep_k (F := 24) ho hd 1 37 (.val (.bool true)) (by kernel_rfl) (by kernel_rfl) rfl (by kernel_rfl)
  obtain rfl : _ = v1 := Eq.symm e1
  rw [if_pos (wanted_at (g := 1) (b := true) ho (by kernel_rfl) (by kernel_rfl) h1 rfl)]
  exact ob_move (get_op (·.op) ho (by kernel_rfl)) (eval_tmp (hf.2.2 (1, _) (by simp [m21Fixed]))) (hK _ _ (rk_of rfl rfl) (.inl (Below.refl _ _)))
theorem m21_ob4 (H : m21Ctx w0 b t T va as_ vb bs) : m21Ob w0 b t va vb Q 4 := by
  intro o ho a w hb hf hd K hK
  obtain ⟨v1, h1, e1⟩ := dep_k (F := 24) ho hd 1 37 (.val (.bool true)) (by kernel_rfl) (by kernel_rfl) rfl (by kernel_rfl)
  obtain rfl : _ = v1 := Eq.symm e1
  rw [if_pos (wanted_at (g := 1) (b := true) ho (by kernel_rfl) (by kernel_rfl) h1 rfl)]
  obtain ⟨v3, h3, e3⟩ := dep_k (F := 24) ho hd 3 39 (.val va) (by kernel_rfl) (by kernel_rfl) rfl (by kernel_rfl)
  obtain rfl : _ = v3 := Eq.symm e3
  refine ob_enter (enter1 (tys := #[22]) (x := .tmp 39) (get_op (·.op) ho (by kernel_rfl)) (eval_tmp h3) (fun args w => enters_of Tryz.func24 (by kernel_rfl) rfl args w)) (word_any w _ _ (H.a.later hb)) fun e w' ⟨v, ys, he, h2, _, _, h1, _⟩ => ⟨v, he, ?_⟩
  exact hK _ _ (rk_of rfl ⟨ys, Ints.of_own h2, trivial⟩) (.inl h1)
theorem m21_ob5 : m21Ob w0 b t va vb Q 5 := by
  intro o ho a w hb hf hd K hK
  obtain ⟨v1, h1, e1⟩ := dep_k (F := 24) ho hd 1 37 (.val (.bool true)) (by kernel_rfl) (by kernel_rfl) rfl (by kernel_rfl)
  obtain rfl : _ = v1 := Eq.symm e1
  rw [if_pos (wanted_at (g := 1) (b := true) ho (by kernel_rfl) (by kernel_rfl) h1 rfl)]
  exact ob_move (get_op (·.op) ho (by kernel_rfl)) (eval_tmp (hf.2.2 (2, _) (by simp [m21Fixed]))) (hK _ _ (rk_of rfl rfl) (.inl (Below.refl _ _)))
theorem m21_ob6 (H : m21Ctx w0 b t T va as_ vb bs) : m21Ob w0 b t va vb Q 6 := by
  intro o ho a w hb hf hd K hK
  obtain ⟨v1, h1, e1⟩ := dep_k (F := 24) ho hd 1 37 (.val (.bool true)) (by kernel_rfl) (by kernel_rfl) rfl (by kernel_rfl)
  obtain rfl : _ = v1 := Eq.symm e1
  rw [if_pos (wanted_at (g := 1) (b := true) ho (by kernel_rfl) (by kernel_rfl) h1 rfl)]
  obtain ⟨v5, h5, e5⟩ := dep_k (F := 24) ho hd 5 41 (.val vb) (by kernel_rfl) (by kernel_rfl) rfl (by kernel_rfl)
  obtain rfl : _ = v5 := Eq.symm e5
  refine ob_enter (enter1 (tys := #[22]) (x := .tmp 41) (get_op (·.op) ho (by kernel_rfl)) (eval_tmp h5) (fun args w => enters_of Tryz.func13 (by kernel_rfl) rfl args w)) (points_any w _ _ (H.b_.later hb)) fun e w' ⟨v, ys, he, h2, _, _, h1⟩ => ⟨v, he, ?_⟩
  exact hK _ _ (rk_of rfl ⟨ys, h2, trivial⟩) (.inl h1)
theorem m21_ob7 : m21Ob w0 b t va vb Q 7 := by
  intro o ho a w hb hf hd K hK
  obtain ⟨v1, h1, e1⟩ := dep_k (F := 24) ho hd 1 37 (.val (.bool true)) (by kernel_rfl) (by kernel_rfl) rfl (by kernel_rfl)
  obtain rfl : _ = v1 := Eq.symm e1
  rw [if_pos (wanted_at (g := 1) (b := true) ho (by kernel_rfl) (by kernel_rfl) h1 rfl)]
  exact ob_move (get_op (·.op) ho (by kernel_rfl)) (eval_tmp (hf.2.2 (2, _) (by simp [m21Fixed]))) (hK _ _ (rk_of rfl rfl) (.inl (Below.refl _ _)))
theorem m21_ob8 (H : m21Ctx w0 b t T va as_ vb bs) : m21Ob w0 b t va vb Q 8 := by
  intro o ho a w hb hf hd K hK
  obtain ⟨v1, h1, e1⟩ := dep_k (F := 24) ho hd 1 37 (.val (.bool true)) (by kernel_rfl) (by kernel_rfl) rfl (by kernel_rfl)
  obtain rfl : _ = v1 := Eq.symm e1
  rw [if_pos (wanted_at (g := 1) (b := true) ho (by kernel_rfl) (by kernel_rfl) h1 rfl)]
  obtain ⟨v7, h7, e7⟩ := dep_k (F := 24) ho hd 7 43 (.val vb) (by kernel_rfl) (by kernel_rfl) rfl (by kernel_rfl)
  obtain rfl : _ = v7 := Eq.symm e7
  refine ob_enter (enter1 (tys := #[22]) (x := .tmp 43) (get_op (·.op) ho (by kernel_rfl)) (eval_tmp h7) (fun args w => enters_of Tryz.func24 (by kernel_rfl) rfl args w)) (word_any w _ _ (H.b_.later hb)) fun e w' ⟨v, ys, he, h2, _, _, h1, _⟩ => ⟨v, he, ?_⟩
  exact hK _ _ (rk_of rfl ⟨ys, Ints.of_own h2, trivial⟩) (.inl h1)
theorem m21_ob9 : m21Ob w0 b t va vb Q 9 := by
  intro o ho a w hb hf hd K hK
  obtain ⟨v1, h1, e1⟩ := dep_k (F := 24) ho hd 1 37 (.val (.bool true)) (by kernel_rfl) (by kernel_rfl) rfl (by kernel_rfl)
  obtain rfl : _ = v1 := Eq.symm e1
  rw [if_pos (wanted_at (g := 1) (b := true) ho (by kernel_rfl) (by kernel_rfl) h1 rfl)]
  exact ob_move (get_op (·.op) ho (by kernel_rfl)) (eval_tmp (hf.2.2 (1, _) (by simp [m21Fixed]))) (hK _ _ (rk_of rfl rfl) (.inl (Below.refl _ _)))
theorem m21_ob10 (H : m21Ctx w0 b t T va as_ vb bs) : m21Ob w0 b t va vb Q 10 := by
  intro o ho a w hb hf hd K hK
  obtain ⟨v1, h1, e1⟩ := dep_k (F := 24) ho hd 1 37 (.val (.bool true)) (by kernel_rfl) (by kernel_rfl) rfl (by kernel_rfl)
  obtain rfl : _ = v1 := Eq.symm e1
  rw [if_pos (wanted_at (g := 1) (b := true) ho (by kernel_rfl) (by kernel_rfl) h1 rfl)]
  obtain ⟨v9, h9, e9⟩ := dep_k (F := 24) ho hd 9 45 (.val va) (by kernel_rfl) (by kernel_rfl) rfl (by kernel_rfl)
  obtain rfl : _ = v9 := Eq.symm e9
  refine ob_enter (enter1 (tys := #[22]) (x := .tmp 45) (get_op (·.op) ho (by kernel_rfl)) (eval_tmp h9) (fun args w => enters_of Tryz.func24 (by kernel_rfl) rfl args w)) (word_any w _ _ (H.a.later hb)) fun e w' ⟨v, ys, he, h2, _, _, h1, _⟩ => ⟨v, he, ?_⟩
  exact hK _ _ (rk_of rfl ⟨ys, Ints.of_own h2, trivial⟩) (.inl h1)
theorem m21_ob11 : m21Ob w0 b t va vb Q 11 := by
  intro o ho a w hb hf hd K hK
  obtain ⟨v1, h1, e1⟩ := dep_k (F := 24) ho hd 1 37 (.val (.bool true)) (by kernel_rfl) (by kernel_rfl) rfl (by kernel_rfl)
  obtain rfl : _ = v1 := Eq.symm e1
  rw [if_pos (wanted_at (g := 1) (b := true) ho (by kernel_rfl) (by kernel_rfl) h1 rfl)]
  obtain ⟨v8, h8, e8⟩ := dep_k (F := 24) ho hd 8 44 (.lst (fun _ => True)) (by kernel_rfl) (by kernel_rfl) rfl (by kernel_rfl)
  obtain ⟨v10, h10, e10⟩ := dep_k (F := 24) ho hd 10 46 (.lst (fun _ => True)) (by kernel_rfl) (by kernel_rfl) rfl (by kernel_rfl)
  obtain ⟨ys8, hi8, _⟩ := e8
  obtain ⟨A8, c8, rfl, _⟩ := id hi8
  obtain ⟨ys10, hi10, _⟩ := e10
  obtain ⟨A10, c10, rfl, _⟩ := id hi10
  have hop : o.op = .buildSlice 44 2 #[(0, .tmp 44), (1, .tmp 46)] := (get_op (·.op) ho (by kernel_rfl))
  have hr : (execOp a.eval o).run Tryz.prog w = .ok (.value (.slice (some ⟨w.heap.size, 0, none⟩) 2 2)) (w.alloc (.cells #[.slice A8 ys8.length c8, .slice A10 ys10.length c10] 22)) := by
    unfold execOp
    rw [hop]
    go_simp
  exact ob_run5 hr (hK _ _ (rk_of rfl ⟨_, lists_two w _ _ _ _ hi8 hi10⟩) (.inl ((Below.refl _ _).alloc (Nat.le_refl _) _)))
theorem m21_ob12 (H : m21Ctx w0 b t T va as_ vb bs) : m21Ob w0 b t va vb Q 12 := by
  intro o ho a w hb hf hd K hK
  obtain ⟨v1, h1, e1⟩ := dep_k (F := 24) ho hd 1 37 (.val (.bool true)) (by kernel_rfl) (by kernel_rfl) rfl (by kernel_rfl)
  obtain rfl : _ = v1 := Eq.symm e1
  rw [if_pos (wanted_at (g := 1) (b := true) ho (by kernel_rfl) (by kernel_rfl) h1 rfl)]
  obtain ⟨v2, h2, e2⟩ := dep_k (F := 24) ho hd 2 38 (.val t.val) (by kernel_rfl) (by kernel_rfl) rfl (by kernel_rfl)
  obtain rfl : _ = v2 := Eq.symm e2
  obtain ⟨v4, h4, e4⟩ := dep_k (F := 24) ho hd 4 40 (.lst (fun _ => True)) (by kernel_rfl) (by kernel_rfl) rfl (by kernel_rfl)
  obtain ⟨v6, h6, e6⟩ := dep_k (F := 24) ho hd 6 42 (.lst (fun _ => True)) (by kernel_rfl) (by kernel_rfl) rfl (by kernel_rfl)
  obtain ⟨v11, h11, e11⟩ := dep_k (F := 24) ho hd 11 47 (.oth ListsP listsP_later) (by kernel_rfl) (by kernel_rfl) rfl (by kernel_rfl)
  obtain ⟨ys4, hi4, hp4⟩ := e4
  obtain ⟨ys6, hi6, hp6⟩ := e6
  obtain ⟨ls11, hl11⟩ := e11
  refine ob_enter (enter4 (tys := #[26, 22, 22, 44]) (x := .tmp 38) (y := .tmp 40) (z := .tmp 42) (q := .tmp 47) (get_op (·.op) ho (by kernel_rfl)) (eval_tmp h2) (eval_tmp h4) (eval_tmp h6) (eval_tmp h11) (fun args w => enters_of Tryz.func35 (by kernel_rfl) rfl args w)) (agrees21_any t T _ _ _ _ _ _ w (H.tb.later hb).2 (H.g.later hb) hi4 hi6 hl11) fun e w' ⟨he, h1⟩ => ⟨_, he, ?_⟩
  exact hK _ _ (rk_of rfl rfl) (.inl h1)
theorem m21_ob13 : m21Ob w0 b t va vb Q 13 := by
  intro o ho a w hb hf hd K hK
  rw [if_pos (wanted_none _ (get_op (·.guard) ho (by kernel_rfl)))]
  obtain ⟨v1, h1, e1⟩ := dep_k (F := 24) ho hd 1 37 (.val (.bool true)) (by kernel_rfl) (by kernel_rfl) rfl (by kernel_rfl)
  obtain rfl : _ = v1 := Eq.symm e1
  obtain ⟨v12, h12, e12⟩ := dep_k (F := 24) ho hd 12 48 (.val (.bool true)) (by kernel_rfl) (by kernel_rfl) rfl (by kernel_rfl)
  obtain rfl : _ = v12 := Eq.symm e12
  exact ob_pick (c := .tmp 37) (x := .tmp 48) (y := .const (.bool false)) (b := true) (get_op (·.op) ho (by kernel_rfl)) (eval_tmp h1) (eval_tmp h12) (hK _ _ (rk_of rfl rfl) (.inl (Below.refl _ _)))
theorem m21_ob14 : m21Ob w0 b t va vb Q 14 := by
  intro o ho a w hb hf hd K hK
  rw [if_pos (wanted_none _ (get_op (·.guard) ho (by kernel_rfl)))]
  obtain ⟨v13, h13, e13⟩ := dep_k (F := 24) ho hd 13 49 (.val (.bool true)) (by kernel_rfl) (by kernel_rfl) rfl (by kernel_rfl)
  obtain rfl : _ = v13 := Eq.symm e13
  exact ob_assign (get_op (·.op) ho (by kernel_rfl)) (eval_tmp h13) (hK _ _ (rk_of rfl rfl) (.inl (Below.refl _ _)))
theorem m21_obs (H : m21Ctx w0 b t T va as_ vb bs) (k : Nat) (hk : k < 15) : m21Ob w0 b t va vb Q k := by
  match k, hk with
  | 0, _ => exact m21_ob0 H
  | 1, _ => exact m21_ob1
  | 2, _ => exact m21_ob2 H
  | 3, _ => exact m21_ob3
  | 4, _ => exact m21_ob4 H
  | 5, _ => exact m21_ob5
  | 6, _ => exact m21_ob6 H
  | 7, _ => exact m21_ob7
  | 8, _ => exact m21_ob8 H
  | 9, _ => exact m21_ob9
  | 10, _ => exact m21_ob10 H
  | 11, _ => exact m21_ob11
  | 12, _ => exact m21_ob12 H
  | 13, _ => exact m21_ob13
  | 14, _ => exact m21_ob14
  | m + 15, h => exact absurd h (by omega)
theorem m21_region {a : Act} (H : m21Ctx w0 b t T va as_ vb bs) (hf : FS 50 [] (m21Fixed b va vb) a)
    (hend : ∀ a w, Below w0.heap.size w0 w → FS 50 [] (m21Fixed b va vb) a → (∀ (i : Nat) (o : Oper) (d : Tmp), (opsAt Tryz.f10 9)[i]? = some o → (∀ j, killK (m21Specs t va vb) [] i j = false) → o.dst = some d → ∃ v, a.tmps[d]? = some v ∧ RK w0.heap.size (m21Specs t va vb) i v w) → Q .normal a w) : (Code.region 9 (opsAt Tryz.f10 9) true).wp Tryz.prog Q a w0 := by
  refine wp_region_k 24 (n := 50) (ds := []) (fixed := m21Fixed b va vb) (specs := m21Specs t va vb) (apps := []) (by kernel_rfl) (by kernel_rfl) (by kernel_rfl) (by kernel_rfl) hf (fun i hi => m21_obs H i ?_) hend
  have hn : (opsAt Tryz.f10 9).size = 15 := by kernel_rfl
  omega
end

set_option maxRecDepth 100000 in
set_option maxHeartbeats 8000000 in
theorem ConfuseMade_go (W : World) (hg : Glob W) (v : Value) (xs : List Int) (hv : Ints W W.heap.size .i64 v xs) (vm : Value) (ms : List Int) (hvm : Ints W W.heap.size .i64 vm ms) (vo : Value) (os_ : List Int) (hvo : Ints W W.heap.size .i64 vo os_) :
    Calls Tryz.prog 10 #[v, vm, vo] W fun e W' => e = .returned (.bool true) ∧ Below W.heap.size W W' := by
  have HG := Lib.hid hg
  have HM := Lib.hid hvm
  have HO := Lib.hid hvo
  obtain ⟨Ax, cx, rfl, _⟩ := id hv
  obtain ⟨Am, cm, rfl, _⟩ := id hvm
  obtain ⟨Ao, co, rfl, _⟩ := id hvo
  have HT := Lib.hid (keepTables_any W _ xs hv)
  clear hv hg hvm hvo
  go_enter Tryz.func10, Tryz.ntmps10
  go_upto_region 2 with (go_at_call 12; refine HT.out.mono ?_; rintro e w1 ⟨t, T, rfl, ht1, hm1, hb1⟩; obtain ⟨A0, A1, A2, A3, A4, A5, A6, A7, A8, A9, A10, A11, k0, k1, k2, k3, k4, k5, k6, k7, k8, k9, k10, k11, rfl⟩ := ht1.shape; have HT1 := Lib.hid ht1; have HB1 := Lib.hid hb1; have HM1 := Lib.hid hm1; clear ht1 hb1 hm1)
  obtain ⟨t, ht, htb⟩ := Tbl.new HT1.out
  have HT2 := Lib.hid htb
  have HB2 := Lib.hid (HB1.out.alloc HB1.out.size (.cells #[.slice A0 T.category.length k0, .slice A1 T.cls.length k1, .slice A2 T.joining.length k2, .slice A3 T.bidi.length k3, .slice A4 T.script.length k4, .slice A5 T.status.length k5, .slice A6 T.ignorable.length k6, .slice A7 T.extensions.length k7, .slice A8 T.maps.length k8, .slice A9 T.decomps.length k9, .slice A10 T.excluded.length k10, .slice A11 T.prototypes.length k11] 26))
  clear htb HT1 HT
  generalize w1.alloc (.cells #[.slice A0 T.category.length k0, .slice A1 T.cls.length k1, .slice A2 T.joining.length k2, .slice A3 T.bidi.length k3, .slice A4 T.script.length k4, .slice A5 T.status.length k5, .slice A6 T.ignorable.length k6, .slice A7 T.extensions.length k7, .slice A8 T.maps.length k8, .slice A9 T.decomps.length k9, .slice A10 T.excluded.length k10, .slice A11 T.prototypes.length k11] 26) = w2 at *
  generalize w1.heap.size = tb at *
  clear ht HM1
  have HG2 := Lib.hid (HG.out.later HB2.out)
  have HM2 := Lib.hid (HM.out.later HB2.out)
  have HO2 := Lib.hid (HO.out.later HB2.out)
  clear HG HM HO
  go_upto_region 3 with (go_at_call 28; refine (words21_any _ (.slice Am ms.length cm) ms HM2.out Tryz.infoRow).mono ?_; rintro e w3 ⟨u3, yss, rfl, hl3, hyl, hys, b3⟩; obtain ⟨A3, c3, rfl, _⟩ := id hl3; have HL3 := Lib.hid hl3; have B3 := Lib.hid b3; clear hl3 b3 hys)
  have HT3 := Lib.hid (HT2.out.later B3.out)
  have HG3 := Lib.hid (HG2.out.later B3.out)
  have HM3 := Lib.hid (HM2.out.later B3.out)
  have HO3 := Lib.hid (HO2.out.later B3.out)
  have HB3 := Lib.hid (below_next HB2.out B3.out)
  clear HT2 HG2 HM2 HO2 HB2 B3
  go_wp2_with fail
  go_loopw [17] (fun si wr => ∃ (i : Nat), i ≤ yss.length ∧ si = .int .i64 i ∧ Hid (Below w3.heap.size w3 wr)) (fun si _ => yss.length - (intOf si).toNat)
  case atStart => exact ⟨0, by omega, rfl, Lib.hid (Below.refl _ _)⟩
  case round =>
    obtain ⟨i, hi, rfl, HBr⟩ := hrel
    by_cases hlt : i < yss.length
    · obtain ⟨la, hla⟩ : ∃ l, yss[i]? = some l := ⟨_, List.getElem?_eq_getElem hlt⟩
      obtain ⟨r, hr⟩ : ∃ r, (i + 1) % yss.length = r := ⟨_, rfl⟩
      have hrl : r < yss.length := by rw [← hr]; exact Nat.mod_lt _ (by omega)
      obtain ⟨lr, hlr⟩ : ∃ l, yss[r]? = some l := ⟨_, List.getElem?_eq_getElem hrl⟩
      obtain ⟨aw, A5, c5, rfl, haw, hcw, hiw⟩ : ∃ aw A5 c5, A3 = some aw ∧ aw.block < w3.heap.size ∧ w3.cell? (aw.add i) = some (.slice A5 la.length c5) ∧ Ints w3 w3.heap.size .i64 (.slice A5 la.length c5) la := by
        obtain ⟨Aq, cq, ad, A', c', hve, e, hb, hce, hii⟩ := HL3.out.at_ hla
        cases hve
        exact ⟨ad, A', c', e, hb, hce, hii⟩
      obtain ⟨A6, c6, hcr, hir⟩ : ∃ A6 c6, w3.cell? (aw.add r) = some (.slice A6 lr.length c6) ∧ Ints w3 w3.heap.size .i64 (.slice A6 lr.length c6) lr := by
        obtain ⟨Aq, cq, ad, A', c', hve, e, hb, hce, hii⟩ := HL3.out.at_ hlr
        cases hve
        cases e
        exact ⟨A', c', hce, hii⟩
      have HTr := Lib.hid (HT3.out.later HBr.out)
      have HAx : Hid (∀ V, Below wr.heap.size wr V → Calls Tryz.prog 35 #[.agg #[t.c0, t.c1, t.c2, t.c3, t.c4, t.c5, t.c6, t.c7, t.c8, t.c9, t.c10, t.c11], .slice A5 la.length c5, .slice A6 lr.length c6, .slice (some aw) yss.length c3] V fun e V' => e = .returned (.bool true) ∧ Below V.heap.size V V') := Lib.hid fun V hV => by
        have hbv := below_then HBr.out (Nat.le_refl _) hV
        exact agrees21_any t T _ la _ lr _ yss V (HTr.out.later hV).2 (HG3.out.later hbv) (hiw.later hbv) (hir.later hbv) (HL3.out.later hbv)
      have e1 := (HBr.out.cell (p := aw.add i) (by rw [block_of_add]; exact haw)).trans hcw
      have er := cell_regrown ((HBr.out.cell (p := aw.add r) (by rw [block_of_add]; exact haw)).trans hcr)
      have i0 : (0 : Int) ≤ (i : Int) := by omega
      have i1 : (i : Int) < (yss.length : Int) := by omega
      have r0 : (0 : Int) ≤ (r : Int) := by omega
      have r1 : (r : Int) < (yss.length : Int) := by omega
      have z1 : IntKind.i64.wrap ((i : Int) + 1) = (i : Int) + 1 := IntWalk.i64_in _ (by omega)
      have z2 : ((i : Int) + 1).tmod (yss.length : Int) = (r : Int) := by
        rw [Int.tmod_eq_emod_of_nonneg (by omega), ← hr]; simp
      have z3 : IntKind.i64.wrap (((i : Int) + 1).tmod (yss.length : Int)) = (r : Int) := by rw [z2]; exact IntWalk.i64_in _ (by omega)
      have z4 : (yss.length : Int) ≠ 0 := by omega
      have z5 : ((yss.length : Int) == 0) = false := beq_eq_false_iff_ne.2 z4
      clear hla hlr hcw hcr hiw hir hr
      go_upto_region 6 with fail
      obtain ⟨x0, x1, x2, x3, x4, x5, x6, x7, x8, x9, x10, x11⟩ := HTr.out.1.tabG
      refine wp_region_quiet_below (by kernel_rfl) (by kernel_rfl) ?_
      repeat (go_big_quiet_step (first | (go_at_call 35; with_reducible exact quiet_t HAx.out)))
      refine wpQuiet_nil ?_
      rintro _ ⟨⟨dq, osq⟩, rfl⟩
      have bq := below_regrown wr dq osq
      have HB6 := Lib.hid (below_then HBr.out (Nat.le_refl _) bq)
      clear bq e1 er HBr x0 x1 x2 x3 x4 x5 x6 x7 x8 x9 x10 x11 HAx HTr z1 z2 z3
      generalize Go.Sort.grow (redrawn wr dq) osq = w6 at *
      go_wp2_with fail
      go_roundw
      case rel => exact ⟨i + 1, by omega, by go_num, HB6⟩
      case measure => simp [intOf]; omega
    · have i1 : ¬ (i : Int) < (yss.length : Int) := by omega
      go_upto_region 9 with fail
      refine wp_region_as (ops := (opsAt Tryz.f10 9)) (by kernel_rfl) ?_
      refine m21_region (b := tb) (t := t) (T := T) (va := .slice Am ms.length cm) (as_ := ms) (vb := .slice Ao os_.length co) (bs := os_) ⟨HT3.out.later HBr.out, HG3.out.later HBr.out, HM3.out.later HBr.out, HO3.out.later HBr.out⟩ ⟨rfl, rfl, by intro p hp; simp [m21Fixed] at hp; rcases hp with rfl | rfl | rfl <;> rfl⟩ ?_
      intro a w9 hc hf hr
      obtain ⟨v9, hv9, e9⟩ := end_k hr 14 6 (.val (.bool true)) (by kernel_rfl) rfl (by kernel_rfl)
      obtain rfl : v9 = .bool true := e9
      rename_i K hK
      refine hK a w9 ?_
      go_wp2
      exact bodyPost_ret (v := .bool true) (by simp [results, Tryz.results10, hv9]) hf.2.1 ⟨rfl, below_next HB3.out (below_then HBr.out (Nat.le_refl _) hc)⟩
theorem ConfuseMade_walk (W : World) (hg : Glob W) (v : Value) (xs : List Int) (hv : Ints W W.heap.size .i64 v xs) (_ : ∀ x ∈ xs, -9223372036854775808 ≤ x ∧ x ≤ 9223372036854775807) (_ : xs.length * 8 ≤ 140737488351232) (vm : Value) (ms : List Int) (hvm : Ints W W.heap.size .i64 vm ms) (_ : ∀ x ∈ ms, -9223372036854775808 ≤ x ∧ x ≤ 9223372036854775807) (_ : ms.length * 8 ≤ 140737488351232) (vo : Value) (os_ : List Int) (hvo : Ints W W.heap.size .i64 vo os_) (_ : ∀ x ∈ os_, -9223372036854775808 ≤ x ∧ x ≤ 9223372036854775807) (_ : os_.length * 8 ≤ 140737488351232) :
    Calls Tryz.prog 10 #[v, vm, vo] W fun e W' => e = .returned (.bool true) ∧ Below W.heap.size W W' := ConfuseMade_go W hg v xs hv vm ms hvm vo os_ hvo
end Go.Proofs.YtecpbicfiaifdaaGreatDoor
