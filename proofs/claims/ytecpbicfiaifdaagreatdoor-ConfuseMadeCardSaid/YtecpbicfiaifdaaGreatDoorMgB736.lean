/-
  Merged texts: lemmas and walks that the last text of this claim leans on.
-/
import Derived.Test.YtecpbicfiaifdaaGreatDoorMgB735
import Derived.Test.YtecpbicfiaifdaaGreatDoorMgB725
import Derived.Test.YtecpbicfiaifdaaGreatDoorMgB722
/-
  The walk through skeleton.Of.
-/
namespace Go.Proofs.YtecpbicfiaifdaaGreatDoor
open Go.RowKit ND

set_option maxRecDepth 100000 in
set_option maxHeartbeats 2000000 in
theorem skOf_any (t : Tv) (T : Tab) (v : Value) (xs : List Int) (w : World) (ht : TabR w w.heap.size t T) (hg : Glob w) (hv : Ints w w.heap.size .i64 v xs) :
    Calls Tryz.prog 16 #[t.val, v] w (RetTwo w (skelR T xs).1 (skelR T xs).2) := by
  obtain ⟨A, c, rfl, _⟩ := id hv
  have HB0 : Hid (Below w.heap.size w (w.alloc (.cells t.cells 26))) := Lib.hid ((Below.refl _ _).alloc (Nat.le_refl _) _)
  have HT : Hid (Tbl (w.alloc (.cells t.cells 26)) w.heap.size t T) := Lib.hid ⟨Blk.new _ _ _, ht.later HB0.out⟩
  have HV := Lib.hid (hv.later HB0.out)
  have HG := Lib.hid (hg.later HB0.out)
  clear ht hv hg
  have H1 := Lib.hid (nfd7_any t T _ xs _ HT.out.2 HG.out HV.out)
  obtain ⟨dl, e1, hd⟩ : ∃ dl e1, nfdR T (accE T xs) xs = (dl, e1) := ⟨_, _, rfl⟩
  rw [hd] at H1
  have H2 := Lib.hid (fun W v (h : Below (w.alloc (.cells t.cells 26)).heap.size (w.alloc (.cells t.cells 26)) W) hi => skm_any t T v dl W (HT.out.later h).2 (HG.out.later h) hi)
  obtain ⟨ml, e2, hm⟩ : ∃ ml e2, skmR T (accE T dl) dl = (ml, e2) := ⟨_, _, rfl⟩
  rw [hm] at H2
  have H3 := Lib.hid (fun W v (h : Below (w.alloc (.cells t.cells 26)).heap.size (w.alloc (.cells t.cells 26)) W) hi => nfd7_any t T v ml W (HT.out.later h).2 (HG.out.later h) hi)
  obtain ⟨rl, e3, hr⟩ : ∃ rl e3, nfdR T (accE T ml) ml = (rl, e3) := ⟨_, _, rfl⟩
  rw [hr] at H3
  by_cases h1 : e1 = 0
  · subst h1
    by_cases h2 : e2 = 0
    · subst h2
      have HR := Lib.hid ((skelR_e3 hd hm).trans hr)
      clear hd hm hr
      generalize skelR T xs = R at *
      go_enter Tryz.func16, Tryz.ntmps16
      go_upto_region 1 with fail
      generalize w.alloc (.cells t.cells 26) = w1 at *
      obtain ⟨x0, x1, x2, x3, x4, x5, x6, x7, x8, x9, x10, x11⟩ := HT.out.1.tab
      go_upto_region 2 with (go_at_call 52; refine H1.out.mono ?_; rintro e w2 ⟨u2, rfl, ho2, b2⟩; obtain ⟨A2, c2, rfl, _⟩ := id (Ints.of_own ho2); have HU2 := Lib.hid (Ints.of_own ho2); clear ho2)
      clear x0 x1 x2 x3 x4 x5 x6 x7 x8 x9 x10 x11
      obtain ⟨x0, x1, x2, x3, x4, x5, x6, x7, x8, x9, x10, x11⟩ := (HT.out.later b2).1.tab
      go_upto_region 5 with (go_at_call 53; refine (H2.out _ _ b2 HU2.out).mono ?_; rintro e w3 ⟨u3, rfl, ho3, b3⟩; obtain ⟨A3, c3, rfl, _⟩ := id (Ints.of_own ho3); have HU3 := Lib.hid (Ints.of_own ho3); have b23 := below_next b2 b3; clear ho3)
      clear x0 x1 x2 x3 x4 x5 x6 x7 x8 x9 x10 x11
      obtain ⟨x0, x1, x2, x3, x4, x5, x6, x7, x8, x9, x10, x11⟩ := (HT.out.later b23).1.tab
      go_wp2_with (go_at_call 52; refine (H3.out _ _ b23 HU3.out).mono ?_; rintro e w4 ⟨u4, rfl, ho4, b4⟩; obtain ⟨A4, c4, rfl, _⟩ := id (Ints.of_own ho4))
      go_ret2
      rw [HR.out]
      exact ⟨_, rfl, row_le ho4 (by have := HB0.out.size; have := b23.size; omega), below_next (below_next HB0.out b23) b4⟩
    · have HR := Lib.hid (skelR_e2 hd hm h2)
      have hb : (e2 != 0) = true := by simpa using h2
      clear hd hm hr h2
      generalize skelR T xs = R at *
      go_enter Tryz.func16, Tryz.ntmps16
      go_upto_region 1 with fail
      generalize w.alloc (.cells t.cells 26) = w1 at *
      obtain ⟨x0, x1, x2, x3, x4, x5, x6, x7, x8, x9, x10, x11⟩ := HT.out.1.tab
      go_upto_region 2 with (go_at_call 52; refine H1.out.mono ?_; rintro e w2 ⟨u2, rfl, ho2, b2⟩; obtain ⟨A2, c2, rfl, _⟩ := id (Ints.of_own ho2); have HU2 := Lib.hid (Ints.of_own ho2); clear ho2)
      clear x0 x1 x2 x3 x4 x5 x6 x7 x8 x9 x10 x11
      obtain ⟨x0, x1, x2, x3, x4, x5, x6, x7, x8, x9, x10, x11⟩ := (HT.out.later b2).1.tab
      go_wp2_with (go_at_call 53; refine (H2.out _ _ b2 HU2.out).mono ?_; rintro e w3 ⟨u3, rfl, ho3, b3⟩; obtain ⟨A3, c3, rfl, _⟩ := id (Ints.of_own ho3); have HU3 := Lib.hid (Ints.of_own ho3); have b23 := below_next b2 b3; clear ho3)
      go_ret2
      rw [HR.out]
      exact ⟨_, rfl, World.ownsRow_nil _ _ _ _, below_next HB0.out b23⟩
  · have HR := Lib.hid (skelR_e1 hd h1)
    have hb : (e1 != 0) = true := by simpa using h1
    clear hd hm hr h1
    generalize skelR T xs = R at *
    go_enter Tryz.func16, Tryz.ntmps16
    go_upto_region 1 with fail
    generalize w.alloc (.cells t.cells 26) = w1 at *
    obtain ⟨x0, x1, x2, x3, x4, x5, x6, x7, x8, x9, x10, x11⟩ := HT.out.1.tab
    go_wp2_with (go_at_call 52; refine H1.out.mono ?_; rintro e w2 ⟨u2, rfl, ho2, b2⟩; obtain ⟨A2, c2, rfl, _⟩ := id (Ints.of_own ho2); have HU2 := Lib.hid (Ints.of_own ho2); clear ho2)
    go_ret2
    rw [HR.out]
    exact ⟨_, rfl, World.ownsRow_nil _ _ _ _, below_next HB0.out b2⟩
end Go.Proofs.YtecpbicfiaifdaaGreatDoor
/-
  The walks through confuse.both and confuse.Same.
-/
namespace Go.Proofs.YtecpbicfiaifdaaGreatDoor
open Go.RowKit ND

set_option maxRecDepth 100000 in
set_option maxHeartbeats 2000000 in
theorem both_any (t : Tv) (T : Tab) (v : Value) (xs : List Int) (u : Value) (us : List Int) (w : World) (ht : TabR w w.heap.size t T) (hg : Glob w) (hv : Ints w w.heap.size .i64 v xs) (hu : Ints w w.heap.size .i64 u us) :
    Calls Tryz.prog 68 #[t.val, v, u] w (RetBoth w (bothR T xs us)) := by
  obtain ⟨A, c, rfl, _⟩ := id hv
  obtain ⟨A', c', rfl, _⟩ := id hu
  have HB0 : Hid (Below w.heap.size w (w.alloc (.cells t.cells 26))) := Lib.hid ((Below.refl _ _).alloc (Nat.le_refl _) _)
  have HT : Hid (Tbl (w.alloc (.cells t.cells 26)) w.heap.size t T) := Lib.hid ⟨Blk.new _ _ _, ht.later HB0.out⟩
  have HV := Lib.hid (hv.later HB0.out)
  have HU := Lib.hid (hu.later HB0.out)
  have HG := Lib.hid (hg.later HB0.out)
  clear ht hv hu hg
  have H1 := Lib.hid (skOf_any t T _ xs _ HT.out.2 HG.out HV.out)
  obtain ⟨x, e1, hd⟩ : ∃ x e1, skelR T xs = (x, e1) := ⟨_, _, rfl⟩
  rw [hd] at H1
  have H2 := Lib.hid (fun W (h : Below (w.alloc (.cells t.cells 26)).heap.size (w.alloc (.cells t.cells 26)) W) => skOf_any t T _ us W (HT.out.later h).2 (HG.out.later h) (HU.out.later h))
  obtain ⟨y, e2, hm⟩ : ∃ y e2, skelR T us = (y, e2) := ⟨_, _, rfl⟩
  rw [hm] at H2
  by_cases h1 : e1 = 0
  · subst h1
    by_cases h2 : e2 = 0
    · subst h2
      have HR := Lib.hid (bothR_3 hd hm)
      clear hd hm
      generalize bothR T xs us = R at *
      go_enter Tryz.func68, Tryz.ntmps68
      go_upto_region 1 with fail
      generalize w.alloc (.cells t.cells 26) = w1 at *
      obtain ⟨x0, x1, x2, x3, x4, x5, x6, x7, x8, x9, x10, x11⟩ := HT.out.1.tab
      go_upto_region 2 with (go_at_call 16; refine H1.out.mono ?_; rintro e w2 ⟨u2, rfl, ho2, b2⟩; obtain ⟨A2, c2, rfl, _⟩ := id (Ints.of_own ho2); have HU2 := Lib.hid (Ints.of_own ho2); clear ho2)
      clear x0 x1 x2 x3 x4 x5 x6 x7 x8 x9 x10 x11
      obtain ⟨x0, x1, x2, x3, x4, x5, x6, x7, x8, x9, x10, x11⟩ := (HT.out.later b2).1.tab
      go_wp2_with (go_at_call 16; refine (H2.out _ b2).mono ?_; rintro e w3 ⟨u3, rfl, ho3, b3⟩; obtain ⟨A3, c3, rfl, _⟩ := id (Ints.of_own ho3); have HU3 := Lib.hid (Ints.of_own ho3); have HX3 := Lib.hid (HU2.out.later b3); have b23 := below_next b2 b3; clear ho3)
      go_ret3
      rw [HR.out]
      exact ⟨_, _, rfl, HX3.out, HU3.out, below_next HB0.out b23⟩
    · have HR := Lib.hid (bothR_2 hd hm h2)
      have hb : (e2 != 0) = true := by simpa using h2
      clear hd hm h2
      generalize bothR T xs us = R at *
      go_enter Tryz.func68, Tryz.ntmps68
      go_upto_region 1 with fail
      generalize w.alloc (.cells t.cells 26) = w1 at *
      obtain ⟨x0, x1, x2, x3, x4, x5, x6, x7, x8, x9, x10, x11⟩ := HT.out.1.tab
      go_upto_region 2 with (go_at_call 16; refine H1.out.mono ?_; rintro e w2 ⟨u2, rfl, ho2, b2⟩; obtain ⟨A2, c2, rfl, _⟩ := id (Ints.of_own ho2); have HU2 := Lib.hid (Ints.of_own ho2); clear ho2)
      clear x0 x1 x2 x3 x4 x5 x6 x7 x8 x9 x10 x11
      obtain ⟨x0, x1, x2, x3, x4, x5, x6, x7, x8, x9, x10, x11⟩ := (HT.out.later b2).1.tab
      go_wp2_with (go_at_call 16; refine (H2.out _ b2).mono ?_; rintro e w3 ⟨u3, rfl, ho3, b3⟩; obtain ⟨A3, c3, rfl, _⟩ := id (Ints.of_own ho3); have HU3 := Lib.hid (Ints.of_own ho3); have HX3 := Lib.hid (HU2.out.later b3); have b23 := below_next b2 b3; clear ho3)
      go_ret3
      rw [HR.out]
      exact ⟨_, _, rfl, Ints.none_, Ints.none_, below_next HB0.out b23⟩
  · have HR := Lib.hid (bothR_1 (b := us) hd h1)
    have hb : (e1 != 0) = true := by simpa using h1
    clear hd hm h1
    generalize bothR T xs us = R at *
    go_enter Tryz.func68, Tryz.ntmps68
    go_upto_region 1 with fail
    generalize w.alloc (.cells t.cells 26) = w1 at *
    obtain ⟨x0, x1, x2, x3, x4, x5, x6, x7, x8, x9, x10, x11⟩ := HT.out.1.tab
    go_wp2_with (go_at_call 16; refine H1.out.mono ?_; rintro e w2 ⟨u2, rfl, ho2, b2⟩; obtain ⟨A2, c2, rfl, _⟩ := id (Ints.of_own ho2); have HU2 := Lib.hid (Ints.of_own ho2); clear ho2)
    go_ret3
    rw [HR.out]
    exact ⟨_, _, rfl, Ints.none_, Ints.none_, below_next HB0.out b2⟩

set_option maxRecDepth 100000 in
set_option maxHeartbeats 1000000 in
theorem cfSame_any (t : Tv) (T : Tab) (v : Value) (xs : List Int) (u : Value) (us : List Int) (w : World) (ht : TabR w w.heap.size t T) (hg : Glob w) (hv : Ints w w.heap.size .i64 v xs) (hu : Ints w w.heap.size .i64 u us) :
    Calls Tryz.prog 36 #[t.val, v, u] w fun e w' => e = .returned (.tuple #[.bool (sameR T xs us).1, .int .i64 (sameR T xs us).2]) ∧ Below w.heap.size w w' := by
  obtain ⟨A, c, rfl, _⟩ := id hv
  obtain ⟨A', c', rfl, _⟩ := id hu
  have HB0 : Hid (Below w.heap.size w (w.alloc (.cells t.cells 26))) := Lib.hid ((Below.refl _ _).alloc (Nat.le_refl _) _)
  have HT : Hid (Tbl (w.alloc (.cells t.cells 26)) w.heap.size t T) := Lib.hid ⟨Blk.new _ _ _, ht.later HB0.out⟩
  have HV := Lib.hid (hv.later HB0.out)
  have HU := Lib.hid (hu.later HB0.out)
  have HG := Lib.hid (hg.later HB0.out)
  clear ht hv hu hg
  have H1 := Lib.hid (both_any t T _ xs _ us _ HT.out.2 HG.out HV.out HU.out)
  obtain ⟨x, y, er, hd⟩ : ∃ x y er, bothR T xs us = (x, y, er) := ⟨_, _, _, rfl⟩
  rw [hd] at H1
  have hs := sameR_of hd
  by_cases h0 : er = 0
  · have hR : sameR T xs us = (decide (x = y), 0) := by
      rcases hs with h | ⟨h, _⟩
      · rw [h, h0]; rfl
      · exact absurd h0 h
    subst h0
    obtain ⟨q, hq⟩ : ∃ q, decide (x = y) = q := ⟨_, rfl⟩
    rw [hq] at hR
    have HR := Lib.hid hR
    have HEQ := Lib.hid (fun v u W hv hu => equal_any v u x y W hv hu)
    rw [hq] at HEQ
    clear hs hd hR hq
    generalize sameR T xs us = R at *
    go_enter Tryz.func36, Tryz.ntmps36
    go_upto_region 1 with fail
    generalize w.alloc (.cells t.cells 26) = w1 at *
    obtain ⟨x0, x1, x2, x3, x4, x5, x6, x7, x8, x9, x10, x11⟩ := HT.out.1.tab
    go_upto_region 2 with (go_at_call 68; refine H1.out.mono ?_; rintro e w2 ⟨u2, u3, rfl, hx2, hy2, b2⟩; obtain ⟨A2, c2, rfl, _⟩ := id hx2; obtain ⟨A3, c3, rfl, _⟩ := id hy2; have HX2 := Lib.hid hx2; have HY2 := Lib.hid hy2; clear hx2 hy2)
    clear x0 x1 x2 x3 x4 x5 x6 x7 x8 x9 x10 x11
    go_wp2_with (go_at_call 65; refine (HEQ.out _ _ _ HX2.out HY2.out).mono ?_; rintro e w3 ⟨rfl, b3⟩)
    go_ret2
    rw [HR.out]
    exact ⟨rfl, below_next (below_next HB0.out b2) b3⟩
  · have hR : sameR T xs us = (false, er) := by
      rcases hs with h | ⟨_, h⟩
      · rw [h]; have : (er == 0) = false := by simpa using h0
        rw [this]; rfl
      · exact h
    have HR := Lib.hid hR
    have hb : (er == 0) = false := by simpa using h0
    clear hs hd hR h0
    generalize sameR T xs us = R at *
    go_enter Tryz.func36, Tryz.ntmps36
    go_upto_region 1 with fail
    generalize w.alloc (.cells t.cells 26) = w1 at *
    obtain ⟨x0, x1, x2, x3, x4, x5, x6, x7, x8, x9, x10, x11⟩ := HT.out.1.tab
    go_wp2_with (go_at_call 68; refine H1.out.mono ?_; rintro e w2 ⟨u2, u3, rfl, hx2, hy2, b2⟩; obtain ⟨A2, c2, rfl, _⟩ := id hx2; obtain ⟨A3, c3, rfl, _⟩ := id hy2; have HX2 := Lib.hid hx2; have HY2 := Lib.hid hy2; clear hx2 hy2)
    go_ret2
    rw [HR.out]
    exact ⟨rfl, below_next HB0.out b2⟩
end Go.Proofs.YtecpbicfiaifdaaGreatDoor
/-
  The walk through confuse.Differ.
-/
namespace Go.Proofs.YtecpbicfiaifdaaGreatDoor
open Go.RowKit ND

set_option maxRecDepth 100000 in
set_option maxHeartbeats 4000000 in
theorem differ_any (t : Tv) (T : Tab) (v : Value) (xs : List Int) (u : Value) (us : List Int) (w : World) (ht : TabR w w.heap.size t T) (hg : Glob w) (hv : Ints w w.heap.size .i64 v xs) (hu : Ints w w.heap.size .i64 u us) :
    Calls Tryz.prog 37 #[t.val, v, u] w fun e w' => e = .returned (.tuple #[.int .i64 (differR T xs us).1, .int .i64 (differR T xs us).2]) ∧ Below w.heap.size w w' := by
  obtain ⟨A, c, rfl, _⟩ := id hv
  obtain ⟨A', c', rfl, _⟩ := id hu
  have HB0 : Hid (Below w.heap.size w (w.alloc (.cells t.cells 26))) := Lib.hid ((Below.refl _ _).alloc (Nat.le_refl _) _)
  have HT : Hid (Tbl (w.alloc (.cells t.cells 26)) w.heap.size t T) := Lib.hid ⟨Blk.new _ _ _, ht.later HB0.out⟩
  have HV := Lib.hid (hv.later HB0.out)
  have HU := Lib.hid (hu.later HB0.out)
  have HG := Lib.hid (hg.later HB0.out)
  clear ht hv hu hg
  have H1 := Lib.hid (both_any t T _ xs _ us _ HT.out.2 HG.out HV.out HU.out)
  obtain ⟨x, y, er, hd⟩ : ∃ x y er, bothR T xs us = (x, y, er) := ⟨_, _, _, rfl⟩
  rw [hd] at H1
  rcases differR_of hd with ⟨h0, hR⟩ | ⟨h0, hR⟩
  · have HR := Lib.hid hR
    have hb : (er != 0) = true := by simpa using h0
    clear hd hR h0
    generalize differR T xs us = R at *
    go_enter Tryz.func37, Tryz.ntmps37
    go_upto_region 1 with fail
    generalize w.alloc (.cells t.cells 26) = w1 at *
    obtain ⟨x0, x1, x2, x3, x4, x5, x6, x7, x8, x9, x10, x11⟩ := HT.out.1.tab
    go_wp2_with (go_at_call 68; refine H1.out.mono ?_; rintro e w2 ⟨u2, u3, rfl, hx2, hy2, b2⟩; obtain ⟨A2, c2, rfl, _⟩ := id hx2; obtain ⟨A3, c3, rfl, _⟩ := id hy2; have HX2 := Lib.hid hx2; have HY2 := Lib.hid hy2; clear hx2 hy2)
    go_ret2
    rw [HR.out]
    exact ⟨rfl, below_next HB0.out b2⟩
  · subst h0
    have HR := Lib.hid hR
    obtain ⟨D, hD⟩ : ∃ D, diffGo 0 x y = D := ⟨_, rfl⟩
    have HD : Hid (diffGo 0 (x.drop 0) (y.drop 0) = D) := Lib.hid hD
    rw [hD] at HR
    clear hd hR hD
    generalize differR T xs us = R at *
    go_enter Tryz.func37, Tryz.ntmps37
    go_upto_region 1 with fail
    generalize w.alloc (.cells t.cells 26) = w1 at *
    obtain ⟨x0, x1, x2, x3, x4, x5, x6, x7, x8, x9, x10, x11⟩ := HT.out.1.tab
    go_upto_region 4 with (go_at_call 68; refine H1.out.mono ?_; rintro e w2 ⟨u2, u3, rfl, hx2, hy2, b2⟩; obtain ⟨A2, c2, rfl, _⟩ := id hx2; obtain ⟨A3, c3, rfl, _⟩ := id hy2; have HX2 := Lib.hid hx2; have HY2 := Lib.hid hy2; clear hx2 hy2)
    clear x0 x1 x2 x3 x4 x5 x6 x7 x8 x9 x10 x11
    have l1 : x.length ≤ 9223372036854775807 := by
      obtain ⟨_, _, e, h1, h2, _⟩ := HX2.out
      unfold maxLen at h2; cases e; omega
    have l2 : y.length ≤ 9223372036854775807 := by
      obtain ⟨_, _, e, h1, h2, _⟩ := HY2.out
      unfold maxLen at h2; cases e; omega
    have HB2 := Lib.hid (below_next HB0.out b2)
    clear b2 HB0 HV HU HT HG H1
    by_cases hm : x.length ≤ y.length
    · have hm1 : (x.length : Int) ≤ (y.length : Int) := by omega
      go_wp2_with fail
      go_loopw [30] (fun si wr => ∃ (j : Nat), j ≤ x.length ∧ si = .int .i64 j ∧ Hid (diffGo j (x.drop j) (y.drop j) = D) ∧ Hid (Below w2.heap.size w2 wr)) (fun si _ => x.length - (intOf si).toNat)
      case atStart => exact ⟨0, by omega, rfl, HD, Lib.hid (Below.refl _ _)⟩
      case round =>
        clear HD
        obtain ⟨j, hj, rfl, HS, HBr⟩ := hrel
        by_cases hlt : j < x.length
        · obtain ⟨xj, hxj⟩ : ∃ z, x[j]? = some z := ⟨_, List.getElem?_eq_getElem (by omega)⟩
          obtain ⟨yj, hyj⟩ : ∃ z, y[j]? = some z := ⟨_, List.getElem?_eq_getElem (by omega)⟩
          obtain ⟨_, _, hve, _, _, _, hcx⟩ := HX2.out
          cases hve
          obtain ⟨_, _, hvf, _, _, _, hcy⟩ := HY2.out
          cases hvf
          obtain ⟨ax, rfl, hax, hdx⟩ := hcx j xj hxj
          obtain ⟨ay, rfl, hay, hdy⟩ := hcy j yj hyj
          have ex := cell_regrown ((HBr.out.cell (p := ax.add j) (by rw [block_of_add]; exact hax)).trans hdx)
          have ey := cell_regrown ((HBr.out.cell (p := ay.add j) (by rw [block_of_add]; exact hay)).trans hdy)
          have j0 : (0 : Int) ≤ (j : Int) := by omega
          have j1 : (j : Int) < (x.length : Int) := by omega
          have j2 : (j : Int) < (y.length : Int) := by omega
          have hon := diff_on hxj hyj
          rw [HS.out] at hon
          have HON := Lib.hid hon
          clear hcx hcy hxj hyj hdx hdy hax hay hon
          go_upto_region 8 with fail
          refine wp_region_quiet_below (by kernel_rfl) (by kernel_rfl) ?_
          repeat (go_big_quiet_step (fail))
          refine wpQuiet_nil ?_
          rintro _ ⟨⟨dq, osq⟩, rfl⟩
          have bq := below_regrown wr dq osq
          have HB5 := Lib.hid (below_then HBr.out (Nat.le_refl _) bq)
          clear bq ex ey HBr
          generalize Go.Sort.grow (redrawn wr dq) osq = w5 at *
          by_cases hxy : xj = yj
          · have hz : (xj != yj) = false := by rw [hxy]; exact bne_self_eq_false _
            have HN : Hid (diffGo (j + 1) (x.drop (j + 1)) (y.drop (j + 1)) = D) := Lib.hid (by have h := HON.out; rw [if_pos hxy] at h; exact h.symm)
            clear hxy
            go_wp2_with fail
            go_roundw
            case rel => exact ⟨j + 1, by omega, by go_num, HN, HB5⟩
            case measure => simp [intOf]; omega
          · have hz : (xj != yj) = true := by simpa using hxy
            have HN : Hid (D = (j : Int)) := Lib.hid (by have h := HON.out; rw [if_neg hxy] at h; exact h)
            clear hxy
            go_wp2_with fail
            go_ret2
            rw [HR.out, HN.out]
            exact ⟨rfl, below_next HB2.out HB5.out⟩
        · obtain rfl : j = x.length := by omega
          have hend := diff_end (x := x) (y := y) (i := x.length) (by omega) (by omega) (by omega)
          rw [HS.out] at hend
          by_cases hll : x.length = y.length
          · rw [if_pos hll] at hend
            have hz : ((x.length : Int) == (y.length : Int)) = true := by rw [hll]; exact beq_self_eq_true _
            have HN := Lib.hid hend
            clear hend hll
            go_wp2_with fail
            go_ret2
            rw [HR.out, HN.out]
            exact ⟨rfl, below_next HB2.out HBr.out⟩
          · rw [if_neg hll] at hend
            have hz : ((x.length : Int) == (y.length : Int)) = false := by rw [beq_eq_false_iff_ne]; omega
            have HN := Lib.hid hend
            clear hend hll
            go_wp2_with fail
            go_ret2
            rw [HR.out, HN.out]
            exact ⟨rfl, below_next HB2.out HBr.out⟩
    · have hm1 : ¬ (x.length : Int) ≤ (y.length : Int) := by omega
      go_wp2_with fail
      go_loopw [30] (fun si wr => ∃ (j : Nat), j ≤ y.length ∧ si = .int .i64 j ∧ Hid (diffGo j (x.drop j) (y.drop j) = D) ∧ Hid (Below w2.heap.size w2 wr)) (fun si _ => y.length - (intOf si).toNat)
      case atStart => exact ⟨0, by omega, rfl, HD, Lib.hid (Below.refl _ _)⟩
      case round =>
        clear HD
        obtain ⟨j, hj, rfl, HS, HBr⟩ := hrel
        by_cases hlt : j < y.length
        · obtain ⟨xj, hxj⟩ : ∃ z, x[j]? = some z := ⟨_, List.getElem?_eq_getElem (by omega)⟩
          obtain ⟨yj, hyj⟩ : ∃ z, y[j]? = some z := ⟨_, List.getElem?_eq_getElem (by omega)⟩
          obtain ⟨_, _, hve, _, _, _, hcx⟩ := HX2.out
          cases hve
          obtain ⟨_, _, hvf, _, _, _, hcy⟩ := HY2.out
          cases hvf
          obtain ⟨ax, rfl, hax, hdx⟩ := hcx j xj hxj
          obtain ⟨ay, rfl, hay, hdy⟩ := hcy j yj hyj
          have ex := cell_regrown ((HBr.out.cell (p := ax.add j) (by rw [block_of_add]; exact hax)).trans hdx)
          have ey := cell_regrown ((HBr.out.cell (p := ay.add j) (by rw [block_of_add]; exact hay)).trans hdy)
          have j0 : (0 : Int) ≤ (j : Int) := by omega
          have j1 : (j : Int) < (x.length : Int) := by omega
          have j2 : (j : Int) < (y.length : Int) := by omega
          have hon := diff_on hxj hyj
          rw [HS.out] at hon
          have HON := Lib.hid hon
          clear hcx hcy hxj hyj hdx hdy hax hay hon
          go_upto_region 8 with fail
          refine wp_region_quiet_below (by kernel_rfl) (by kernel_rfl) ?_
          repeat (go_big_quiet_step (fail))
          refine wpQuiet_nil ?_
          rintro _ ⟨⟨dq, osq⟩, rfl⟩
          have bq := below_regrown wr dq osq
          have HB5 := Lib.hid (below_then HBr.out (Nat.le_refl _) bq)
          clear bq ex ey HBr
          generalize Go.Sort.grow (redrawn wr dq) osq = w5 at *
          by_cases hxy : xj = yj
          · have hz : (xj != yj) = false := by rw [hxy]; exact bne_self_eq_false _
            have HN : Hid (diffGo (j + 1) (x.drop (j + 1)) (y.drop (j + 1)) = D) := Lib.hid (by have h := HON.out; rw [if_pos hxy] at h; exact h.symm)
            clear hxy
            go_wp2_with fail
            go_roundw
            case rel => exact ⟨j + 1, by omega, by go_num, HN, HB5⟩
            case measure => simp [intOf]; omega
          · have hz : (xj != yj) = true := by simpa using hxy
            have HN : Hid (D = (j : Int)) := Lib.hid (by have h := HON.out; rw [if_neg hxy] at h; exact h)
            clear hxy
            go_wp2_with fail
            go_ret2
            rw [HR.out, HN.out]
            exact ⟨rfl, below_next HB2.out HB5.out⟩
        · obtain rfl : j = y.length := by omega
          have hend := diff_end (x := x) (y := y) (i := y.length) (by omega) (by omega) (by omega)
          rw [HS.out] at hend
          by_cases hll : x.length = y.length
          · rw [if_pos hll] at hend
            have hz : ((x.length : Int) == (y.length : Int)) = true := by rw [hll]; exact beq_self_eq_true _
            have HN := Lib.hid hend
            clear hend hll
            go_wp2_with fail
            go_ret2
            rw [HR.out, HN.out]
            exact ⟨rfl, below_next HB2.out HBr.out⟩
          · rw [if_neg hll] at hend
            have hz : ((x.length : Int) == (y.length : Int)) = false := by rw [beq_eq_false_iff_ne]; omega
            have HN := Lib.hid hend
            clear hend hll
            go_wp2_with fail
            go_ret2
            rw [HR.out, HN.out]
            exact ⟨rfl, below_next HB2.out HBr.out⟩
end Go.Proofs.YtecpbicfiaifdaaGreatDoor
/-
  The walks through slices.IndexFunc, over whatever closure, and through the closure of Classes.
-/
namespace Go.Proofs.YtecpbicfiaifdaaGreatDoor
open Go.RowKit ND

set_option maxRecDepth 100000 in
set_option maxHeartbeats 1000000 in
theorem indexFunc_any (g : Nat) (cb : Array Value) (v : Value) (yss : List (List Int)) (p : List Int → Bool) (w : World) (eg : ∀ args w, (callFunc g args).run Tryz.prog w = .ok (.enter g args) w) (hv : Lists w w.heap.size v yss) (hl : yss.length ≤ 1000000)
    (hf : ∀ W u ys, Below w.heap.size w W → Ints W W.heap.size .i64 u ys → Calls Tryz.prog g (#[u] ++ cb) W fun e W' => e = .returned (.bool (p ys)) ∧ Below W.heap.size W W') :
    Calls Tryz.prog 83 #[v, .func (.func g) #[] cb] w fun e w' => e = .returned (.int .i64 (idxGo p 0 yss)) ∧ Below w.heap.size w w' := by
  obtain ⟨A, c, rfl, hc1, hc2, _, hcell⟩ := hv
  have HC := Lib.hid hcell
  have HF := Lib.hid hf
  clear hcell hf hc1 hc2
  obtain ⟨R, hR⟩ : ∃ R, idxGo p 0 yss = R := ⟨_, rfl⟩
  have HR : Hid (idxGo p 0 (yss.drop 0) = R) := Lib.hid hR
  rw [hR]
  clear hR
  go_enter Tryz.func83, Tryz.ntmps83
  go_wp2_with fail
  go_loopw [8] (fun si wr => ∃ (j : Nat), j ≤ yss.length ∧ si = .int .i64 j ∧ Hid (idxGo p j (yss.drop j) = R) ∧ Hid (Below w.heap.size w wr)) (fun si _ => yss.length - (intOf si).toNat)
  case atStart => exact ⟨0, by omega, rfl, HR, Lib.hid (Below.refl _ _)⟩
  case round =>
    clear HR
    obtain ⟨j, hj, rfl, HS, HBr⟩ := hrel
    by_cases hlt : j < yss.length
    · obtain ⟨ys, hys⟩ : ∃ ys, yss[j]? = some ys := ⟨_, List.getElem?_eq_getElem hlt⟩
      obtain ⟨ad, u, rfl, ha, hce, hi⟩ := HC.out j ys hys
      have e1 := (HBr.out.cell (p := ad.add j) (by rw [block_of_add]; exact ha)).trans hce
      have HI := Lib.hid ((hi.below HBr.out).more HBr.out.size)
      have HCx := Lib.hid (HF.out wr u ys HBr.out HI.out)
      have HY := Lib.hid hys
      have j0 : (0 : Int) ≤ (j : Int) := by omega
      have j1 : (j : Int) < (yss.length : Int) := by omega
      clear hce hys hi ha
      obtain ⟨q, hq⟩ : ∃ q, p ys = q := ⟨_, rfl⟩
      rw [hq] at HCx
      cases q with
      | true =>
        have HN := Lib.hid (idx_hit HY.out HS.out hq)
        clear hq
        go_wp2_with fail
        refine HCx.out.mono ?_
        rintro e w5 ⟨rfl, b5⟩
        go_wp2_with fail
        go_ret
        rw [HN.out]
        exact ⟨rfl, below_then HBr.out (Nat.le_refl _) b5⟩
      | false =>
        have HN := Lib.hid (idx_go HY.out HS.out hq)
        clear hq
        go_wp2_with fail
        refine HCx.out.mono ?_
        rintro e w5 ⟨rfl, b5⟩
        go_wp2_with fail
        go_roundw
        case rel => exact ⟨j + 1, by omega, by go_num, HN, Lib.hid (below_then HBr.out (Nat.le_refl _) b5)⟩
        case measure => simp [intOf]; omega
    · have HN := Lib.hid (idx_end (by omega) HS.out)
      go_wp2_with fail
      go_ret
      rw [HN.out]
      exact ⟨rfl, HBr.out⟩
set_option maxRecDepth 100000 in
set_option maxHeartbeats 400000 in
theorem clos21_any (b : Nat) (As : Option Addr) (cs : Nat) (s : List Int) (u : Value) (ys : List Int) (W : World) (hb : Blk W b 22 #[.slice As s.length cs]) (hs : Ints W W.heap.size .i64 (.slice As s.length cs) s) (hu : Ints W W.heap.size .i64 u ys) :
    Calls Tryz.prog 84 #[u, .pointer (some ⟨b, 0, none⟩)] W fun e W' => e = .returned (.bool (decide (ys = s))) ∧ Below W.heap.size W W' := by
  have x0 := hb.cell 0
  have HE := Lib.hid (equal_any u _ ys s W hu hs)
  clear hb hs hu
  go_enter Tryz.func84, Tryz.ntmps84
  go_wp2_with (go_at_call 65; refine HE.out.mono ?_; rintro e w1 ⟨rfl, b1⟩)
  go_ret
  exact ⟨rfl, b1⟩
end Go.Proofs.YtecpbicfiaifdaaGreatDoor
/-
  The walk through confuse.Classes.
-/
namespace Go.Proofs.YtecpbicfiaifdaaGreatDoor
open Go.RowKit ND

theorem Tryz.infoRow : (Tryz.prog.info? 22).map (fun i => (i.zero, i.size, i.bytes)) = some (some (.slice none 0 0), 1, 24) := by kernel_rfl
set_option maxRecDepth 100000 in
set_option maxHeartbeats 8000000 in
theorem classes_any (t : Tv) (T : Tab) (v : Value) (yss : List (List Int)) (w : World) (ht : TabR w w.heap.size t T) (hg : Glob w) (hv : Lists w w.heap.size v yss) :
    Calls Tryz.prog 61 #[t.val, v] w (RetTwo w (classesR T yss).1 (classesR T yss).2) := by
  obtain ⟨A, c, rfl, _⟩ := id hv
  have HB0 : Hid (Below w.heap.size w (w.alloc (.cells t.cells 26))) := Lib.hid ((Below.refl _ _).alloc (Nat.le_refl _) _)
  have HT : Hid (Tbl (w.alloc (.cells t.cells 26)) w.heap.size t T) := Lib.hid ⟨Blk.new _ _ _, ht.later HB0.out⟩
  have HV := Lib.hid (hv.later HB0.out)
  have HG := Lib.hid (hg.later HB0.out)
  clear ht hv hg
  by_cases hbig : 256 < yss.length
  · have HR := Lib.hid (classesR_full (T := T) hbig)
    have g1 : (256 : Int) < (yss.length : Int) := by omega
    clear hbig
    generalize classesR T yss = R at *
    go_enter Tryz.func61, Tryz.ntmps61
    go_wp2_with fail
    go_ret2
    rw [HR.out]
    exact ⟨_, rfl, World.ownsRow_nil _ _ _ _, HB0.out⟩
  · have g1 : ¬ (256 : Int) < (yss.length : Int) := by omega
    have HRE := Lib.hid (fun e (h : firstE T yss = e) h2 => classesR_err (by omega) h h2)
    have HRO := Lib.hid (fun (h : firstE T yss = 0) => classesR_ok (T := T) (by omega) h)
    have hl6 : yss.length ≤ 256 := by omega
    clear hbig
    generalize classesR T yss = R at *
    go_enter Tryz.func61, Tryz.ntmps61
    go_upto_region 1 with fail
    generalize w.alloc (.cells t.cells 26) = w1 at *
    obtain ⟨tb, htb⟩ : ∃ tb, w.heap.size = tb := ⟨_, rfl⟩
    rw [htb] at HT
    simp only [htb]
    obtain ⟨i0, hi, hz0, hz1, hz2⟩ := info_parts Tryz.infoInt'
    obtain ⟨j0, hj, hy0, hy1, hy2⟩ := info_parts Tryz.infoRow
    have eg : ∀ args w, (callFunc 84 args).run Tryz.prog w = .ok (.enter 84 args) w := fun args w => by kernel_rfl
    have HEG := Lib.hid eg
    clear eg
    go_wp2_with fail
    go_loopw [18, 6, 7] (fun si t6 t7 wr => ∃ (k : Nat) (s6 s7 : Value), k ≤ yss.length ∧ si = .int .i64 k ∧ s6 = t6 ∧ s7 = t7 ∧ Hid (firstE T (yss.drop k) = firstE T yss) ∧ Hid (LRowA wr w1.heap.size s6 ((skels T yss).take k) s7.ownBlock) ∧ Hid (wr.ownsRow w1.heap.size 3 1 s7 ((classesL T yss).take k).length (((classesL T yss).take k).map (Value.int .i64))) ∧ Hid (Below w1.heap.size w1 wr)) (fun si _ _ _ => yss.length - (intOf si).toNat)
    case atStart => exact ⟨0, _, _, by omega, rfl, rfl, rfl, Lib.hid rfl, Lib.hid (LRowA.nil _ _), Lib.hid (World.ownsRow_nil _ _ _ _), Lib.hid (Below.refl _ _)⟩
    case round =>
      obtain ⟨k, s6, s7, hk, rfl, rfl, rfl, HE, HLr, HOr, HBr⟩ := hrel
      have HTr := Lib.hid (HT.out.later HBr.out)
      by_cases hlt : k < yss.length
      · obtain ⟨l, hl⟩ : ∃ l, yss[k]? = some l := ⟨_, List.getElem?_eq_getElem hlt⟩
        obtain ⟨_, _, hve, _, _, _, hcell⟩ := HV.out
        cases hve
        obtain ⟨ad, u, rfl, ha, hce, hil⟩ := hcell k l hl
        have e1 := (HBr.out.cell (p := ad.add k) (by rw [block_of_add]; exact ha)).trans hce
        have HIL := Lib.hid ((hil.below HBr.out).more HBr.out.size)
        have H1 := Lib.hid (skOf_any t T u l wr HTr.out.2 (HG.out.later HBr.out) HIL.out)
        have HL := Lib.hid hl
        have k0 : (0 : Int) ≤ (k : Int) := by omega
        have k1 : (k : Int) < (yss.length : Int) := by omega
        clear hcell hce hl hil ha HIL
        obtain ⟨s, er, hs⟩ : ∃ s er, skelR T l = (s, er) := ⟨_, _, rfl⟩
        rw [hs] at H1
        by_cases h0 : er = 0
        · subst h0
          have HE2 := Lib.hid (firstE_go HL.out HE.out hs)
          have HSS := Lib.hid (skels_snoc HL.out hs)
          have HCS := Lib.hid (classes_snoc HL.out hs)
          clear hs
          obtain ⟨x0, x1, x2, x3, x4, x5, x6, x7, x8, x9, x10, x11⟩ := HTr.out.1.tab
          go_upto_region 9 with (go_at_call 16; refine H1.out.mono ?_; rintro e w5 ⟨u5, rfl, ho5, b5⟩; obtain ⟨As, cs, rfl, _⟩ := id (Ints.of_own ho5); have HU5 := Lib.hid (Ints.of_own ho5); have HAD := Lib.hid (own_addr ho5); clear ho5)
          clear x0 x1 x2 x3 x4 x5 x6 x7 x8 x9 x10 x11 H1 e1
          have bl := (Below.refl w5.heap.size w5).alloc (Nat.le_refl _) (.cells #[.slice As s.length cs] 22)
          have HBK := Lib.hid (Blk.new w5 22 #[.slice As s.length cs])
          have HLS := Lib.hid ((HLr.out.later b5).later bl)
          have HOS := Lib.hid (own_later (own_later HOr.out b5) bl)
          have HBS := Lib.hid (below_then (below_then HBr.out (Nat.le_refl _) b5) (by have := HBr.out.size; have := b5.size; omega) bl)
          have HUS := Lib.hid (HU5.out.later bl)
          have HSZ : Hid (wr.heap.size ≤ w5.heap.size) := Lib.hid b5.size
          have HSB : Hid (w5.heap.size ≤ (w5.alloc (.cells #[.slice As s.length cs] 22)).heap.size) := Lib.hid bl.size
          have HFR : Hid (∀ ad, As = some ad → wr.heap.size ≤ ad.block) := Lib.hid (fun ad ha => (HAD.out ad ha).1)
          clear b5 bl HU5
          generalize w5.alloc (.cells #[.slice As s.length cs] 22) = w6 at *
          obtain ⟨sb, hsb⟩ : ∃ sb, w5.heap.size = sb := ⟨_, rfl⟩
          rw [hsb] at HBK
          simp only [hsb]
          have n1 : ((skels T yss).take k).length = k := by rw [List.length_take, skels_length]; omega
          have n2 : ((classesL T yss).take k).length = k := by rw [List.length_take, classesL_length]; omega
          have HN1 := Lib.hid n1
          have HN2 := Lib.hid n2
          have HIX := Lib.hid (indexFunc_any 84 #[.pointer (some ⟨sb, 0, none⟩)] s6 ((skels T yss).take k) (fun y => decide (y = s)) w6 HEG.out (LRowA.toL HLS.out).lists (by omega) (fun W u ys hb hi => by simpa using clos21_any sb As cs s u ys W (HBK.out.later hb) (HUS.out.later hb) hi))
          have hci := class_idx HSS.out
          clear n1 n2
          obtain ⟨ix, hix⟩ : ∃ ix, idxGo (fun y => decide (y = s)) 0 ((skels T yss).take k) = ix := ⟨_, rfl⟩
          rw [hix] at HIX hci
          clear hix
          obtain ⟨f, hf⟩ : ∃ f, classOfI (skels T yss) s = f := ⟨_, rfl⟩
          rw [hf] at hci HCS
          clear hf
          go_upto_region 12 with (go_at_call 83; refine HIX.out.mono ?_; rintro e w7 ⟨rfl, b7⟩)
          have bl7 := (Below.refl w7.heap.size w7).alloc (Nat.le_refl _) (.cells #[.slice As s.length cs] 22)
          have x0 := (HBK.out.later b7).cell 0
          have HL7 := Lib.hid ((HLS.out.later b7).later bl7)
          have HO7 := Lib.hid (own_later (own_later HOS.out b7) bl7)
          have HB7 := Lib.hid (below_then (below_then HBS.out (Nat.le_refl _) b7) (Nat.le_refl _) bl7)
          have HU7 := Lib.hid ((HUS.out.later b7).later bl7)
          have HD7 : Hid (∀ ad, As = some ad → ad.block < (w7.alloc (.cells #[.slice As s.length cs] 22)).heap.size ∧ s6.ownBlock ≠ some ad.block ∧ s7.ownBlock ≠ some ad.block) := Lib.hid (fun ad ha => by
            obtain ⟨q1, q2⟩ := HLr.out.lt
            have q3 := HFR.out ad ha
            have q4 : ad.block < w7.heap.size := by
              have := (HAD.out ad ha).2
              have := HSB.out
              have := b7.size
              omega
            refine ⟨by simp; omega, fun h => ?_, fun h => ?_⟩
            · have := q1 _ h; omega
            · have := q2 _ h; omega)
          clear HIX HUS HLS HOS HBS HBK bl7 HLr HOr HBr b7 HEG HAD HSB HFR HSZ
          rcases hci with hi1 | ⟨hi1, hi2, hi3⟩
          · obtain ⟨rfl, rfl⟩ := hi1
            have HNX : Hid ((skels T yss).take (k + 1) = (skels T yss).take k ++ [s] ∧ (classesL T yss).take (k + 1) = (classesL T yss).take k ++ [(k : Int)]) := Lib.hid ⟨take_snoc21 HSS.out, take_snoc21 HCS.out⟩
            clear HSS HCS
            generalize (skels T yss).take k = sk at *
            generalize (classesL T yss).take k = ck at *
            go_wp2_with (first
              | (at_builtin; refine wpList_append_sliceA (by rfl) (.tmp 38) (.tmp 40) rfl Tryz.underlying44 hj hy0 hy1 hy2 w1.heap.size s6 sk ⟨w7.heap.size, 0, none⟩ As cs s rfl s7.ownBlock HL7.out rfl ((Blk.new w7 22 #[.slice As s.length cs]).cell 0) HU7.out HD7.out (by have := HN1.out; omega) HB7.out.size ?_; intro v8 w8 hr8 hg8; have HL8 := Lib.hid hr8; have HO8 := Lib.hid (own_other HO7.out hg8 HL7.out.apart); have HB8 := Lib.hid (HB7.out.trans (hg8.below HL7.out.above HB7.out.size)); clear hr8 hg8)
              | (at_builtin; refine wpList_append_gr (by rfl) (.tmp 42) (.tmp 44) rfl Tryz.underlying22 hi hz0 hz1 hz2 (w8.heap.size + 1) w1.heap.size s7 ck (.slice (some ⟨w8.heap.size, 0, none⟩) 1 1) [(k : Int)] rfl (HO8.out.alloc _) rfl (by have h := Ints.of_own (own_new w8 3 [(k : Int)] (by simp)); simpa using h) (by have := HN2.out; simp; omega) (by have := HB8.out.size; simp; omega) ?_; intro v9 w9 ho9 hg9; have HO9 := Lib.hid ho9; have HL9 := Lib.hid ((HL8.out.later ((Below.refl w8.heap.size w8).alloc (Nat.le_refl _) _)).other hg9 (fun g hg => (own_base ho9 g hg).2)); have HB9 := Lib.hid ((below_then HB8.out (Nat.le_refl _) ((Below.refl w8.heap.size w8).alloc (Nat.le_refl _) _)).trans (hg9.below (fun g hg => (own_base HO8.out g hg).1) (by have := HB8.out.size; simp; omega))); clear ho9 hg9))
            go_roundw
            case rel => exact ⟨k + 1, _, _, by omega, by go_num, rfl, rfl, HE2, Lib.hid (by rw [HNX.out.1]; exact HL9.out), Lib.hid (by rw [HNX.out.2]; exact HO9.out), HB9⟩
            case measure => simp [intOf]; omega
          · subst hi2
            have hneg : ¬ f < 0 := by omega
            clear hi1
            have HNX : Hid ((skels T yss).take (k + 1) = (skels T yss).take k ++ [s] ∧ (classesL T yss).take (k + 1) = (classesL T yss).take k ++ [f]) := Lib.hid ⟨take_snoc21 HSS.out, take_snoc21 HCS.out⟩
            clear HSS HCS
            generalize (skels T yss).take k = sk at *
            generalize (classesL T yss).take k = ck at *
            go_wp2_with (first
              | (at_builtin; refine wpList_append_sliceA (by rfl) (.tmp 38) (.tmp 40) rfl Tryz.underlying44 hj hy0 hy1 hy2 w1.heap.size s6 sk ⟨w7.heap.size, 0, none⟩ As cs s rfl s7.ownBlock HL7.out rfl ((Blk.new w7 22 #[.slice As s.length cs]).cell 0) HU7.out HD7.out (by have := HN1.out; omega) HB7.out.size ?_; intro v8 w8 hr8 hg8; have HL8 := Lib.hid hr8; have HO8 := Lib.hid (own_other HO7.out hg8 HL7.out.apart); have HB8 := Lib.hid (HB7.out.trans (hg8.below HL7.out.above HB7.out.size)); clear hr8 hg8)
              | (at_builtin; refine wpList_append_gr (by rfl) (.tmp 42) (.tmp 44) rfl Tryz.underlying22 hi hz0 hz1 hz2 (w8.heap.size + 1) w1.heap.size s7 ck (.slice (some ⟨w8.heap.size, 0, none⟩) 1 1) [f] rfl (HO8.out.alloc _) rfl (by have h := Ints.of_own (own_new w8 3 [f] (by simp)); simpa using h) (by have := HN2.out; simp; omega) (by have := HB8.out.size; simp; omega) ?_; intro v9 w9 ho9 hg9; have HO9 := Lib.hid ho9; have HL9 := Lib.hid ((HL8.out.later ((Below.refl w8.heap.size w8).alloc (Nat.le_refl _) _)).other hg9 (fun g hg => (own_base ho9 g hg).2)); have HB9 := Lib.hid ((below_then HB8.out (Nat.le_refl _) ((Below.refl w8.heap.size w8).alloc (Nat.le_refl _) _)).trans (hg9.below (fun g hg => (own_base HO8.out g hg).1) (by have := HB8.out.size; simp; omega))); clear ho9 hg9))
            go_roundw
            case rel => exact ⟨k + 1, _, _, by omega, by go_num, rfl, rfl, HE2, Lib.hid (by rw [HNX.out.1]; exact HL9.out), Lib.hid (by rw [HNX.out.2]; exact HO9.out), HB9⟩
            case measure => simp [intOf]; omega
        · have HR := Lib.hid (HRE.out er (firstE_hit HL.out HE.out hs h0) h0)
          have hb : (er != 0) = true := by simpa using h0
          clear hs h0
          obtain ⟨x0, x1, x2, x3, x4, x5, x6, x7, x8, x9, x10, x11⟩ := HTr.out.1.tab
          go_wp2_with (go_at_call 16; refine H1.out.mono ?_; rintro e w5 ⟨u5, rfl, ho5, b5⟩; obtain ⟨As, cs, rfl, _⟩ := id (Ints.of_own ho5); have HB5 := Lib.hid (below_then HBr.out (Nat.le_refl _) b5); clear ho5 b5)
          go_ret2
          rw [HR.out]
          exact ⟨_, rfl, World.ownsRow_nil _ _ _ _, below_next HB0.out (HB5.out.alloc HB5.out.size _)⟩
      · have HR := Lib.hid (HRO.out (firstE_end (by omega) HE.out))
        have HOX : Hid (wr.ownsRow w1.heap.size 3 1 s7 (classesL T yss).length ((classesL T yss).map (Value.int .i64))) := Lib.hid (by have h := HOr.out; rwa [List.take_of_length_le (by rw [classesL_length]; omega)] at h)
        go_wp2_with fail
        go_ret2
        rw [HR.out]
        exact ⟨_, rfl, row_le HOX.out HB0.out.size, below_next HB0.out HBr.out⟩
end Go.Proofs.YtecpbicfiaifdaaGreatDoor
/-
  The walk through confuse.Twins.
-/
namespace Go.Proofs.YtecpbicfiaifdaaGreatDoor
open Go.RowKit ND

set_option maxRecDepth 100000 in
set_option maxHeartbeats 2000000 in
theorem twins_any (t : Tv) (T : Tab) (v : Value) (yss : List (List Int)) (w : World) (ht : TabR w w.heap.size t T) (hg : Glob w) (hv : Lists w w.heap.size v yss) :
    Calls Tryz.prog 29 #[t.val, v] w fun e w' => e = .returned (.tuple #[.int .i64 (twinsR T yss).1, .int .i64 (twinsR T yss).2.1, .bool (twinsR T yss).2.2]) ∧ Below w.heap.size w w' := by
  obtain ⟨A, c, rfl, _⟩ := id hv
  have HB0 : Hid (Below w.heap.size w (w.alloc (.cells t.cells 26))) := Lib.hid ((Below.refl _ _).alloc (Nat.le_refl _) _)
  have HT : Hid (Tbl (w.alloc (.cells t.cells 26)) w.heap.size t T) := Lib.hid ⟨Blk.new _ _ _, ht.later HB0.out⟩
  have HC := Lib.hid (classes_any t T _ yss _ HT.out.2 (hg.later HB0.out) (hv.later HB0.out))
  clear ht hv hg
  unfold twinsR
  obtain ⟨cl, er, hcl⟩ : ∃ cl er, classesR T yss = (cl, er) := ⟨_, _, rfl⟩
  rw [hcl] at HC ⊢
  clear hcl
  show Calls _ _ _ _ fun e w' => e = .returned (.tuple #[.int .i64 (twinsGo 0 cl).1, .int .i64 (twinsGo 0 cl).2.1, .bool (twinsGo 0 cl).2.2]) ∧ _
  obtain ⟨R, hR⟩ : ∃ R, twinsGo 0 cl = R := ⟨_, rfl⟩
  have HR : Hid (twinsGo 0 (cl.drop 0) = R) := Lib.hid hR
  rw [hR]
  clear hR
  go_enter Tryz.func29, Tryz.ntmps29
  go_upto_region 1 with fail
  generalize w.alloc (.cells t.cells 26) = w1 at *
  obtain ⟨x0, x1, x2, x3, x4, x5, x6, x7, x8, x9, x10, x11⟩ := HT.out.1.tab
  go_upto_region 2 with (go_at_call 61; refine HC.out.mono ?_; rintro e w2 ⟨u2, rfl, ho2, b2⟩; obtain ⟨A2, c2, rfl, _⟩ := id (Ints.of_own ho2); have HU := Lib.hid (Ints.of_own ho2); have HB2 := Lib.hid (below_next HB0.out b2); clear ho2 b2)
  clear x0 x1 x2 x3 x4 x5 x6 x7 x8 x9 x10 x11 HC
  have l1 : cl.length ≤ 9223372036854775807 := by
    obtain ⟨_, _, e, h1, h2, _⟩ := HU.out
    unfold maxLen at h2; cases e; omega
  go_wp2_with fail
  go_loopw [19] (fun si wr => ∃ (j : Nat), j ≤ cl.length ∧ si = .int .i64 j ∧ Hid (twinsGo j (cl.drop j) = R) ∧ wr = w2) (fun si _ => cl.length - (intOf si).toNat)
  case atStart => exact ⟨0, by omega, rfl, HR, rfl⟩
  case round =>
    clear HR
    obtain ⟨j, hj, rfl, HS, rfl⟩ := hrel
    by_cases hlt : j < cl.length
    · obtain ⟨x, hxj, _⟩ := get_of hlt
      obtain ⟨_, _, hve, _, _, _, hcell⟩ := HU.out
      cases hve
      obtain ⟨ad, rfl, ha, e1⟩ := hcell j x hxj
      have j0 : (0 : Int) ≤ (j : Int) := by omega
      have j1 : (j : Int) < (cl.length : Int) := by omega
      have hst := twins_step hxj
      rw [HS.out] at hst
      clear hcell hxj ha
      by_cases hx : x < (j : Int)
      · rw [if_pos hx] at hst
        have HN := Lib.hid hst
        clear hst
        go_wp2_with fail
        go_ret3
        rw [HN.out]
        exact ⟨rfl, HB2.out⟩
      · rw [if_neg hx] at hst
        have HN := Lib.hid hst.symm
        clear hst
        go_wp2_with fail
        go_roundw
        case rel => exact ⟨j + 1, by omega, by go_num, HN, by first | rfl | trivial⟩
        case measure => simp [intOf]; omega
    · have HN : Hid (R = (0, 0, false)) := Lib.hid (HS.out.symm.trans (twins_end (by omega)))
      go_wp2_with fail
      go_ret3
      rw [HN.out]
      exact ⟨rfl, HB2.out⟩
end Go.Proofs.YtecpbicfiaifdaaGreatDoor
