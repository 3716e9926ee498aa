/-
  Merged texts: lemmas and walks that the last text of this claim leans on.
-/
import Derived.Test.YtecpbicfiaifdaaDoorMgB724
import Derived.Test.YtecpbicfiaifdaaDoorMgB723
import Derived.Test.YtecpbicfiaifdaaDoorMgB719
import Derived.Test.YtecpbicfiaifdaaDoorMgB714
import Derived.Test.YtecpbicfiaifdaaDoorMgB725
/-
  The walks through confuse.both and confuse.Same.
-/
namespace Go.Proofs.YtecpbicfiaifdaaDoor
open Go.RowKit ND

set_option maxRecDepth 100000 in
set_option maxHeartbeats 2000000 in
theorem both_any (t : Tv) (T : Tab) (v : Value) (xs : List Int) (u : Value) (us : List Int) (w : World) (ht : TabR w w.heap.size t T) (hg : Glob w) (hv : Ints w w.heap.size .i64 v xs) (hu : Ints w w.heap.size .i64 u us) :
    Calls Tryd.prog 37 #[t.val, v, u] w (RetBoth w (bothR T xs us)) := by
  obtain ⟨A, c, rfl, _⟩ := id hv
  obtain ⟨A', c', rfl, _⟩ := id hu
  have HB0 : Hid (Below w.heap.size w (w.alloc (.cells t.cells 31))) := Lib.hid ((Below.refl _ _).alloc (Nat.le_refl _) _)
  have HT : Hid (Tbl (w.alloc (.cells t.cells 31)) w.heap.size t T) := Lib.hid ⟨Blk.new _ _ _, ht.later HB0.out⟩
  have HV := Lib.hid (hv.later HB0.out)
  have HU := Lib.hid (hu.later HB0.out)
  have HG := Lib.hid (hg.later HB0.out)
  clear ht hv hu hg
  have H1 := Lib.hid (skOf_any t T _ xs _ HT.out.2 HG.out HV.out)
  obtain ⟨x, e1, hd⟩ : ∃ x e1, skelR T xs = (x, e1) := ⟨_, _, rfl⟩
  rw [hd] at H1
  have H2 := Lib.hid (fun W (h : Below (w.alloc (.cells t.cells 31)).heap.size (w.alloc (.cells t.cells 31)) W) => skOf_any t T _ us W (HT.out.later h).2 (HG.out.later h) (HU.out.later h))
  obtain ⟨y, e2, hm⟩ : ∃ y e2, skelR T us = (y, e2) := ⟨_, _, rfl⟩
  rw [hm] at H2
  by_cases h1 : e1 = 0
  · subst h1
    by_cases h2 : e2 = 0
    · subst h2
      have HR := Lib.hid (bothR_3 hd hm)
      clear hd hm
      generalize bothR T xs us = R at *
      go_enter Tryd.func37, Tryd.ntmps37
      go_upto_region 1 with fail
      generalize w.alloc (.cells t.cells 31) = w1 at *
      obtain ⟨x0, x1, x2, x3, x4, x5, x6, x7, x8, x9, x10, x11⟩ := HT.out.1.tab
      go_upto_region 2 with (go_at_call 12; refine H1.out.mono ?_; rintro e w2 ⟨u2, rfl, ho2, b2⟩; obtain ⟨A2, c2, rfl, _⟩ := id (Ints.of_own ho2); have HU2 := Lib.hid (Ints.of_own ho2); clear ho2)
      clear x0 x1 x2 x3 x4 x5 x6 x7 x8 x9 x10 x11
      obtain ⟨x0, x1, x2, x3, x4, x5, x6, x7, x8, x9, x10, x11⟩ := (HT.out.later b2).1.tab
      go_wp2_with (go_at_call 12; refine (H2.out _ b2).mono ?_; rintro e w3 ⟨u3, rfl, ho3, b3⟩; obtain ⟨A3, c3, rfl, _⟩ := id (Ints.of_own ho3); have HU3 := Lib.hid (Ints.of_own ho3); have HX3 := Lib.hid (HU2.out.later b3); have b23 := below_next b2 b3; clear ho3)
      go_ret3
      rw [HR.out]
      exact ⟨_, _, rfl, HX3.out, HU3.out, below_next HB0.out b23⟩
    · have HR := Lib.hid (bothR_2 hd hm h2)
      have hb : (e2 != 0) = true := by simpa using h2
      clear hd hm h2
      generalize bothR T xs us = R at *
      go_enter Tryd.func37, Tryd.ntmps37
      go_upto_region 1 with fail
      generalize w.alloc (.cells t.cells 31) = w1 at *
      obtain ⟨x0, x1, x2, x3, x4, x5, x6, x7, x8, x9, x10, x11⟩ := HT.out.1.tab
      go_upto_region 2 with (go_at_call 12; refine H1.out.mono ?_; rintro e w2 ⟨u2, rfl, ho2, b2⟩; obtain ⟨A2, c2, rfl, _⟩ := id (Ints.of_own ho2); have HU2 := Lib.hid (Ints.of_own ho2); clear ho2)
      clear x0 x1 x2 x3 x4 x5 x6 x7 x8 x9 x10 x11
      obtain ⟨x0, x1, x2, x3, x4, x5, x6, x7, x8, x9, x10, x11⟩ := (HT.out.later b2).1.tab
      go_wp2_with (go_at_call 12; refine (H2.out _ b2).mono ?_; rintro e w3 ⟨u3, rfl, ho3, b3⟩; obtain ⟨A3, c3, rfl, _⟩ := id (Ints.of_own ho3); have HU3 := Lib.hid (Ints.of_own ho3); have HX3 := Lib.hid (HU2.out.later b3); have b23 := below_next b2 b3; clear ho3)
      go_ret3
      rw [HR.out]
      exact ⟨_, _, rfl, Ints.none_, Ints.none_, below_next HB0.out b23⟩
  · have HR := Lib.hid (bothR_1 (b := us) hd h1)
    have hb : (e1 != 0) = true := by simpa using h1
    clear hd hm h1
    generalize bothR T xs us = R at *
    go_enter Tryd.func37, Tryd.ntmps37
    go_upto_region 1 with fail
    generalize w.alloc (.cells t.cells 31) = w1 at *
    obtain ⟨x0, x1, x2, x3, x4, x5, x6, x7, x8, x9, x10, x11⟩ := HT.out.1.tab
    go_wp2_with (go_at_call 12; refine H1.out.mono ?_; rintro e w2 ⟨u2, rfl, ho2, b2⟩; obtain ⟨A2, c2, rfl, _⟩ := id (Ints.of_own ho2); have HU2 := Lib.hid (Ints.of_own ho2); clear ho2)
    go_ret3
    rw [HR.out]
    exact ⟨_, _, rfl, Ints.none_, Ints.none_, below_next HB0.out b2⟩

set_option maxRecDepth 100000 in
set_option maxHeartbeats 1000000 in
theorem cfSame_any (t : Tv) (T : Tab) (v : Value) (xs : List Int) (u : Value) (us : List Int) (w : World) (ht : TabR w w.heap.size t T) (hg : Glob w) (hv : Ints w w.heap.size .i64 v xs) (hu : Ints w w.heap.size .i64 u us) :
    Calls Tryd.prog 18 #[t.val, v, u] w fun e w' => e = .returned (.tuple #[.bool (sameR T xs us).1, .int .i64 (sameR T xs us).2]) ∧ Below w.heap.size w w' := by
  obtain ⟨A, c, rfl, _⟩ := id hv
  obtain ⟨A', c', rfl, _⟩ := id hu
  have HB0 : Hid (Below w.heap.size w (w.alloc (.cells t.cells 31))) := Lib.hid ((Below.refl _ _).alloc (Nat.le_refl _) _)
  have HT : Hid (Tbl (w.alloc (.cells t.cells 31)) w.heap.size t T) := Lib.hid ⟨Blk.new _ _ _, ht.later HB0.out⟩
  have HV := Lib.hid (hv.later HB0.out)
  have HU := Lib.hid (hu.later HB0.out)
  have HG := Lib.hid (hg.later HB0.out)
  clear ht hv hu hg
  have H1 := Lib.hid (both_any t T _ xs _ us _ HT.out.2 HG.out HV.out HU.out)
  obtain ⟨x, y, er, hd⟩ : ∃ x y er, bothR T xs us = (x, y, er) := ⟨_, _, _, rfl⟩
  rw [hd] at H1
  have hs := sameR_of hd
  by_cases h0 : er = 0
  · have hR : sameR T xs us = (decide (x = y), 0) := by
      rcases hs with h | ⟨h, _⟩
      · rw [h, h0]; rfl
      · exact absurd h0 h
    subst h0
    obtain ⟨q, hq⟩ : ∃ q, decide (x = y) = q := ⟨_, rfl⟩
    rw [hq] at hR
    have HR := Lib.hid hR
    have HEQ := Lib.hid (fun v u W hv hu => equal_any v u x y W hv hu)
    rw [hq] at HEQ
    clear hs hd hR hq
    generalize sameR T xs us = R at *
    go_enter Tryd.func18, Tryd.ntmps18
    go_upto_region 1 with fail
    generalize w.alloc (.cells t.cells 31) = w1 at *
    obtain ⟨x0, x1, x2, x3, x4, x5, x6, x7, x8, x9, x10, x11⟩ := HT.out.1.tab
    go_upto_region 2 with (go_at_call 37; refine H1.out.mono ?_; rintro e w2 ⟨u2, u3, rfl, hx2, hy2, b2⟩; obtain ⟨A2, c2, rfl, _⟩ := id hx2; obtain ⟨A3, c3, rfl, _⟩ := id hy2; have HX2 := Lib.hid hx2; have HY2 := Lib.hid hy2; clear hx2 hy2)
    clear x0 x1 x2 x3 x4 x5 x6 x7 x8 x9 x10 x11
    go_wp2_with (go_at_call 23; refine (HEQ.out _ _ _ HX2.out HY2.out).mono ?_; rintro e w3 ⟨rfl, b3⟩)
    go_ret2
    rw [HR.out]
    exact ⟨rfl, below_next (below_next HB0.out b2) b3⟩
  · have hR : sameR T xs us = (false, er) := by
      rcases hs with h | ⟨_, h⟩
      · rw [h]; have : (er == 0) = false := by simpa using h0
        rw [this]; rfl
      · exact h
    have HR := Lib.hid hR
    have hb : (er == 0) = false := by simpa using h0
    clear hs hd hR h0
    generalize sameR T xs us = R at *
    go_enter Tryd.func18, Tryd.ntmps18
    go_upto_region 1 with fail
    generalize w.alloc (.cells t.cells 31) = w1 at *
    obtain ⟨x0, x1, x2, x3, x4, x5, x6, x7, x8, x9, x10, x11⟩ := HT.out.1.tab
    go_wp2_with (go_at_call 37; refine H1.out.mono ?_; rintro e w2 ⟨u2, u3, rfl, hx2, hy2, b2⟩; obtain ⟨A2, c2, rfl, _⟩ := id hx2; obtain ⟨A3, c3, rfl, _⟩ := id hy2; have HX2 := Lib.hid hx2; have HY2 := Lib.hid hy2; clear hx2 hy2)
    go_ret2
    rw [HR.out]
    exact ⟨rfl, below_next HB0.out b2⟩
end Go.Proofs.YtecpbicfiaifdaaDoor
/-
  The classes of short sequences, in plain Lean.
-/
namespace Go.Proofs.YtecpbicfiaifdaaDoor
open Go.RowKit ND

/-- What the classes of short sequences are. -/
structure ClsOk (T : Tab) (yss : List (List Int)) (cl : List Int) : Prop where
  len : cl.length = yss.length
  cls : ∀ i : Nat, i < yss.length → ∃ n : Nat, cl[i]? = some (n : Int) ∧ n ≤ i ∧ cl[n]? = some (n : Int)
  same : ∀ (i k : Nat) (a b : List Int), yss[i]? = some a → yss[k]? = some b → ∃ x y : Int, ∃ q : Bool, cl[i]? = some x ∧ cl[k]? = some y ∧ sameR T a b = (q, 0) ∧ (x == y) = q
theorem classes_short {T : Tab} (h : T.check = 0) {yss : List (List Int)} (hl : yss.length ≤ 6) (hy : ∀ ys ∈ yss, ys.length ≤ 3 ∧ ys.all scalarB = true) : classesR T yss = (classesL T yss, 0) ∧ ClsOk T yss (classesL T yss) := by
  have hs : ∀ ys ∈ yss, skelR T ys = (skelL T ys, 0) := fun ys hm => skelR_short h (hy ys hm).2 (by have := (hy ys hm).1; omega)
  have e0 : firstE T yss = 0 := firstE_zero.2 fun l hm => by rw [hs l hm]
  refine ⟨classesR_ok (by omega) e0, classesL_length T yss, fun i hi => ?_, fun i k a b ha hb => ?_⟩
  · obtain ⟨l, hl2⟩ : ∃ l, yss[i]? = some l := ⟨_, List.getElem?_eq_getElem hi⟩
    obtain ⟨h1, h2, _⟩ := firstI_spec (skels_at (T := T) hl2)
    refine ⟨firstI (skelR T l).1 0 (skels T yss), classesL_at hl2, h1, ?_⟩
    obtain ⟨l3, hl3⟩ : ∃ l3, yss[firstI (skelR T l).1 0 (skels T yss)]? = some l3 := ⟨_, List.getElem?_eq_getElem (by omega)⟩
    have h3 := skels_at (T := T) hl3
    rw [h2] at h3
    have h4 := classesL_at (T := T) hl3
    rw [← Option.some.inj h3] at h4
    rw [h4]; rfl
  · refine ⟨_, _, decide ((skelR T a).1 = (skelR T b).1), classesL_at ha, classesL_at hb, ?_, ?_⟩
    · have h1 := hs a (List.mem_of_getElem? ha)
      have h2 := hs b (List.mem_of_getElem? hb)
      unfold sameR bothE
      rw [h1, h2]; simp
    · have h3 := classOfI_eq (skels_at (T := T) ha) (skels_at (T := T) hb)
      by_cases he : (skelR T a).1 = (skelR T b).1
      · rw [decide_eq_true he, beq_iff_eq]; exact h3.2 he
      · rw [decide_eq_false he, beq_eq_false_iff_ne]; exact fun e => he (h3.1 e)
end Go.Proofs.YtecpbicfiaifdaaDoor
/-
  The walk through the law ConfuseClasses.
-/
namespace Go.Proofs.YtecpbicfiaifdaaDoor
open Go.RowKit ND

set_option maxRecDepth 100000 in
set_option maxHeartbeats 8000000 in
theorem ConfuseClasses_go (W : World) (hg : Glob W) (v : Value) (xs : List Int) (hv : Ints W W.heap.size .i64 v xs) (vm : Value) (ms : List Int) (hvm : Ints W W.heap.size .i64 vm ms) :
    Calls Tryd.prog 5 #[v, vm] W fun e W' => e = .returned (.bool true) ∧ Below W.heap.size W W' := by
  have HG := Lib.hid hg
  have HM := Lib.hid hvm
  obtain ⟨Ax, cx, rfl, _⟩ := id hv
  obtain ⟨Am, cm, rfl, _⟩ := id hvm
  have HT := Lib.hid (keepTables_any W _ xs hv)
  clear hv hg hvm
  go_enter Tryd.func5, Tryd.ntmps5
  go_upto_region 2 with (go_at_call 11; refine HT.out.mono ?_; rintro e w1 ⟨t, T, rfl, ht1, hm1, hb1⟩; obtain ⟨A0, A1, A2, A3, A4, A5, A6, A7, A8, A9, A10, A11, k0, k1, k2, k3, k4, k5, k6, k7, k8, k9, k10, k11, rfl⟩ := ht1.shape; have HT1 := Lib.hid ht1; have HB1 := Lib.hid hb1; have HM1 := Lib.hid hm1; clear ht1 hb1 hm1)
  obtain ⟨t, ht, htb⟩ := Tbl.new HT1.out
  have HT2 := Lib.hid htb
  have HB2 := Lib.hid (HB1.out.alloc HB1.out.size (.cells #[.slice A0 T.category.length k0, .slice A1 T.cls.length k1, .slice A2 T.joining.length k2, .slice A3 T.bidi.length k3, .slice A4 T.script.length k4, .slice A5 T.status.length k5, .slice A6 T.ignorable.length k6, .slice A7 T.extensions.length k7, .slice A8 T.maps.length k8, .slice A9 T.decomps.length k9, .slice A10 T.excluded.length k10, .slice A11 T.prototypes.length k11] 31))
  clear htb HT1 HT
  generalize w1.alloc (.cells #[.slice A0 T.category.length k0, .slice A1 T.cls.length k1, .slice A2 T.joining.length k2, .slice A3 T.bidi.length k3, .slice A4 T.script.length k4, .slice A5 T.status.length k5, .slice A6 T.ignorable.length k6, .slice A7 T.extensions.length k7, .slice A8 T.maps.length k8, .slice A9 T.decomps.length k9, .slice A10 T.excluded.length k10, .slice A11 T.prototypes.length k11] 31) = w2 at *
  generalize w1.heap.size = tb at *
  clear ht
  have hck := HM1.out.check
  have HG2 := Lib.hid (HG.out.later HB2.out)
  have HM2 := Lib.hid (HM.out.later HB2.out)
  clear HG HM HM1
  go_upto_region 3 with (go_at_call 17; refine (words21_any _ (.slice Am ms.length cm) ms HM2.out Tryd.infoRow).mono ?_; rintro e w3 ⟨u3, yss, rfl, hl3, hyl, hys, b3⟩; obtain ⟨A3, c3, rfl, _⟩ := id hl3; have HL3 := Lib.hid hl3; have HYS := Lib.hid hys; have B3 := Lib.hid b3; clear hl3 b3 HM2 hys)
  obtain ⟨hcr, hco⟩ := classes_short hck hyl HYS.out
  have HCO := Lib.hid hco
  have H1 := Lib.hid (classes_any t T (.slice A3 yss.length c3) yss w3 (HT2.out.later B3.out).2 (HG2.out.later B3.out) HL3.out)
  rw [hcr] at H1
  have hcl := hco.len
  clear hcr hco hck HYS
  generalize classesL T yss = cl at *
  obtain ⟨x0, x1, x2, x3, x4, x5, x6, x7, x8, x9, x10, x11⟩ := (HT2.out.later B3.out).1.tab
  go_upto_region 4 with (go_at_call 8; refine H1.out.mono ?_; rintro e w4 ⟨u4, rfl, ho4, b4⟩; obtain ⟨A4, c4, rfl, _⟩ := id (Ints.of_own ho4); have HC4 := Lib.hid (Ints.of_own ho4); have HL4 := Lib.hid (HL3.out.later b4); have B4 := Lib.hid (below_next B3.out b4); clear ho4 b4 H1 HL3)
  clear x0 x1 x2 x3 x4 x5 x6 x7 x8 x9 x10 x11
  have HT4 := Lib.hid (HT2.out.later B4.out)
  have HG4 := Lib.hid (HG2.out.later B4.out)
  have HB4 := Lib.hid (below_next HB2.out B4.out)
  clear HT2 HG2 HB2 B3 B4
  have hnl : ((cl.length : Int) != (yss.length : Int)) = false := by rw [hcl]; exact bne_self_eq_false _
  have HCL := Lib.hid hcl
  clear hcl
  go_upto_region 6 with fail
  clear hnl
  go_wp2_with fail
  go_loopw [34] (fun si wr => ∃ (i : Nat), i ≤ yss.length ∧ si = .int .i64 i ∧ Hid (Below w4.heap.size w4 wr)) (fun si _ => yss.length - (intOf si).toNat)
  case atStart => exact ⟨0, by omega, rfl, Lib.hid (Below.refl _ _)⟩
  case round =>
    obtain ⟨i, hi, rfl, HBr⟩ := hrel
    by_cases hlt : i < yss.length
    · obtain ⟨n, hn1, hn2, hn3⟩ := HCO.out.cls i hlt
      obtain ⟨a, ha⟩ : ∃ a, yss[i]? = some a := ⟨_, List.getElem?_eq_getElem hlt⟩
      obtain ⟨ac, rfl⟩ : ∃ ac, A4 = some ac := by
        obtain ⟨_, _, hve, _, _, _, hc⟩ := HC4.out
        cases hve
        obtain ⟨ac, e, _⟩ := hc i _ hn1
        exact ⟨ac, e⟩
      have HCE : Hid (∀ (wr : World), Below w4.heap.size w4 wr → ∀ (j : Nat) (x : Int), cl[j]? = some x → wr.cell? (ac.add j) = some (.int .i64 x)) := Lib.hid (fun wr hb j x hx => by
        obtain ⟨_, _, hve, _, _, _, hc⟩ := HC4.out
        cases hve
        obtain ⟨ad, e, hbk, hce⟩ := hc j x hx
        cases e
        exact (hb.cell (p := ac.add j) (by rw [block_of_add]; exact hbk)).trans hce)
      obtain ⟨aw, A5, c5, rfl, haw, hcw, hiw⟩ : ∃ aw A5 c5, A3 = some aw ∧ aw.block < w4.heap.size ∧ w4.cell? (aw.add i) = some (.slice A5 a.length c5) ∧ Ints w4 w4.heap.size .i64 (.slice A5 a.length c5) a := by
        obtain ⟨Aq, cq, ad, A', c', hve, e, hb, hce, hii⟩ := HL4.out.at_ ha
        cases hve
        exact ⟨ad, A', c', e, hb, hce, hii⟩
      have HLE : Hid (∀ (j : Nat) (b : List Int), yss[j]? = some b → ∃ A6 c6, w4.cell? (aw.add j) = some (.slice A6 b.length c6) ∧ Ints w4 w4.heap.size .i64 (.slice A6 b.length c6) b) := Lib.hid (fun j b hj => by
        obtain ⟨Aq, cq, ad, A', c', hve, e, hb, hce, hii⟩ := HL4.out.at_ hj
        cases hve
        cases e
        exact ⟨A', c', hce, hii⟩)
      have HN1 := Lib.hid hn1
      have HA := Lib.hid ha
      have HCW := Lib.hid hcw
      have HIW := Lib.hid hiw
      have ei := cell_regrown (HCE.out wr HBr.out i _ hn1)
      have en := cell_regrown (HCE.out wr HBr.out n _ hn3)
      have i0 : (0 : Int) ≤ (i : Int) := by omega
      have i1 : (i : Int) < (cl.length : Int) := by have := HCL.out; omega
      have i2 : (i : Int) < (yss.length : Int) := by omega
      have n0 : (0 : Int) ≤ (n : Int) := by omega
      have n1 : (n : Int) < (cl.length : Int) := by have := HCL.out; omega
      have n2 : ¬ (n : Int) < 0 := by omega
      have n3 : ¬ (i : Int) < (n : Int) := by omega
      have n4 : ((n : Int) != (n : Int)) = false := bne_self_eq_false _
      clear hn1 hn2 hn3 ha hcw hiw
      go_upto_region 9 with fail
      refine wp_region_quiet_below (by kernel_rfl) (by kernel_rfl) ?_
      repeat (go_big_quiet_step (fail))
      refine wpQuiet_nil ?_
      rintro _ ⟨⟨dq, osq⟩, rfl⟩
      have bq := below_regrown wr dq osq
      have HB5 := Lib.hid (below_then HBr.out (Nat.le_refl _) bq)
      clear bq ei en HBr
      generalize Go.Sort.grow (redrawn wr dq) osq = w5 at *
      go_wp2_with fail
      go_loopw [66] (fun sk wr => ∃ (k : Nat), k ≤ yss.length ∧ sk = .int .i64 k ∧ Hid (Below w4.heap.size w4 wr)) (fun sk _ => yss.length - (intOf sk).toNat)
      case atStart => exact ⟨0, by omega, rfl, HB5⟩
      case round =>
        clear HB5
        obtain ⟨k, hk, rfl, HBr⟩ := hrel
        by_cases hlk : k < yss.length
        · obtain ⟨b, hb⟩ : ∃ b, yss[k]? = some b := ⟨_, List.getElem?_eq_getElem hlk⟩
          obtain ⟨A6, c6, hcb, hib⟩ := HLE.out k b hb
          obtain ⟨x, y, q, hx, hy, hs, hq⟩ := HCO.out.same i k a b HA.out hb
          rw [HN1.out] at hx
          obtain rfl := Option.some.inj hx
          have HTr := Lib.hid (HT4.out.later HBr.out)
          have HSx : Hid (∀ V, Below wr.heap.size wr V → Calls Tryd.prog 18 #[.agg #[t.c0, t.c1, t.c2, t.c3, t.c4, t.c5, t.c6, t.c7, t.c8, t.c9, t.c10, t.c11], .slice A5 a.length c5, .slice A6 b.length c6] V fun e V' => e = .returned (.tuple #[.bool q, .int .i64 0]) ∧ Below V.heap.size V V') := Lib.hid fun V hV => by
            have hbv := below_then HBr.out (Nat.le_refl _) hV
            have h := cfSame_any t T (.slice A5 a.length c5) a (.slice A6 b.length c6) b V (HTr.out.later hV).2 (HG4.out.later hbv) (HIW.out.later hbv) (hib.later hbv)
            rw [hs] at h; exact h
          have ea := cell_regrown ((HBr.out.cell (p := aw.add i) (by rw [block_of_add]; exact haw)).trans HCW.out)
          have eb := cell_regrown ((HBr.out.cell (p := aw.add k) (by rw [block_of_add]; exact haw)).trans hcb)
          have HY := Lib.hid hy
          have k0 : (0 : Int) ≤ (k : Int) := by omega
          have k1 : (k : Int) < (cl.length : Int) := by have := HCL.out; omega
          have k2 : (k : Int) < (yss.length : Int) := by omega
          clear hb hcb hib hs hx hy
          subst hq
          obtain ⟨x0, x1, x2, x3, x4, x5, x6, x7, x8, x9, x10, x11⟩ := HTr.out.1.tabG
          go_upto_region 14 with fail
          refine wp_region_quiet_below (by kernel_rfl) (by kernel_rfl) ?_
          repeat (go_big_quiet_step (first | (go_at_call 18; with_reducible exact quiet_t HSx.out)))
          refine wpQuiet_nil ?_
          rintro _ ⟨⟨dq, osq⟩, rfl⟩
          have bq := below_regrown wr dq osq
          have HB6 := Lib.hid (below_then HBr.out (Nat.le_refl _) bq)
          clear bq ea eb HBr x0 x1 x2 x3 x4 x5 x6 x7 x8 x9 x10 x11 HSx HTr
          generalize Go.Sort.grow (redrawn wr dq) osq = w6 at *
          have ei := cell_regrown (HCE.out w6 HB6.out i _ HN1.out)
          have ek := cell_regrown (HCE.out w6 HB6.out k _ HY.out)
          go_upto_region 15 with fail
          refine wp_region_quiet_below (by kernel_rfl) (by kernel_rfl) ?_
          repeat (go_big_quiet_step (fail))
          refine wpQuiet_nil ?_
          rintro _ ⟨⟨dq, osq⟩, rfl⟩
          have bq := below_regrown w6 dq osq
          have HB7 := Lib.hid (below_then HB6.out (Nat.le_refl _) bq)
          clear bq ei ek HB6
          generalize Go.Sort.grow (redrawn w6 dq) osq = w7 at *
          go_wp2_with fail
          go_roundw
          case rel => exact ⟨k + 1, by omega, by go_num, HB7⟩
          case measure => simp [intOf]; omega
        · have k2 : ¬ (k : Int) < (yss.length : Int) := by omega
          go_wp2_with fail
          go_roundw
          case rel => exact ⟨i + 1, by omega, by go_num, HBr⟩
          case measure => simp [intOf]; omega
    · have i2 : ¬ (i : Int) < (yss.length : Int) := by omega
      go_wp2_with (go_at_call 10; refine (awake21 _ (HG4.out.later HBr.out)).mono ?_; rintro e w8 ⟨rfl, b8⟩)
      go_ret
      exact ⟨rfl, below_next HB4.out (below_then HBr.out (Nat.le_refl _) b8)⟩
theorem ConfuseClasses_walk (W : World) (hg : Glob W) (v : Value) (xs : List Int) (hv : Ints W W.heap.size .i64 v xs) (_ : ∀ x ∈ xs, -9223372036854775808 ≤ x ∧ x ≤ 9223372036854775807) (_ : xs.length * 8 ≤ 140737488351232) (vm : Value) (ms : List Int) (hvm : Ints W W.heap.size .i64 vm ms) (_ : ∀ x ∈ ms, -9223372036854775808 ≤ x ∧ x ≤ 9223372036854775807) (_ : ms.length * 8 ≤ 140737488351232) :
    Calls Tryd.prog 5 #[v, vm] W fun e W' => e = .returned (.bool true) ∧ Below W.heap.size W W' := ConfuseClasses_go W hg v xs hv vm ms hvm
end Go.Proofs.YtecpbicfiaifdaaDoor
