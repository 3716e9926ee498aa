/-
  Merged texts: lemmas and walks that the last text of this claim leans on.
-/
import Derived.Test.YtikcfoobfobmnaaGreatDoorMgB710
/-
  The walk through table.Composable.
-/
namespace Go.Proofs.YtikcfoobfobmnaaGreatDoor
open Go.RowKit ND

/-- The cells of tables in a block, in every world that may come within a region. -/
theorem Blk.tabG {w : World} {g : Nat} {e : TypeId} {c0 c1 c2 c3 c4 c5 c6 c7 c8 c9 c10 c11 : Value} (h : Blk w g e #[c0, c1, c2, c3, c4, c5, c6, c7, c8, c9, c10, c11]) :
    (∀ d os, (Go.Sort.grow (redrawn w d) os).cell? ⟨g, 0, none⟩ = some c0) ∧ (∀ d os, (Go.Sort.grow (redrawn w d) os).cell? ⟨g, 1, none⟩ = some c1) ∧ (∀ d os, (Go.Sort.grow (redrawn w d) os).cell? ⟨g, 2, none⟩ = some c2) ∧ (∀ d os, (Go.Sort.grow (redrawn w d) os).cell? ⟨g, 3, none⟩ = some c3) ∧
    (∀ d os, (Go.Sort.grow (redrawn w d) os).cell? ⟨g, 4, none⟩ = some c4) ∧ (∀ d os, (Go.Sort.grow (redrawn w d) os).cell? ⟨g, 5, none⟩ = some c5) ∧ (∀ d os, (Go.Sort.grow (redrawn w d) os).cell? ⟨g, 6, none⟩ = some c6) ∧ (∀ d os, (Go.Sort.grow (redrawn w d) os).cell? ⟨g, 7, none⟩ = some c7) ∧
    (∀ d os, (Go.Sort.grow (redrawn w d) os).cell? ⟨g, 8, none⟩ = some c8) ∧ (∀ d os, (Go.Sort.grow (redrawn w d) os).cell? ⟨g, 9, none⟩ = some c9) ∧ (∀ d os, (Go.Sort.grow (redrawn w d) os).cell? ⟨g, 10, none⟩ = some c10) ∧ (∀ d os, (Go.Sort.grow (redrawn w d) os).cell? ⟨g, 11, none⟩ = some c11) := by
  obtain ⟨x0, x1, x2, x3, x4, x5, x6, x7, x8, x9, x10, x11⟩ := h.tab
  exact ⟨cell_regrown x0, cell_regrown x1, cell_regrown x2, cell_regrown x3, cell_regrown x4, cell_regrown x5, cell_regrown x6, cell_regrown x7, cell_regrown x8, cell_regrown x9, cell_regrown x10, cell_regrown x11⟩

theorem comp_len {T : Tab} {f : Nat} {c : Int} {tg : List Int} (h : findL T.decomps c = tg) (hl : tg.length ≠ 2) : T.compF f c = false := by
  cases f with
  | zero => rfl
  | succ f =>
    rw [Tab.compF]
    split
    · rename_i a b he
      rw [h] at he; rw [he] at hl; exact absurd rfl hl
    · rfl
theorem comp_two {T : Tab} {f : Nat} {c a b : Int} (h : findL T.decomps c = [a, b]) : T.compF (f + 1) c = (!T.excB c && (decide (T.classOf c = 0) && (decide (T.classOf a = 0) && (decide (findL T.decomps b = []) &&
        ((decide (findL T.decomps a = []) || T.compF f a) && (decide (T.classOf b = 0) || decide (T.classOf (lastF T.decomps f a) ≤ T.classOf b))))))) := by
  rw [Tab.compF, h]

set_option maxRecDepth 100000 in
set_option maxHeartbeats 1000000 in
theorem comp_zero (t : Tv) (T : Tab) (c : Int) (tg : List Int) (sv : Value) (w : World) (ht : TabR w w.heap.size t T) (hto : Ints w w.heap.size .i64 sv tg) (hfd : findL T.decomps c = tg) (hfin : fin T.decomps 0 c = true) :
    Calls Tryz.prog 99 #[t.val, .agg #[.int .i64 c, sv]] w fun e w' => e = .returned (.bool (T.compF 0 c)) ∧ Below w.heap.size w w' := by
  have hn : tg = [] := by rw [fin_zero, decide_eq_true_eq] at hfin; rw [← hfd]; exact hfin
  subst hn
  obtain ⟨A0, A1, A2, A3, A4, A5, A6, A7, A8, A9, A10, A11, k0, k1, k2, k3, k4, k5, k6, k7, k8, k9, k10, k11, rfl⟩ := ht.shape
  obtain ⟨As, cs, rfl, _⟩ := hto
  have hB0 : Blk ((w.alloc (.cells #[.slice A0 T.category.length k0, .slice A1 T.cls.length k1, .slice A2 T.joining.length k2, .slice A3 T.bidi.length k3, .slice A4 T.script.length k4, .slice A5 T.status.length k5, .slice A6 T.ignorable.length k6, .slice A7 T.extensions.length k7, .slice A8 T.maps.length k8, .slice A9 T.decomps.length k9, .slice A10 T.excluded.length k10, .slice A11 T.prototypes.length k11] 29)).alloc (.cells #[.int .i64 c, .slice As 0 cs] 51)) w.heap.size 29 _ := (Blk.new w 29 _).alloc _
  have hM0 : Blk ((w.alloc (.cells #[.slice A0 T.category.length k0, .slice A1 T.cls.length k1, .slice A2 T.joining.length k2, .slice A3 T.bidi.length k3, .slice A4 T.script.length k4, .slice A5 T.status.length k5, .slice A6 T.ignorable.length k6, .slice A7 T.extensions.length k7, .slice A8 T.maps.length k8, .slice A9 T.decomps.length k9, .slice A10 T.excluded.length k10, .slice A11 T.prototypes.length k11] 29)).alloc (.cells #[.int .i64 c, .slice As 0 cs] 51)) (w.heap.size + 1) 51 #[.int .i64 c, .slice As 0 cs] := by
    have h := Blk.new (w.alloc (.cells #[.slice A0 T.category.length k0, .slice A1 T.cls.length k1, .slice A2 T.joining.length k2, .slice A3 T.bidi.length k3, .slice A4 T.script.length k4, .slice A5 T.status.length k5, .slice A6 T.ignorable.length k6, .slice A7 T.extensions.length k7, .slice A8 T.maps.length k8, .slice A9 T.decomps.length k9, .slice A10 T.excluded.length k10, .slice A11 T.prototypes.length k11] 29)) 51 #[.int .i64 c, .slice As 0 cs]
    rw [show (w.alloc (.cells #[.slice A0 T.category.length k0, .slice A1 T.cls.length k1, .slice A2 T.joining.length k2, .slice A3 T.bidi.length k3, .slice A4 T.script.length k4, .slice A5 T.status.length k5, .slice A6 T.ignorable.length k6, .slice A7 T.extensions.length k7, .slice A8 T.maps.length k8, .slice A9 T.decomps.length k9, .slice A10 T.excluded.length k10, .slice A11 T.prototypes.length k11] 29)).heap.size = w.heap.size + 1 by simp] at h
    exact h
  have hbel0 : Below w.heap.size w ((w.alloc (.cells #[.slice A0 T.category.length k0, .slice A1 T.cls.length k1, .slice A2 T.joining.length k2, .slice A3 T.bidi.length k3, .slice A4 T.script.length k4, .slice A5 T.status.length k5, .slice A6 T.ignorable.length k6, .slice A7 T.extensions.length k7, .slice A8 T.maps.length k8, .slice A9 T.decomps.length k9, .slice A10 T.excluded.length k10, .slice A11 T.prototypes.length k11] 29)).alloc (.cells #[.int .i64 c, .slice As 0 cs] 51)) := ((Below.refl _ _).alloc (Nat.le_refl _) _).alloc (by simp) _
  have HB0 := Lib.hid hB0
  have HM0 := Lib.hid hM0
  have HBEL := Lib.hid hbel0
  have p1 : ((0 : Int) != 2) = true := by decide
  clear hB0 hM0 hbel0 ht hfd hfin
  show Calls _ _ _ _ fun e w' => e = .returned (.bool false) ∧ _
  go_enter Tryz.func99, Tryz.ntmps99
  go_wp2_with fail
  generalize World.alloc (World.alloc w _) _ = w0 at *
  obtain ⟨x0, x1, x2, x3, x4, x5, x6, x7, x8, x9, x10, x11⟩ := HB0.out.tabG
  have m0 := cell_regrown (HM0.out.at_ (i := 0) (u := .int .i64 c) rfl)
  have m1 := cell_regrown (HM0.out.at_ (i := 1) (u := .slice As 0 cs) rfl)
  refine wp_region_quiet_below (by kernel_rfl) (by kernel_rfl) ?_
  repeat (go_big_quiet_step (fail))
  refine wpQuiet_nil ?_
  rintro _ ⟨⟨dq, osq⟩, rfl⟩
  clear x0 x1 x2 x3 x4 x5 x6 x7 x8 x9 x10 x11 m0 m1
  go_wp2_with fail
  go_ret
  exact ⟨rfl, below_next HBEL.out (below_regrown _ dq osq)⟩

set_option maxRecDepth 100000 in
set_option maxHeartbeats 8000000 in
theorem composable_any (t : Tv) (T : Tab) (hsh : Shape T) (hne : ∀ m ∈ T.decomps, m.2 ≠ [] ∧ m.2.length ≤ 1000) : ∀ (f : Nat) (c : Int) (tg : List Int) (sv : Value) (w : World), TabR w w.heap.size t T → Ints w w.heap.size .i64 sv tg → findL T.decomps c = tg → fin T.decomps f c = true →
    Calls Tryz.prog 99 #[t.val, .agg #[.int .i64 c, sv]] w fun e w' => e = .returned (.bool (T.compF f c)) ∧ Below w.heap.size w w' := by
  intro f
  induction f with
  | zero => exact fun c tg sv w ht hto hfd hfin => comp_zero t T c tg sv w ht hto hfd hfin
  | succ f ih =>
    intro c tg sv w ht hto hfd hfin
    obtain ⟨tc, htc⟩ : ∃ tc, tc = t.cells := ⟨_, rfl⟩
    have HT := Lib.hid (fun W (h : Below w.heap.size w W) => ht.later h)
    have hs := keysB_sort hsh.kd
    have HEX := Lib.hid (fun x W h => excluded_any t T x W h (keysB_asc hsh.ke) hsh.lenX)
    have HCL := Lib.hid (fun x W h => class_any t T x 0 1114111 W h hsh.c1.1 hsh.c1.2.1)
    have HLA := Lib.hid (fun x W h hf => last_any t T hs hne hsh.ld f x W h hf)
    have HIH := Lib.hid ih
    have HFV := Lib.hid (fun x W (h : TabR W W.heap.size t T) => find_v t.c9 T.decomps x W h.r9 hs (fun m hm => (hne m hm).1) hsh.ld)
    obtain ⟨A0, A1, A2, A3, A4, A5, A6, A7, A8, A9, A10, A11, k0, k1, k2, k3, k4, k5, k6, k7, k8, k9, k10, k11, rfl⟩ := ht.shape
    have HTC := Lib.hid htc
    obtain ⟨As, cs, rfl, hcs1, hcs2, _, hcell⟩ := hto
    have hlt : tg.length ≤ 9223372036854775807 := by unfold maxLen at hcs2; omega
    have HCE := Lib.hid hcell
    have HFD := Lib.hid hfd
    have HFN := Lib.hid hfin
    have hnq := fun (w : World) (a : Option Addr) (n c : Nat) => run_neq_slice_nil_any (P := Tryz.prog) w 22 3 a n c 0 0 Tryz.underlying22
    clear ht ih htc hcell hcs1 hcs2 hfd hfin hs
    have hB0 : Blk ((w.alloc (.cells #[.slice A0 T.category.length k0, .slice A1 T.cls.length k1, .slice A2 T.joining.length k2, .slice A3 T.bidi.length k3, .slice A4 T.script.length k4, .slice A5 T.status.length k5, .slice A6 T.ignorable.length k6, .slice A7 T.extensions.length k7, .slice A8 T.maps.length k8, .slice A9 T.decomps.length k9, .slice A10 T.excluded.length k10, .slice A11 T.prototypes.length k11] 29)).alloc (.cells #[.int .i64 c, .slice As tg.length cs] 51)) w.heap.size 29 _ := (Blk.new w 29 _).alloc _
    have hM0 : Blk ((w.alloc (.cells #[.slice A0 T.category.length k0, .slice A1 T.cls.length k1, .slice A2 T.joining.length k2, .slice A3 T.bidi.length k3, .slice A4 T.script.length k4, .slice A5 T.status.length k5, .slice A6 T.ignorable.length k6, .slice A7 T.extensions.length k7, .slice A8 T.maps.length k8, .slice A9 T.decomps.length k9, .slice A10 T.excluded.length k10, .slice A11 T.prototypes.length k11] 29)).alloc (.cells #[.int .i64 c, .slice As tg.length cs] 51)) (w.heap.size + 1) 51 #[.int .i64 c, .slice As tg.length cs] := by
      have h := Blk.new (w.alloc (.cells #[.slice A0 T.category.length k0, .slice A1 T.cls.length k1, .slice A2 T.joining.length k2, .slice A3 T.bidi.length k3, .slice A4 T.script.length k4, .slice A5 T.status.length k5, .slice A6 T.ignorable.length k6, .slice A7 T.extensions.length k7, .slice A8 T.maps.length k8, .slice A9 T.decomps.length k9, .slice A10 T.excluded.length k10, .slice A11 T.prototypes.length k11] 29)) 51 #[.int .i64 c, .slice As tg.length cs]
      rw [show (w.alloc (.cells #[.slice A0 T.category.length k0, .slice A1 T.cls.length k1, .slice A2 T.joining.length k2, .slice A3 T.bidi.length k3, .slice A4 T.script.length k4, .slice A5 T.status.length k5, .slice A6 T.ignorable.length k6, .slice A7 T.extensions.length k7, .slice A8 T.maps.length k8, .slice A9 T.decomps.length k9, .slice A10 T.excluded.length k10, .slice A11 T.prototypes.length k11] 29)).heap.size = w.heap.size + 1 by simp] at h
      exact h
    have hbel0 : Below w.heap.size w ((w.alloc (.cells #[.slice A0 T.category.length k0, .slice A1 T.cls.length k1, .slice A2 T.joining.length k2, .slice A3 T.bidi.length k3, .slice A4 T.script.length k4, .slice A5 T.status.length k5, .slice A6 T.ignorable.length k6, .slice A7 T.extensions.length k7, .slice A8 T.maps.length k8, .slice A9 T.decomps.length k9, .slice A10 T.excluded.length k10, .slice A11 T.prototypes.length k11] 29)).alloc (.cells #[.int .i64 c, .slice As tg.length cs] 51)) := ((Below.refl _ _).alloc (Nat.le_refl _) _).alloc (by simp) _
    have HB0 := Lib.hid hB0
    have HM0 := Lib.hid hM0
    have HBEL := Lib.hid hbel0
    clear hB0 hM0 hbel0
    by_cases hl : tg.length = 2
    · obtain ⟨a, b, rfl⟩ : ∃ a b, tg = [a, b] := by
        match tg, hl with
        | [a, b], _ => exact ⟨a, b, rfl⟩
      obtain ⟨R, hR⟩ : ∃ R, R = T.compF (f + 1) c := ⟨_, rfl⟩
      rw [← hR]
      have HRC := Lib.hid (hR.trans (comp_two (T := T) (f := f) HFD.out))
      have hffa : fin T.decomps f a = true := by
        have h := HFN.out
        rw [fin_succ (by rw [HFD.out]; intro h; cases h), HFD.out] at h
        simp only [List.all_cons, Bool.and_eq_true] at h
        exact h.1
      have HFA := Lib.hid hffa
      obtain ⟨ad, hAs, had, h0⟩ := HCE.out 0 a rfl
      subst hAs
      obtain ⟨_, hAs, _, h1⟩ := HCE.out 1 b rfl
      cases hAs
      have HA0 := Lib.hid h0
      have HA1 := Lib.hid (show w.cell? { block := ad.block, off := ad.off + 1, spot := none } = some (.int .i64 b) from h1)
      have p1 : ((2 : Int) != 2) = false := by decide
      clear hR hl h0 h1 hffa hlt HFN HFD HCE
      go_enter Tryz.func99, Tryz.ntmps99
      go_wp2_with fail
      generalize World.alloc (World.alloc w _) _ = w0 at *
      have HTW := Lib.hid (fun W (h : Below w0.heap.size w0 W) => HT.out W (below_next HBEL.out h))
      have HEXW := Lib.hid (fun x W (h : Below w0.heap.size w0 W) => HEX.out x W (HTW.out W h))
      have HCLW := Lib.hid (fun x W (h : Below w0.heap.size w0 W) => HCL.out x W (HTW.out W h))
      obtain ⟨ub, hub, hubn, hfb⟩ := HFV.out b w0 (HTW.out w0 (Below.refl _ _))
      have HFB := Lib.hid hfb
      obtain ⟨ua, hua, huan, hfa⟩ := HFV.out a w0 (HTW.out w0 (Below.refl _ _))
      have HFAF := Lib.hid hfa
      clear hfb hfa HT HEX HCL HFV
      cases hex : T.excB c
      · have HE := Lib.hid hex
        have HEXW := Lib.hid (fun W (h : Below w0.heap.size w0 W) => HEXW.out c W h)
        rw [hex] at HEXW
        clear hex
        by_cases hc0 : T.classOf c = 0
        · have q1 : (T.classOf c != 0) = false := by rw [bne_eq_false_iff_eq]; exact hc0
          have HC0 := Lib.hid hc0
          clear hc0
          by_cases ha0 : T.classOf a = 0
          · have q2 : (T.classOf a != 0) = false := by rw [bne_eq_false_iff_eq]; exact ha0
            have HAC := Lib.hid ha0
            clear ha0
            rcases nilB_ways hub hubn with ⟨hbn, rfl⟩ | ⟨hbn, adb, cb, rfl⟩
            · have HBN := Lib.hid hbn
              have HRC2 : Hid (R = ((decide (findL T.decomps a = []) || T.compF f a) && (decide (T.classOf b = 0) || decide (T.classOf (lastF T.decomps f a) ≤ T.classOf b)))) := Lib.hid (by
                rw [HRC.out, HE.out, decide_eq_true HC0.out, decide_eq_true HAC.out, decide_eq_true HBN.out]; rfl)
              clear hub hubn hbn
              obtain ⟨x0, x1, x2, x3, x4, x5, x6, x7, x8, x9, x10, x11⟩ := (HB0.out.later (Below.refl _ _)).tabG
              have m0 := cell_regrown ((HM0.out.later (Below.refl _ _)).at_ (i := 0) (u := .int .i64 c) rfl)
              have m1 := cell_regrown ((HM0.out.later (Below.refl _ _)).at_ (i := 1) (u := .slice (some ad) [a, b].length cs) rfl)
              have a0 := cell_regrown ((below_next HBEL.out (Below.refl _ _)).cell (p := ad.add 0) (by rw [block_of_add]; exact had) |>.trans HA0.out)
              have a0' : ∀ d os, (Go.Sort.grow (redrawn _ d) os).cell? ad = some (.int .i64 a) := a0
              have b0 := cell_regrown ((below_next HBEL.out (Below.refl _ _)).cell (p := { block := ad.block, off := ad.off + 1, spot := none }) had |>.trans HA1.out)
              refine wp_region_quiet_below (by kernel_rfl) (by kernel_rfl) ?_
              repeat (go_big_quiet_step (first | (go_at_call 110; exact quiet_t (fun W hW => HEXW.out W hW)) | (go_at_call 111; exact quiet_t (fun W hW => HCLW.out _ W hW)) | (go_at_call 67; exact quiet_t (fun W hW => HFB.out W hW))))
              refine wpQuiet_nil ?_
              rintro _ ⟨⟨dq, osq⟩, rfl⟩
              clear x0 x1 x2 x3 x4 x5 x6 x7 x8 x9 x10 x11 m0 m1 a0 a0' b0
              have hb1 := below_regrown w0 dq osq
              generalize Go.Sort.grow (redrawn w0 dq) osq = w1 at *
              go_wp2_with fail
              obtain ⟨x0, x1, x2, x3, x4, x5, x6, x7, x8, x9, x10, x11⟩ := (HB0.out.later hb1).tabG
              have m0 := cell_regrown ((HM0.out.later hb1).at_ (i := 0) (u := .int .i64 c) rfl)
              have m1 := cell_regrown ((HM0.out.later hb1).at_ (i := 1) (u := .slice (some ad) [a, b].length cs) rfl)
              have a0 := cell_regrown ((below_next HBEL.out hb1).cell (p := ad.add 0) (by rw [block_of_add]; exact had) |>.trans HA0.out)
              have a0' : ∀ d os, (Go.Sort.grow (redrawn _ d) os).cell? ad = some (.int .i64 a) := a0
              have b0 := cell_regrown ((below_next HBEL.out hb1).cell (p := { block := ad.block, off := ad.off + 1, spot := none }) had |>.trans HA1.out)
              refine wp_region_quiet_below (by kernel_rfl) (by kernel_rfl) ?_
              repeat (go_big_quiet_step ((go_at_call 67; exact quiet_t (fun W hW => HFAF.out W (below_next hb1 hW)))))
              refine wpQuiet_nil ?_
              rintro _ ⟨⟨dq, osq⟩, rfl⟩
              clear x0 x1 x2 x3 x4 x5 x6 x7 x8 x9 x10 x11 m0 m1 a0 a0' b0
              have hb2 := below_next hb1 (below_regrown w1 dq osq)
              generalize Go.Sort.grow (redrawn w1 dq) osq = w2 at *
              clear hb1
              rcases nilB_ways hua huan with ⟨han, rfl⟩ | ⟨han, ada, ca, rfl⟩
              · have HRC3 : Hid (R = (decide (T.classOf b = 0) || decide (T.classOf (lastF T.decomps f a) ≤ T.classOf b))) := Lib.hid (by rw [HRC2.out, decide_eq_true han]; rfl)
                clear hua huan han
                go_wp2_with fail
                obtain ⟨x0, x1, x2, x3, x4, x5, x6, x7, x8, x9, x10, x11⟩ := (HB0.out.later hb2).tabG
                have m0 := cell_regrown ((HM0.out.later hb2).at_ (i := 0) (u := .int .i64 c) rfl)
                have m1 := cell_regrown ((HM0.out.later hb2).at_ (i := 1) (u := .slice (some ad) [a, b].length cs) rfl)
                have a0 := cell_regrown ((below_next HBEL.out hb2).cell (p := ad.add 0) (by rw [block_of_add]; exact had) |>.trans HA0.out)
                have a0' : ∀ d os, (Go.Sort.grow (redrawn _ d) os).cell? ad = some (.int .i64 a) := a0
                have b0 := cell_regrown ((below_next HBEL.out hb2).cell (p := { block := ad.block, off := ad.off + 1, spot := none }) had |>.trans HA1.out)
                refine wp_region_quiet_below (by kernel_rfl) (by kernel_rfl) ?_
                repeat (go_big_quiet_step (fail))
                refine wpQuiet_nil ?_
                rintro _ ⟨⟨dq, osq⟩, rfl⟩
                clear x0 x1 x2 x3 x4 x5 x6 x7 x8 x9 x10 x11 m0 m1 a0 a0' b0
                have hb3 := below_next hb2 (below_regrown w2 dq osq)
                generalize Go.Sort.grow (redrawn w2 dq) osq = w3 at *
                clear hb2
                go_wp2_with fail
                obtain ⟨x0, x1, x2, x3, x4, x5, x6, x7, x8, x9, x10, x11⟩ := (HB0.out.later hb3).tabG
                have m0 := cell_regrown ((HM0.out.later hb3).at_ (i := 0) (u := .int .i64 c) rfl)
                have m1 := cell_regrown ((HM0.out.later hb3).at_ (i := 1) (u := .slice (some ad) [a, b].length cs) rfl)
                have a0 := cell_regrown ((below_next HBEL.out hb3).cell (p := ad.add 0) (by rw [block_of_add]; exact had) |>.trans HA0.out)
                have a0' : ∀ d os, (Go.Sort.grow (redrawn _ d) os).cell? ad = some (.int .i64 a) := a0
                have b0 := cell_regrown ((below_next HBEL.out hb3).cell (p := { block := ad.block, off := ad.off + 1, spot := none }) had |>.trans HA1.out)
                refine wp_region_quiet_below (by kernel_rfl) (by kernel_rfl) ?_
                repeat (go_big_quiet_step ((go_at_call 111; exact quiet_t (fun W hW => HCLW.out _ W (below_next hb3 hW)))))
                refine wpQuiet_nil ?_
                rintro _ ⟨⟨dq, osq⟩, rfl⟩
                clear x0 x1 x2 x3 x4 x5 x6 x7 x8 x9 x10 x11 m0 m1 a0 a0' b0
                have hb4 := below_next hb3 (below_regrown w3 dq osq)
                generalize Go.Sort.grow (redrawn w3 dq) osq = w4 at *
                clear hb3
                have HLAW := Lib.hid (fun W (h : Below w4.heap.size w4 W) => HLA.out a W (HTW.out W (below_next hb4 h)) HFA.out)
                by_cases hk0 : T.classOf b = 0
                · have q5 : (T.classOf b == 0) = true := by rw [beq_iff_eq]; exact hk0
                  have HK := Lib.hid hk0
                  clear hk0
                  go_wp2_with fail
                  obtain ⟨x0, x1, x2, x3, x4, x5, x6, x7, x8, x9, x10, x11⟩ := (HB0.out.later hb4).tabG
                  have m0 := cell_regrown ((HM0.out.later hb4).at_ (i := 0) (u := .int .i64 c) rfl)
                  have m1 := cell_regrown ((HM0.out.later hb4).at_ (i := 1) (u := .slice (some ad) [a, b].length cs) rfl)
                  have a0 := cell_regrown ((below_next HBEL.out hb4).cell (p := ad.add 0) (by rw [block_of_add]; exact had) |>.trans HA0.out)
                  have a0' : ∀ d os, (Go.Sort.grow (redrawn _ d) os).cell? ad = some (.int .i64 a) := a0
                  have b0 := cell_regrown ((below_next HBEL.out hb4).cell (p := { block := ad.block, off := ad.off + 1, spot := none }) had |>.trans HA1.out)
                  refine wp_region_quiet_below (by kernel_rfl) (by kernel_rfl) ?_
                  repeat (go_big_quiet_step (fail))
                  refine wpQuiet_nil ?_
                  rintro _ ⟨⟨dq, osq⟩, rfl⟩
                  clear x0 x1 x2 x3 x4 x5 x6 x7 x8 x9 x10 x11 m0 m1 a0 a0' b0
                  go_wp2_with fail
                  go_ret
                  rw [HRC3.out, decide_eq_true HK.out]
                  exact ⟨by simp, below_next HBEL.out (below_next hb4 (below_regrown _ dq osq))⟩
                · have q5 : (T.classOf b == 0) = false := by rw [beq_eq_false_iff_ne]; exact hk0
                  have HK := Lib.hid hk0
                  clear hk0
                  go_wp2_with fail
                  obtain ⟨x0, x1, x2, x3, x4, x5, x6, x7, x8, x9, x10, x11⟩ := (HB0.out.later hb4).tabG
                  have m0 := cell_regrown ((HM0.out.later hb4).at_ (i := 0) (u := .int .i64 c) rfl)
                  have m1 := cell_regrown ((HM0.out.later hb4).at_ (i := 1) (u := .slice (some ad) [a, b].length cs) rfl)
                  have a0 := cell_regrown ((below_next HBEL.out hb4).cell (p := ad.add 0) (by rw [block_of_add]; exact had) |>.trans HA0.out)
                  have a0' : ∀ d os, (Go.Sort.grow (redrawn _ d) os).cell? ad = some (.int .i64 a) := a0
                  have b0 := cell_regrown ((below_next HBEL.out hb4).cell (p := { block := ad.block, off := ad.off + 1, spot := none }) had |>.trans HA1.out)
                  refine wp_region_quiet_below (by kernel_rfl) (by kernel_rfl) ?_
                  repeat (go_big_quiet_step (first | (go_at_call 112; exact quiet_t (fun W hW => HLAW.out W hW)) | (go_at_call 111; exact quiet_t (fun W hW => HCLW.out _ W (below_next hb4 hW)))))
                  refine wpQuiet_nil ?_
                  rintro _ ⟨⟨dq, osq⟩, rfl⟩
                  clear x0 x1 x2 x3 x4 x5 x6 x7 x8 x9 x10 x11 m0 m1 a0 a0' b0
                  go_wp2_with fail
                  go_ret
                  rw [HRC3.out, decide_eq_false HK.out]
                  exact ⟨by simp, below_next HBEL.out (below_next hb4 (below_regrown _ dq osq))⟩
              · have HUA := Lib.hid (fun W (h : Below w0.heap.size w0 W) => hua.later h)
                have HCO := Lib.hid (fun W (h : Below w2.heap.size w2 W) => HIH.out a _ _ W (HTW.out W (below_next hb2 h)) (HUA.out W (below_next hb2 h)) rfl HFA.out)
                have HAN := Lib.hid han
                clear hua huan han
                cases hco : T.compF f a
                · rw [hco] at HCO
                  have HRC3 : Hid (R = false) := Lib.hid (by rw [HRC2.out, decide_eq_false HAN.out, hco]; rfl)
                  clear hco
                  go_wp2_with fail
                  obtain ⟨x0, x1, x2, x3, x4, x5, x6, x7, x8, x9, x10, x11⟩ := (HB0.out.later hb2).tabG
                  have m0 := cell_regrown ((HM0.out.later hb2).at_ (i := 0) (u := .int .i64 c) rfl)
                  have m1 := cell_regrown ((HM0.out.later hb2).at_ (i := 1) (u := .slice (some ad) [a, b].length cs) rfl)
                  have a0 := cell_regrown ((below_next HBEL.out hb2).cell (p := ad.add 0) (by rw [block_of_add]; exact had) |>.trans HA0.out)
                  have a0' : ∀ d os, (Go.Sort.grow (redrawn _ d) os).cell? ad = some (.int .i64 a) := a0
                  have b0 := cell_regrown ((below_next HBEL.out hb2).cell (p := { block := ad.block, off := ad.off + 1, spot := none }) had |>.trans HA1.out)
                  refine wp_region_quiet_below (by kernel_rfl) (by kernel_rfl) ?_
                  repeat (go_big_quiet_step ((go_at_call 99; exact quiet_t (fun W hW => HCO.out W hW))))
                  refine wpQuiet_nil ?_
                  rintro _ ⟨⟨dq, osq⟩, rfl⟩
                  clear x0 x1 x2 x3 x4 x5 x6 x7 x8 x9 x10 x11 m0 m1 a0 a0' b0
                  go_wp2_with fail
                  go_ret
                  rw [HRC3.out]
                  exact ⟨rfl, below_next HBEL.out (below_next hb2 (below_regrown _ dq osq))⟩
                · rw [hco] at HCO
                  have HRC3 : Hid (R = (decide (T.classOf b = 0) || decide (T.classOf (lastF T.decomps f a) ≤ T.classOf b))) := Lib.hid (by rw [HRC2.out, hco, Bool.or_true, Bool.true_and])
                  clear hco
                  go_wp2_with fail
                  obtain ⟨x0, x1, x2, x3, x4, x5, x6, x7, x8, x9, x10, x11⟩ := (HB0.out.later hb2).tabG
                  have m0 := cell_regrown ((HM0.out.later hb2).at_ (i := 0) (u := .int .i64 c) rfl)
                  have m1 := cell_regrown ((HM0.out.later hb2).at_ (i := 1) (u := .slice (some ad) [a, b].length cs) rfl)
                  have a0 := cell_regrown ((below_next HBEL.out hb2).cell (p := ad.add 0) (by rw [block_of_add]; exact had) |>.trans HA0.out)
                  have a0' : ∀ d os, (Go.Sort.grow (redrawn _ d) os).cell? ad = some (.int .i64 a) := a0
                  have b0 := cell_regrown ((below_next HBEL.out hb2).cell (p := { block := ad.block, off := ad.off + 1, spot := none }) had |>.trans HA1.out)
                  refine wp_region_quiet_below (by kernel_rfl) (by kernel_rfl) ?_
                  repeat (go_big_quiet_step ((go_at_call 99; exact quiet_t (fun W hW => HCO.out W hW))))
                  refine wpQuiet_nil ?_
                  rintro _ ⟨⟨dq, osq⟩, rfl⟩
                  clear x0 x1 x2 x3 x4 x5 x6 x7 x8 x9 x10 x11 m0 m1 a0 a0' b0
                  have hb3 := below_next hb2 (below_regrown w2 dq osq)
                  generalize Go.Sort.grow (redrawn w2 dq) osq = w3 at *
                  clear hb2
                  go_wp2_with fail
                  obtain ⟨x0, x1, x2, x3, x4, x5, x6, x7, x8, x9, x10, x11⟩ := (HB0.out.later hb3).tabG
                  have m0 := cell_regrown ((HM0.out.later hb3).at_ (i := 0) (u := .int .i64 c) rfl)
                  have m1 := cell_regrown ((HM0.out.later hb3).at_ (i := 1) (u := .slice (some ad) [a, b].length cs) rfl)
                  have a0 := cell_regrown ((below_next HBEL.out hb3).cell (p := ad.add 0) (by rw [block_of_add]; exact had) |>.trans HA0.out)
                  have a0' : ∀ d os, (Go.Sort.grow (redrawn _ d) os).cell? ad = some (.int .i64 a) := a0
                  have b0 := cell_regrown ((below_next HBEL.out hb3).cell (p := { block := ad.block, off := ad.off + 1, spot := none }) had |>.trans HA1.out)
                  refine wp_region_quiet_below (by kernel_rfl) (by kernel_rfl) ?_
                  repeat (go_big_quiet_step ((go_at_call 111; exact quiet_t (fun W hW => HCLW.out _ W (below_next hb3 hW)))))
                  refine wpQuiet_nil ?_
                  rintro _ ⟨⟨dq, osq⟩, rfl⟩
                  clear x0 x1 x2 x3 x4 x5 x6 x7 x8 x9 x10 x11 m0 m1 a0 a0' b0
                  have hb4 := below_next hb3 (below_regrown w3 dq osq)
                  generalize Go.Sort.grow (redrawn w3 dq) osq = w4 at *
                  clear hb3
                  have HLAW := Lib.hid (fun W (h : Below w4.heap.size w4 W) => HLA.out a W (HTW.out W (below_next hb4 h)) HFA.out)
                  by_cases hk0 : T.classOf b = 0
                  · have q5 : (T.classOf b == 0) = true := by rw [beq_iff_eq]; exact hk0
                    have HK := Lib.hid hk0
                    clear hk0
                    go_wp2_with fail
                    obtain ⟨x0, x1, x2, x3, x4, x5, x6, x7, x8, x9, x10, x11⟩ := (HB0.out.later hb4).tabG
                    have m0 := cell_regrown ((HM0.out.later hb4).at_ (i := 0) (u := .int .i64 c) rfl)
                    have m1 := cell_regrown ((HM0.out.later hb4).at_ (i := 1) (u := .slice (some ad) [a, b].length cs) rfl)
                    have a0 := cell_regrown ((below_next HBEL.out hb4).cell (p := ad.add 0) (by rw [block_of_add]; exact had) |>.trans HA0.out)
                    have a0' : ∀ d os, (Go.Sort.grow (redrawn _ d) os).cell? ad = some (.int .i64 a) := a0
                    have b0 := cell_regrown ((below_next HBEL.out hb4).cell (p := { block := ad.block, off := ad.off + 1, spot := none }) had |>.trans HA1.out)
                    refine wp_region_quiet_below (by kernel_rfl) (by kernel_rfl) ?_
                    repeat (go_big_quiet_step (fail))
                    refine wpQuiet_nil ?_
                    rintro _ ⟨⟨dq, osq⟩, rfl⟩
                    clear x0 x1 x2 x3 x4 x5 x6 x7 x8 x9 x10 x11 m0 m1 a0 a0' b0
                    go_wp2_with fail
                    go_ret
                    rw [HRC3.out, decide_eq_true HK.out]
                    exact ⟨by simp, below_next HBEL.out (below_next hb4 (below_regrown _ dq osq))⟩
                  · have q5 : (T.classOf b == 0) = false := by rw [beq_eq_false_iff_ne]; exact hk0
                    have HK := Lib.hid hk0
                    clear hk0
                    go_wp2_with fail
                    obtain ⟨x0, x1, x2, x3, x4, x5, x6, x7, x8, x9, x10, x11⟩ := (HB0.out.later hb4).tabG
                    have m0 := cell_regrown ((HM0.out.later hb4).at_ (i := 0) (u := .int .i64 c) rfl)
                    have m1 := cell_regrown ((HM0.out.later hb4).at_ (i := 1) (u := .slice (some ad) [a, b].length cs) rfl)
                    have a0 := cell_regrown ((below_next HBEL.out hb4).cell (p := ad.add 0) (by rw [block_of_add]; exact had) |>.trans HA0.out)
                    have a0' : ∀ d os, (Go.Sort.grow (redrawn _ d) os).cell? ad = some (.int .i64 a) := a0
                    have b0 := cell_regrown ((below_next HBEL.out hb4).cell (p := { block := ad.block, off := ad.off + 1, spot := none }) had |>.trans HA1.out)
                    refine wp_region_quiet_below (by kernel_rfl) (by kernel_rfl) ?_
                    repeat (go_big_quiet_step (first | (go_at_call 112; exact quiet_t (fun W hW => HLAW.out W hW)) | (go_at_call 111; exact quiet_t (fun W hW => HCLW.out _ W (below_next hb4 hW)))))
                    refine wpQuiet_nil ?_
                    rintro _ ⟨⟨dq, osq⟩, rfl⟩
                    clear x0 x1 x2 x3 x4 x5 x6 x7 x8 x9 x10 x11 m0 m1 a0 a0' b0
                    go_wp2_with fail
                    go_ret
                    rw [HRC3.out, decide_eq_false HK.out]
                    exact ⟨by simp, below_next HBEL.out (below_next hb4 (below_regrown _ dq osq))⟩
            · have HBN := Lib.hid hbn
              clear hub hubn hbn
              obtain ⟨x0, x1, x2, x3, x4, x5, x6, x7, x8, x9, x10, x11⟩ := (HB0.out.later (Below.refl _ _)).tabG
              have m0 := cell_regrown ((HM0.out.later (Below.refl _ _)).at_ (i := 0) (u := .int .i64 c) rfl)
              have m1 := cell_regrown ((HM0.out.later (Below.refl _ _)).at_ (i := 1) (u := .slice (some ad) [a, b].length cs) rfl)
              have a0 := cell_regrown ((below_next HBEL.out (Below.refl _ _)).cell (p := ad.add 0) (by rw [block_of_add]; exact had) |>.trans HA0.out)
              have a0' : ∀ d os, (Go.Sort.grow (redrawn _ d) os).cell? ad = some (.int .i64 a) := a0
              have b0 := cell_regrown ((below_next HBEL.out (Below.refl _ _)).cell (p := { block := ad.block, off := ad.off + 1, spot := none }) had |>.trans HA1.out)
              refine wp_region_quiet_below (by kernel_rfl) (by kernel_rfl) ?_
              repeat (go_big_quiet_step (first | (go_at_call 110; exact quiet_t (fun W hW => HEXW.out W hW)) | (go_at_call 111; exact quiet_t (fun W hW => HCLW.out _ W hW)) | (go_at_call 67; exact quiet_t (fun W hW => HFB.out W hW))))
              refine wpQuiet_nil ?_
              rintro _ ⟨⟨dq, osq⟩, rfl⟩
              clear x0 x1 x2 x3 x4 x5 x6 x7 x8 x9 x10 x11 m0 m1 a0 a0' b0
              go_wp2_with fail
              go_ret
              rw [HRC.out, decide_eq_false HBN.out]
              exact ⟨by simp, below_next HBEL.out (below_regrown _ dq osq)⟩
          · have q2 : (T.classOf a != 0) = true := by rw [bne_iff_ne]; exact ha0
            have HAC := Lib.hid ha0
            clear ha0
            obtain ⟨x0, x1, x2, x3, x4, x5, x6, x7, x8, x9, x10, x11⟩ := (HB0.out.later (Below.refl _ _)).tabG
            have m0 := cell_regrown ((HM0.out.later (Below.refl _ _)).at_ (i := 0) (u := .int .i64 c) rfl)
            have m1 := cell_regrown ((HM0.out.later (Below.refl _ _)).at_ (i := 1) (u := .slice (some ad) [a, b].length cs) rfl)
            have a0 := cell_regrown ((below_next HBEL.out (Below.refl _ _)).cell (p := ad.add 0) (by rw [block_of_add]; exact had) |>.trans HA0.out)
            have a0' : ∀ d os, (Go.Sort.grow (redrawn _ d) os).cell? ad = some (.int .i64 a) := a0
            have b0 := cell_regrown ((below_next HBEL.out (Below.refl _ _)).cell (p := { block := ad.block, off := ad.off + 1, spot := none }) had |>.trans HA1.out)
            refine wp_region_quiet_below (by kernel_rfl) (by kernel_rfl) ?_
            repeat (go_big_quiet_step (first | (go_at_call 110; exact quiet_t (fun W hW => HEXW.out W hW)) | (go_at_call 111; exact quiet_t (fun W hW => HCLW.out _ W hW)) | (go_at_call 67; exact quiet_t (fun W hW => HFB.out W hW))))
            refine wpQuiet_nil ?_
            rintro _ ⟨⟨dq, osq⟩, rfl⟩
            clear x0 x1 x2 x3 x4 x5 x6 x7 x8 x9 x10 x11 m0 m1 a0 a0' b0
            go_wp2_with fail
            go_ret
            rw [HRC.out, decide_eq_false HAC.out]
            exact ⟨by simp, below_next HBEL.out (below_regrown _ dq osq)⟩
        · have q1 : (T.classOf c != 0) = true := by rw [bne_iff_ne]; exact hc0
          have HC0 := Lib.hid hc0
          clear hc0
          obtain ⟨x0, x1, x2, x3, x4, x5, x6, x7, x8, x9, x10, x11⟩ := (HB0.out.later (Below.refl _ _)).tabG
          have m0 := cell_regrown ((HM0.out.later (Below.refl _ _)).at_ (i := 0) (u := .int .i64 c) rfl)
          have m1 := cell_regrown ((HM0.out.later (Below.refl _ _)).at_ (i := 1) (u := .slice (some ad) [a, b].length cs) rfl)
          have a0 := cell_regrown ((below_next HBEL.out (Below.refl _ _)).cell (p := ad.add 0) (by rw [block_of_add]; exact had) |>.trans HA0.out)
          have a0' : ∀ d os, (Go.Sort.grow (redrawn _ d) os).cell? ad = some (.int .i64 a) := a0
          have b0 := cell_regrown ((below_next HBEL.out (Below.refl _ _)).cell (p := { block := ad.block, off := ad.off + 1, spot := none }) had |>.trans HA1.out)
          refine wp_region_quiet_below (by kernel_rfl) (by kernel_rfl) ?_
          repeat (go_big_quiet_step (first | (go_at_call 110; exact quiet_t (fun W hW => HEXW.out W hW)) | (go_at_call 111; exact quiet_t (fun W hW => HCLW.out _ W hW)) | (go_at_call 67; exact quiet_t (fun W hW => HFB.out W hW))))
          refine wpQuiet_nil ?_
          rintro _ ⟨⟨dq, osq⟩, rfl⟩
          clear x0 x1 x2 x3 x4 x5 x6 x7 x8 x9 x10 x11 m0 m1 a0 a0' b0
          go_wp2_with fail
          go_ret
          rw [HRC.out, decide_eq_false HC0.out]
          exact ⟨by simp, below_next HBEL.out (below_regrown _ dq osq)⟩
      · have HE := Lib.hid hex
        have HEXW := Lib.hid (fun W (h : Below w0.heap.size w0 W) => HEXW.out c W h)
        rw [hex] at HEXW
        clear hex
        obtain ⟨x0, x1, x2, x3, x4, x5, x6, x7, x8, x9, x10, x11⟩ := (HB0.out.later (Below.refl _ _)).tabG
        have m0 := cell_regrown ((HM0.out.later (Below.refl _ _)).at_ (i := 0) (u := .int .i64 c) rfl)
        have m1 := cell_regrown ((HM0.out.later (Below.refl _ _)).at_ (i := 1) (u := .slice (some ad) [a, b].length cs) rfl)
        have a0 := cell_regrown ((below_next HBEL.out (Below.refl _ _)).cell (p := ad.add 0) (by rw [block_of_add]; exact had) |>.trans HA0.out)
        have a0' : ∀ d os, (Go.Sort.grow (redrawn _ d) os).cell? ad = some (.int .i64 a) := a0
        have b0 := cell_regrown ((below_next HBEL.out (Below.refl _ _)).cell (p := { block := ad.block, off := ad.off + 1, spot := none }) had |>.trans HA1.out)
        refine wp_region_quiet_below (by kernel_rfl) (by kernel_rfl) ?_
        repeat (go_big_quiet_step (first | (go_at_call 110; exact quiet_t (fun W hW => HEXW.out W hW)) | (go_at_call 111; exact quiet_t (fun W hW => HCLW.out _ W hW)) | (go_at_call 67; exact quiet_t (fun W hW => HFB.out W hW))))
        refine wpQuiet_nil ?_
        rintro _ ⟨⟨dq, osq⟩, rfl⟩
        clear x0 x1 x2 x3 x4 x5 x6 x7 x8 x9 x10 x11 m0 m1 a0 a0' b0
        go_wp2_with fail
        go_ret
        rw [HRC.out, HE.out]
        exact ⟨by simp, below_next HBEL.out (below_regrown _ dq osq)⟩
    · have hcm := comp_len (T := T) (f := f + 1) HFD.out hl
      rw [hcm]
      have p1 : ((tg.length : Int) != 2) = true := by rw [bne_iff_ne]; omega
      clear hl hcm
      go_enter Tryz.func99, Tryz.ntmps99
      go_wp2_with fail
      generalize World.alloc (World.alloc w _) _ = w0 at *
      obtain ⟨x0, x1, x2, x3, x4, x5, x6, x7, x8, x9, x10, x11⟩ := HB0.out.tabG
      have m0 := cell_regrown (HM0.out.at_ (i := 0) (u := .int .i64 c) rfl)
      have m1 := cell_regrown (HM0.out.at_ (i := 1) (u := .slice As tg.length cs) rfl)
      refine wp_region_quiet_below (by kernel_rfl) (by kernel_rfl) ?_
      repeat (go_big_quiet_step (fail))
      refine wpQuiet_nil ?_
      rintro _ ⟨⟨dq, osq⟩, rfl⟩
      clear x0 x1 x2 x3 x4 x5 x6 x7 x8 x9 x10 x11 m0 m1
      go_wp2_with fail
      go_ret
      exact ⟨rfl, below_next HBEL.out (below_regrown _ dq osq)⟩
end Go.Proofs.YtikcfoobfobmnaaGreatDoor
