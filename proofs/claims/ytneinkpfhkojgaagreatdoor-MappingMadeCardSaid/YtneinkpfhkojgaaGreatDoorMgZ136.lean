/-
  Merged texts: lemmas and walks that the last text of this claim leans on.
-/
import Derived.Test.YtneinkpfhkojgaaGreatDoorMgZ135
import Derived.Test.YtneinkpfhkojgaaGreatDoorMgZ133
import Derived.Test.YtneinkpfhkojgaaGreatDoorMgZ134
import Derived.Deep.Cut
import Derived.Deep.CutRange
import Derived.Deep.CutBlock
import Derived.Deep.LoopGhost
/-
  The walk through table.Composable.
-/
namespace Go.Proofs.YtneinkpfhkojgaaGreatDoor
open Go.RowKit ND

/-- The cells of tables in a block, in every world that may come within a region. -/
theorem Blk.tabG {w : World} {g : Nat} {e : TypeId} {c0 c1 c2 c3 c4 c5 c6 c7 c8 c9 c10 c11 : Value} (h : Blk w g e #[c0, c1, c2, c3, c4, c5, c6, c7, c8, c9, c10, c11]) :
    (∀ d os, (Go.Sort.grow (redrawn w d) os).cell? ⟨g, 0, none⟩ = some c0) ∧ (∀ d os, (Go.Sort.grow (redrawn w d) os).cell? ⟨g, 1, none⟩ = some c1) ∧ (∀ d os, (Go.Sort.grow (redrawn w d) os).cell? ⟨g, 2, none⟩ = some c2) ∧ (∀ d os, (Go.Sort.grow (redrawn w d) os).cell? ⟨g, 3, none⟩ = some c3) ∧
    (∀ d os, (Go.Sort.grow (redrawn w d) os).cell? ⟨g, 4, none⟩ = some c4) ∧ (∀ d os, (Go.Sort.grow (redrawn w d) os).cell? ⟨g, 5, none⟩ = some c5) ∧ (∀ d os, (Go.Sort.grow (redrawn w d) os).cell? ⟨g, 6, none⟩ = some c6) ∧ (∀ d os, (Go.Sort.grow (redrawn w d) os).cell? ⟨g, 7, none⟩ = some c7) ∧
    (∀ d os, (Go.Sort.grow (redrawn w d) os).cell? ⟨g, 8, none⟩ = some c8) ∧ (∀ d os, (Go.Sort.grow (redrawn w d) os).cell? ⟨g, 9, none⟩ = some c9) ∧ (∀ d os, (Go.Sort.grow (redrawn w d) os).cell? ⟨g, 10, none⟩ = some c10) ∧ (∀ d os, (Go.Sort.grow (redrawn w d) os).cell? ⟨g, 11, none⟩ = some c11) := by
  obtain ⟨x0, x1, x2, x3, x4, x5, x6, x7, x8, x9, x10, x11⟩ := h.tab
  exact ⟨cell_regrown x0, cell_regrown x1, cell_regrown x2, cell_regrown x3, cell_regrown x4, cell_regrown x5, cell_regrown x6, cell_regrown x7, cell_regrown x8, cell_regrown x9, cell_regrown x10, cell_regrown x11⟩

theorem comp_len {T : Tab} {f : Nat} {c : Int} {tg : List Int} (h : findL T.decomps c = tg) (hl : tg.length ≠ 2) : T.compF f c = false := by
  cases f with
  | zero => rfl
  | succ f =>
    rw [Tab.compF]
    split
    · rename_i a b he
      rw [h] at he; rw [he] at hl; exact absurd rfl hl
    · rfl
theorem comp_two {T : Tab} {f : Nat} {c a b : Int} (h : findL T.decomps c = [a, b]) : T.compF (f + 1) c = (!T.excB c && (decide (T.classOf c = 0) && (decide (T.classOf a = 0) && (decide (findL T.decomps b = []) &&
        ((decide (findL T.decomps a = []) || T.compF f a) && (decide (T.classOf b = 0) || decide (T.classOf (lastF T.decomps f a) ≤ T.classOf b))))))) := by
  rw [Tab.compF, h]

set_option maxRecDepth 100000 in
set_option maxHeartbeats 1000000 in
theorem comp_zero (t : Tv) (T : Tab) (c : Int) (tg : List Int) (sv : Value) (w : World) (ht : TabR w w.heap.size t T) (hto : Ints w w.heap.size .i64 sv tg) (hfd : findL T.decomps c = tg) (hfin : fin T.decomps 0 c = true) :
    Calls Tryz.prog 92 #[t.val, .agg #[.int .i64 c, sv]] w fun e w' => e = .returned (.bool (T.compF 0 c)) ∧ Below w.heap.size w w' := by
  have hn : tg = [] := by rw [fin_zero, decide_eq_true_eq] at hfin; rw [← hfd]; exact hfin
  subst hn
  obtain ⟨A0, A1, A2, A3, A4, A5, A6, A7, A8, A9, A10, A11, k0, k1, k2, k3, k4, k5, k6, k7, k8, k9, k10, k11, rfl⟩ := ht.shape
  obtain ⟨As, cs, rfl, _⟩ := hto
  have hB0 : Blk ((w.alloc (.cells #[.slice A0 T.category.length k0, .slice A1 T.cls.length k1, .slice A2 T.joining.length k2, .slice A3 T.bidi.length k3, .slice A4 T.script.length k4, .slice A5 T.status.length k5, .slice A6 T.ignorable.length k6, .slice A7 T.extensions.length k7, .slice A8 T.maps.length k8, .slice A9 T.decomps.length k9, .slice A10 T.excluded.length k10, .slice A11 T.prototypes.length k11] 26)).alloc (.cells #[.int .i64 c, .slice As 0 cs] 49)) w.heap.size 26 _ := (Blk.new w 26 _).alloc _
  have hM0 : Blk ((w.alloc (.cells #[.slice A0 T.category.length k0, .slice A1 T.cls.length k1, .slice A2 T.joining.length k2, .slice A3 T.bidi.length k3, .slice A4 T.script.length k4, .slice A5 T.status.length k5, .slice A6 T.ignorable.length k6, .slice A7 T.extensions.length k7, .slice A8 T.maps.length k8, .slice A9 T.decomps.length k9, .slice A10 T.excluded.length k10, .slice A11 T.prototypes.length k11] 26)).alloc (.cells #[.int .i64 c, .slice As 0 cs] 49)) (w.heap.size + 1) 49 #[.int .i64 c, .slice As 0 cs] := by
    have h := Blk.new (w.alloc (.cells #[.slice A0 T.category.length k0, .slice A1 T.cls.length k1, .slice A2 T.joining.length k2, .slice A3 T.bidi.length k3, .slice A4 T.script.length k4, .slice A5 T.status.length k5, .slice A6 T.ignorable.length k6, .slice A7 T.extensions.length k7, .slice A8 T.maps.length k8, .slice A9 T.decomps.length k9, .slice A10 T.excluded.length k10, .slice A11 T.prototypes.length k11] 26)) 49 #[.int .i64 c, .slice As 0 cs]
    rw [show (w.alloc (.cells #[.slice A0 T.category.length k0, .slice A1 T.cls.length k1, .slice A2 T.joining.length k2, .slice A3 T.bidi.length k3, .slice A4 T.script.length k4, .slice A5 T.status.length k5, .slice A6 T.ignorable.length k6, .slice A7 T.extensions.length k7, .slice A8 T.maps.length k8, .slice A9 T.decomps.length k9, .slice A10 T.excluded.length k10, .slice A11 T.prototypes.length k11] 26)).heap.size = w.heap.size + 1 by simp] at h
    exact h
  have hbel0 : Below w.heap.size w ((w.alloc (.cells #[.slice A0 T.category.length k0, .slice A1 T.cls.length k1, .slice A2 T.joining.length k2, .slice A3 T.bidi.length k3, .slice A4 T.script.length k4, .slice A5 T.status.length k5, .slice A6 T.ignorable.length k6, .slice A7 T.extensions.length k7, .slice A8 T.maps.length k8, .slice A9 T.decomps.length k9, .slice A10 T.excluded.length k10, .slice A11 T.prototypes.length k11] 26)).alloc (.cells #[.int .i64 c, .slice As 0 cs] 49)) := ((Below.refl _ _).alloc (Nat.le_refl _) _).alloc (by simp) _
  have HB0 := Lib.hid hB0
  have HM0 := Lib.hid hM0
  have HBEL := Lib.hid hbel0
  have p1 : ((0 : Int) != 2) = true := by decide
  clear hB0 hM0 hbel0 ht hfd hfin
  show Calls _ _ _ _ fun e w' => e = .returned (.bool false) ∧ _
  go_enter Tryz.func92, Tryz.ntmps92
  go_wp2_with fail
  generalize World.alloc (World.alloc w _) _ = w0 at *
  obtain ⟨x0, x1, x2, x3, x4, x5, x6, x7, x8, x9, x10, x11⟩ := HB0.out.tabG
  have m0 := cell_regrown (HM0.out.at_ (i := 0) (u := .int .i64 c) rfl)
  have m1 := cell_regrown (HM0.out.at_ (i := 1) (u := .slice As 0 cs) rfl)
  refine wp_region_quiet_below (by kernel_rfl) (by kernel_rfl) ?_
  repeat (go_big_quiet_step (fail))
  refine wpQuiet_nil ?_
  rintro _ ⟨⟨dq, osq⟩, rfl⟩
  clear x0 x1 x2 x3 x4 x5 x6 x7 x8 x9 x10 x11 m0 m1
  go_wp2_with fail
  go_ret
  exact ⟨rfl, below_next HBEL.out (below_regrown _ dq osq)⟩

set_option maxRecDepth 100000 in
set_option maxHeartbeats 8000000 in
theorem composable_any (t : Tv) (T : Tab) (hsh : Shape T) (hne : ∀ m ∈ T.decomps, m.2 ≠ [] ∧ m.2.length ≤ 1000) : ∀ (f : Nat) (c : Int) (tg : List Int) (sv : Value) (w : World), TabR w w.heap.size t T → Ints w w.heap.size .i64 sv tg → findL T.decomps c = tg → fin T.decomps f c = true →
    Calls Tryz.prog 92 #[t.val, .agg #[.int .i64 c, sv]] w fun e w' => e = .returned (.bool (T.compF f c)) ∧ Below w.heap.size w w' := by
  intro f
  induction f with
  | zero => exact fun c tg sv w ht hto hfd hfin => comp_zero t T c tg sv w ht hto hfd hfin
  | succ f ih =>
    intro c tg sv w ht hto hfd hfin
    obtain ⟨tc, htc⟩ : ∃ tc, tc = t.cells := ⟨_, rfl⟩
    have HT := Lib.hid (fun W (h : Below w.heap.size w W) => ht.later h)
    have hs := keysB_sort hsh.kd
    have HEX := Lib.hid (fun x W h => excluded_any t T x W h (keysB_asc hsh.ke) hsh.lenX)
    have HCL := Lib.hid (fun x W h => class_any t T x 0 1114111 W h hsh.c1.1 hsh.c1.2.1)
    have HLA := Lib.hid (fun x W h hf => last_any t T hs hne hsh.ld f x W h hf)
    have HIH := Lib.hid ih
    have HFV := Lib.hid (fun x W (h : TabR W W.heap.size t T) => find_v t.c9 T.decomps x W h.r9 hs (fun m hm => (hne m hm).1) hsh.ld)
    obtain ⟨A0, A1, A2, A3, A4, A5, A6, A7, A8, A9, A10, A11, k0, k1, k2, k3, k4, k5, k6, k7, k8, k9, k10, k11, rfl⟩ := ht.shape
    have HTC := Lib.hid htc
    obtain ⟨As, cs, rfl, hcs1, hcs2, _, hcell⟩ := hto
    have hlt : tg.length ≤ 9223372036854775807 := by unfold maxLen at hcs2; omega
    have HCE := Lib.hid hcell
    have HFD := Lib.hid hfd
    have HFN := Lib.hid hfin
    have hnq := fun (w : World) (a : Option Addr) (n c : Nat) => run_neq_slice_nil_any (P := Tryz.prog) w 22 3 a n c 0 0 Tryz.underlying22
    clear ht ih htc hcell hcs1 hcs2 hfd hfin hs
    have hB0 : Blk ((w.alloc (.cells #[.slice A0 T.category.length k0, .slice A1 T.cls.length k1, .slice A2 T.joining.length k2, .slice A3 T.bidi.length k3, .slice A4 T.script.length k4, .slice A5 T.status.length k5, .slice A6 T.ignorable.length k6, .slice A7 T.extensions.length k7, .slice A8 T.maps.length k8, .slice A9 T.decomps.length k9, .slice A10 T.excluded.length k10, .slice A11 T.prototypes.length k11] 26)).alloc (.cells #[.int .i64 c, .slice As tg.length cs] 49)) w.heap.size 26 _ := (Blk.new w 26 _).alloc _
    have hM0 : Blk ((w.alloc (.cells #[.slice A0 T.category.length k0, .slice A1 T.cls.length k1, .slice A2 T.joining.length k2, .slice A3 T.bidi.length k3, .slice A4 T.script.length k4, .slice A5 T.status.length k5, .slice A6 T.ignorable.length k6, .slice A7 T.extensions.length k7, .slice A8 T.maps.length k8, .slice A9 T.decomps.length k9, .slice A10 T.excluded.length k10, .slice A11 T.prototypes.length k11] 26)).alloc (.cells #[.int .i64 c, .slice As tg.length cs] 49)) (w.heap.size + 1) 49 #[.int .i64 c, .slice As tg.length cs] := by
      have h := Blk.new (w.alloc (.cells #[.slice A0 T.category.length k0, .slice A1 T.cls.length k1, .slice A2 T.joining.length k2, .slice A3 T.bidi.length k3, .slice A4 T.script.length k4, .slice A5 T.status.length k5, .slice A6 T.ignorable.length k6, .slice A7 T.extensions.length k7, .slice A8 T.maps.length k8, .slice A9 T.decomps.length k9, .slice A10 T.excluded.length k10, .slice A11 T.prototypes.length k11] 26)) 49 #[.int .i64 c, .slice As tg.length cs]
      rw [show (w.alloc (.cells #[.slice A0 T.category.length k0, .slice A1 T.cls.length k1, .slice A2 T.joining.length k2, .slice A3 T.bidi.length k3, .slice A4 T.script.length k4, .slice A5 T.status.length k5, .slice A6 T.ignorable.length k6, .slice A7 T.extensions.length k7, .slice A8 T.maps.length k8, .slice A9 T.decomps.length k9, .slice A10 T.excluded.length k10, .slice A11 T.prototypes.length k11] 26)).heap.size = w.heap.size + 1 by simp] at h
      exact h
    have hbel0 : Below w.heap.size w ((w.alloc (.cells #[.slice A0 T.category.length k0, .slice A1 T.cls.length k1, .slice A2 T.joining.length k2, .slice A3 T.bidi.length k3, .slice A4 T.script.length k4, .slice A5 T.status.length k5, .slice A6 T.ignorable.length k6, .slice A7 T.extensions.length k7, .slice A8 T.maps.length k8, .slice A9 T.decomps.length k9, .slice A10 T.excluded.length k10, .slice A11 T.prototypes.length k11] 26)).alloc (.cells #[.int .i64 c, .slice As tg.length cs] 49)) := ((Below.refl _ _).alloc (Nat.le_refl _) _).alloc (by simp) _
    have HB0 := Lib.hid hB0
    have HM0 := Lib.hid hM0
    have HBEL := Lib.hid hbel0
    clear hB0 hM0 hbel0
    by_cases hl : tg.length = 2
    · obtain ⟨a, b, rfl⟩ : ∃ a b, tg = [a, b] := by
        match tg, hl with
        | [a, b], _ => exact ⟨a, b, rfl⟩
      obtain ⟨R, hR⟩ : ∃ R, R = T.compF (f + 1) c := ⟨_, rfl⟩
      rw [← hR]
      have HRC := Lib.hid (hR.trans (comp_two (T := T) (f := f) HFD.out))
      have hffa : fin T.decomps f a = true := by
        have h := HFN.out
        rw [fin_succ (by rw [HFD.out]; intro h; cases h), HFD.out] at h
        simp only [List.all_cons, Bool.and_eq_true] at h
        exact h.1
      have HFA := Lib.hid hffa
      obtain ⟨ad, hAs, had, h0⟩ := HCE.out 0 a rfl
      subst hAs
      obtain ⟨_, hAs, _, h1⟩ := HCE.out 1 b rfl
      cases hAs
      have HA0 := Lib.hid h0
      have HA1 := Lib.hid (show w.cell? { block := ad.block, off := ad.off + 1, spot := none } = some (.int .i64 b) from h1)
      have p1 : ((2 : Int) != 2) = false := by decide
      clear hR hl h0 h1 hffa hlt HFN HFD HCE
      go_enter Tryz.func92, Tryz.ntmps92
      go_wp2_with fail
      generalize World.alloc (World.alloc w _) _ = w0 at *
      have HTW := Lib.hid (fun W (h : Below w0.heap.size w0 W) => HT.out W (below_next HBEL.out h))
      have HEXW := Lib.hid (fun x W (h : Below w0.heap.size w0 W) => HEX.out x W (HTW.out W h))
      have HCLW := Lib.hid (fun x W (h : Below w0.heap.size w0 W) => HCL.out x W (HTW.out W h))
      obtain ⟨ub, hub, hubn, hfb⟩ := HFV.out b w0 (HTW.out w0 (Below.refl _ _))
      have HFB := Lib.hid hfb
      obtain ⟨ua, hua, huan, hfa⟩ := HFV.out a w0 (HTW.out w0 (Below.refl _ _))
      have HFAF := Lib.hid hfa
      clear hfb hfa HT HEX HCL HFV
      cases hex : T.excB c
      · have HE := Lib.hid hex
        have HEXW := Lib.hid (fun W (h : Below w0.heap.size w0 W) => HEXW.out c W h)
        rw [hex] at HEXW
        clear hex
        by_cases hc0 : T.classOf c = 0
        · have q1 : (T.classOf c != 0) = false := by rw [bne_eq_false_iff_eq]; exact hc0
          have HC0 := Lib.hid hc0
          clear hc0
          by_cases ha0 : T.classOf a = 0
          · have q2 : (T.classOf a != 0) = false := by rw [bne_eq_false_iff_eq]; exact ha0
            have HAC := Lib.hid ha0
            clear ha0
            rcases nilB_ways hub hubn with ⟨hbn, rfl⟩ | ⟨hbn, adb, cb, rfl⟩
            · have HBN := Lib.hid hbn
              have HRC2 : Hid (R = ((decide (findL T.decomps a = []) || T.compF f a) && (decide (T.classOf b = 0) || decide (T.classOf (lastF T.decomps f a) ≤ T.classOf b)))) := Lib.hid (by
                rw [HRC.out, HE.out, decide_eq_true HC0.out, decide_eq_true HAC.out, decide_eq_true HBN.out]; rfl)
              clear hub hubn hbn
              obtain ⟨x0, x1, x2, x3, x4, x5, x6, x7, x8, x9, x10, x11⟩ := (HB0.out.later (Below.refl _ _)).tabG
              have m0 := cell_regrown ((HM0.out.later (Below.refl _ _)).at_ (i := 0) (u := .int .i64 c) rfl)
              have m1 := cell_regrown ((HM0.out.later (Below.refl _ _)).at_ (i := 1) (u := .slice (some ad) [a, b].length cs) rfl)
              have a0 := cell_regrown ((below_next HBEL.out (Below.refl _ _)).cell (p := ad.add 0) (by rw [block_of_add]; exact had) |>.trans HA0.out)
              have a0' : ∀ d os, (Go.Sort.grow (redrawn _ d) os).cell? ad = some (.int .i64 a) := a0
              have b0 := cell_regrown ((below_next HBEL.out (Below.refl _ _)).cell (p := { block := ad.block, off := ad.off + 1, spot := none }) had |>.trans HA1.out)
              refine wp_region_quiet_below (by kernel_rfl) (by kernel_rfl) ?_
              repeat (go_big_quiet_step (first | (go_at_call 103; exact quiet_t (fun W hW => HEXW.out W hW)) | (go_at_call 54; exact quiet_t (fun W hW => HCLW.out _ W hW)) | (go_at_call 45; exact quiet_t (fun W hW => HFB.out W hW))))
              refine wpQuiet_nil ?_
              rintro _ ⟨⟨dq, osq⟩, rfl⟩
              clear x0 x1 x2 x3 x4 x5 x6 x7 x8 x9 x10 x11 m0 m1 a0 a0' b0
              have hb1 := below_regrown w0 dq osq
              generalize Go.Sort.grow (redrawn w0 dq) osq = w1 at *
              go_wp2_with fail
              obtain ⟨x0, x1, x2, x3, x4, x5, x6, x7, x8, x9, x10, x11⟩ := (HB0.out.later hb1).tabG
              have m0 := cell_regrown ((HM0.out.later hb1).at_ (i := 0) (u := .int .i64 c) rfl)
              have m1 := cell_regrown ((HM0.out.later hb1).at_ (i := 1) (u := .slice (some ad) [a, b].length cs) rfl)
              have a0 := cell_regrown ((below_next HBEL.out hb1).cell (p := ad.add 0) (by rw [block_of_add]; exact had) |>.trans HA0.out)
              have a0' : ∀ d os, (Go.Sort.grow (redrawn _ d) os).cell? ad = some (.int .i64 a) := a0
              have b0 := cell_regrown ((below_next HBEL.out hb1).cell (p := { block := ad.block, off := ad.off + 1, spot := none }) had |>.trans HA1.out)
              refine wp_region_quiet_below (by kernel_rfl) (by kernel_rfl) ?_
              repeat (go_big_quiet_step ((go_at_call 45; exact quiet_t (fun W hW => HFAF.out W (below_next hb1 hW)))))
              refine wpQuiet_nil ?_
              rintro _ ⟨⟨dq, osq⟩, rfl⟩
              clear x0 x1 x2 x3 x4 x5 x6 x7 x8 x9 x10 x11 m0 m1 a0 a0' b0
              have hb2 := below_next hb1 (below_regrown w1 dq osq)
              generalize Go.Sort.grow (redrawn w1 dq) osq = w2 at *
              clear hb1
              rcases nilB_ways hua huan with ⟨han, rfl⟩ | ⟨han, ada, ca, rfl⟩
              · have HRC3 : Hid (R = (decide (T.classOf b = 0) || decide (T.classOf (lastF T.decomps f a) ≤ T.classOf b))) := Lib.hid (by rw [HRC2.out, decide_eq_true han]; rfl)
                clear hua huan han
                go_wp2_with fail
                obtain ⟨x0, x1, x2, x3, x4, x5, x6, x7, x8, x9, x10, x11⟩ := (HB0.out.later hb2).tabG
                have m0 := cell_regrown ((HM0.out.later hb2).at_ (i := 0) (u := .int .i64 c) rfl)
                have m1 := cell_regrown ((HM0.out.later hb2).at_ (i := 1) (u := .slice (some ad) [a, b].length cs) rfl)
                have a0 := cell_regrown ((below_next HBEL.out hb2).cell (p := ad.add 0) (by rw [block_of_add]; exact had) |>.trans HA0.out)
                have a0' : ∀ d os, (Go.Sort.grow (redrawn _ d) os).cell? ad = some (.int .i64 a) := a0
                have b0 := cell_regrown ((below_next HBEL.out hb2).cell (p := { block := ad.block, off := ad.off + 1, spot := none }) had |>.trans HA1.out)
                refine wp_region_quiet_below (by kernel_rfl) (by kernel_rfl) ?_
                repeat (go_big_quiet_step (fail))
                refine wpQuiet_nil ?_
                rintro _ ⟨⟨dq, osq⟩, rfl⟩
                clear x0 x1 x2 x3 x4 x5 x6 x7 x8 x9 x10 x11 m0 m1 a0 a0' b0
                have hb3 := below_next hb2 (below_regrown w2 dq osq)
                generalize Go.Sort.grow (redrawn w2 dq) osq = w3 at *
                clear hb2
                go_wp2_with fail
                obtain ⟨x0, x1, x2, x3, x4, x5, x6, x7, x8, x9, x10, x11⟩ := (HB0.out.later hb3).tabG
                have m0 := cell_regrown ((HM0.out.later hb3).at_ (i := 0) (u := .int .i64 c) rfl)
                have m1 := cell_regrown ((HM0.out.later hb3).at_ (i := 1) (u := .slice (some ad) [a, b].length cs) rfl)
                have a0 := cell_regrown ((below_next HBEL.out hb3).cell (p := ad.add 0) (by rw [block_of_add]; exact had) |>.trans HA0.out)
                have a0' : ∀ d os, (Go.Sort.grow (redrawn _ d) os).cell? ad = some (.int .i64 a) := a0
                have b0 := cell_regrown ((below_next HBEL.out hb3).cell (p := { block := ad.block, off := ad.off + 1, spot := none }) had |>.trans HA1.out)
                refine wp_region_quiet_below (by kernel_rfl) (by kernel_rfl) ?_
                repeat (go_big_quiet_step ((go_at_call 54; exact quiet_t (fun W hW => HCLW.out _ W (below_next hb3 hW)))))
                refine wpQuiet_nil ?_
                rintro _ ⟨⟨dq, osq⟩, rfl⟩
                clear x0 x1 x2 x3 x4 x5 x6 x7 x8 x9 x10 x11 m0 m1 a0 a0' b0
                have hb4 := below_next hb3 (below_regrown w3 dq osq)
                generalize Go.Sort.grow (redrawn w3 dq) osq = w4 at *
                clear hb3
                have HLAW := Lib.hid (fun W (h : Below w4.heap.size w4 W) => HLA.out a W (HTW.out W (below_next hb4 h)) HFA.out)
                by_cases hk0 : T.classOf b = 0
                · have q5 : (T.classOf b == 0) = true := by rw [beq_iff_eq]; exact hk0
                  have HK := Lib.hid hk0
                  clear hk0
                  go_wp2_with fail
                  obtain ⟨x0, x1, x2, x3, x4, x5, x6, x7, x8, x9, x10, x11⟩ := (HB0.out.later hb4).tabG
                  have m0 := cell_regrown ((HM0.out.later hb4).at_ (i := 0) (u := .int .i64 c) rfl)
                  have m1 := cell_regrown ((HM0.out.later hb4).at_ (i := 1) (u := .slice (some ad) [a, b].length cs) rfl)
                  have a0 := cell_regrown ((below_next HBEL.out hb4).cell (p := ad.add 0) (by rw [block_of_add]; exact had) |>.trans HA0.out)
                  have a0' : ∀ d os, (Go.Sort.grow (redrawn _ d) os).cell? ad = some (.int .i64 a) := a0
                  have b0 := cell_regrown ((below_next HBEL.out hb4).cell (p := { block := ad.block, off := ad.off + 1, spot := none }) had |>.trans HA1.out)
                  refine wp_region_quiet_below (by kernel_rfl) (by kernel_rfl) ?_
                  repeat (go_big_quiet_step (fail))
                  refine wpQuiet_nil ?_
                  rintro _ ⟨⟨dq, osq⟩, rfl⟩
                  clear x0 x1 x2 x3 x4 x5 x6 x7 x8 x9 x10 x11 m0 m1 a0 a0' b0
                  go_wp2_with fail
                  go_ret
                  rw [HRC3.out, decide_eq_true HK.out]
                  exact ⟨by simp, below_next HBEL.out (below_next hb4 (below_regrown _ dq osq))⟩
                · have q5 : (T.classOf b == 0) = false := by rw [beq_eq_false_iff_ne]; exact hk0
                  have HK := Lib.hid hk0
                  clear hk0
                  go_wp2_with fail
                  obtain ⟨x0, x1, x2, x3, x4, x5, x6, x7, x8, x9, x10, x11⟩ := (HB0.out.later hb4).tabG
                  have m0 := cell_regrown ((HM0.out.later hb4).at_ (i := 0) (u := .int .i64 c) rfl)
                  have m1 := cell_regrown ((HM0.out.later hb4).at_ (i := 1) (u := .slice (some ad) [a, b].length cs) rfl)
                  have a0 := cell_regrown ((below_next HBEL.out hb4).cell (p := ad.add 0) (by rw [block_of_add]; exact had) |>.trans HA0.out)
                  have a0' : ∀ d os, (Go.Sort.grow (redrawn _ d) os).cell? ad = some (.int .i64 a) := a0
                  have b0 := cell_regrown ((below_next HBEL.out hb4).cell (p := { block := ad.block, off := ad.off + 1, spot := none }) had |>.trans HA1.out)
                  refine wp_region_quiet_below (by kernel_rfl) (by kernel_rfl) ?_
                  repeat (go_big_quiet_step (first | (go_at_call 104; exact quiet_t (fun W hW => HLAW.out W hW)) | (go_at_call 54; exact quiet_t (fun W hW => HCLW.out _ W (below_next hb4 hW)))))
                  refine wpQuiet_nil ?_
                  rintro _ ⟨⟨dq, osq⟩, rfl⟩
                  clear x0 x1 x2 x3 x4 x5 x6 x7 x8 x9 x10 x11 m0 m1 a0 a0' b0
                  go_wp2_with fail
                  go_ret
                  rw [HRC3.out, decide_eq_false HK.out]
                  exact ⟨by simp, below_next HBEL.out (below_next hb4 (below_regrown _ dq osq))⟩
              · have HUA := Lib.hid (fun W (h : Below w0.heap.size w0 W) => hua.later h)
                have HCO := Lib.hid (fun W (h : Below w2.heap.size w2 W) => HIH.out a _ _ W (HTW.out W (below_next hb2 h)) (HUA.out W (below_next hb2 h)) rfl HFA.out)
                have HAN := Lib.hid han
                clear hua huan han
                cases hco : T.compF f a
                · rw [hco] at HCO
                  have HRC3 : Hid (R = false) := Lib.hid (by rw [HRC2.out, decide_eq_false HAN.out, hco]; rfl)
                  clear hco
                  go_wp2_with fail
                  obtain ⟨x0, x1, x2, x3, x4, x5, x6, x7, x8, x9, x10, x11⟩ := (HB0.out.later hb2).tabG
                  have m0 := cell_regrown ((HM0.out.later hb2).at_ (i := 0) (u := .int .i64 c) rfl)
                  have m1 := cell_regrown ((HM0.out.later hb2).at_ (i := 1) (u := .slice (some ad) [a, b].length cs) rfl)
                  have a0 := cell_regrown ((below_next HBEL.out hb2).cell (p := ad.add 0) (by rw [block_of_add]; exact had) |>.trans HA0.out)
                  have a0' : ∀ d os, (Go.Sort.grow (redrawn _ d) os).cell? ad = some (.int .i64 a) := a0
                  have b0 := cell_regrown ((below_next HBEL.out hb2).cell (p := { block := ad.block, off := ad.off + 1, spot := none }) had |>.trans HA1.out)
                  refine wp_region_quiet_below (by kernel_rfl) (by kernel_rfl) ?_
                  repeat (go_big_quiet_step ((go_at_call 92; exact quiet_t (fun W hW => HCO.out W hW))))
                  refine wpQuiet_nil ?_
                  rintro _ ⟨⟨dq, osq⟩, rfl⟩
                  clear x0 x1 x2 x3 x4 x5 x6 x7 x8 x9 x10 x11 m0 m1 a0 a0' b0
                  go_wp2_with fail
                  go_ret
                  rw [HRC3.out]
                  exact ⟨rfl, below_next HBEL.out (below_next hb2 (below_regrown _ dq osq))⟩
                · rw [hco] at HCO
                  have HRC3 : Hid (R = (decide (T.classOf b = 0) || decide (T.classOf (lastF T.decomps f a) ≤ T.classOf b))) := Lib.hid (by rw [HRC2.out, hco, Bool.or_true, Bool.true_and])
                  clear hco
                  go_wp2_with fail
                  obtain ⟨x0, x1, x2, x3, x4, x5, x6, x7, x8, x9, x10, x11⟩ := (HB0.out.later hb2).tabG
                  have m0 := cell_regrown ((HM0.out.later hb2).at_ (i := 0) (u := .int .i64 c) rfl)
                  have m1 := cell_regrown ((HM0.out.later hb2).at_ (i := 1) (u := .slice (some ad) [a, b].length cs) rfl)
                  have a0 := cell_regrown ((below_next HBEL.out hb2).cell (p := ad.add 0) (by rw [block_of_add]; exact had) |>.trans HA0.out)
                  have a0' : ∀ d os, (Go.Sort.grow (redrawn _ d) os).cell? ad = some (.int .i64 a) := a0
                  have b0 := cell_regrown ((below_next HBEL.out hb2).cell (p := { block := ad.block, off := ad.off + 1, spot := none }) had |>.trans HA1.out)
                  refine wp_region_quiet_below (by kernel_rfl) (by kernel_rfl) ?_
                  repeat (go_big_quiet_step ((go_at_call 92; exact quiet_t (fun W hW => HCO.out W hW))))
                  refine wpQuiet_nil ?_
                  rintro _ ⟨⟨dq, osq⟩, rfl⟩
                  clear x0 x1 x2 x3 x4 x5 x6 x7 x8 x9 x10 x11 m0 m1 a0 a0' b0
                  have hb3 := below_next hb2 (below_regrown w2 dq osq)
                  generalize Go.Sort.grow (redrawn w2 dq) osq = w3 at *
                  clear hb2
                  go_wp2_with fail
                  obtain ⟨x0, x1, x2, x3, x4, x5, x6, x7, x8, x9, x10, x11⟩ := (HB0.out.later hb3).tabG
                  have m0 := cell_regrown ((HM0.out.later hb3).at_ (i := 0) (u := .int .i64 c) rfl)
                  have m1 := cell_regrown ((HM0.out.later hb3).at_ (i := 1) (u := .slice (some ad) [a, b].length cs) rfl)
                  have a0 := cell_regrown ((below_next HBEL.out hb3).cell (p := ad.add 0) (by rw [block_of_add]; exact had) |>.trans HA0.out)
                  have a0' : ∀ d os, (Go.Sort.grow (redrawn _ d) os).cell? ad = some (.int .i64 a) := a0
                  have b0 := cell_regrown ((below_next HBEL.out hb3).cell (p := { block := ad.block, off := ad.off + 1, spot := none }) had |>.trans HA1.out)
                  refine wp_region_quiet_below (by kernel_rfl) (by kernel_rfl) ?_
                  repeat (go_big_quiet_step ((go_at_call 54; exact quiet_t (fun W hW => HCLW.out _ W (below_next hb3 hW)))))
                  refine wpQuiet_nil ?_
                  rintro _ ⟨⟨dq, osq⟩, rfl⟩
                  clear x0 x1 x2 x3 x4 x5 x6 x7 x8 x9 x10 x11 m0 m1 a0 a0' b0
                  have hb4 := below_next hb3 (below_regrown w3 dq osq)
                  generalize Go.Sort.grow (redrawn w3 dq) osq = w4 at *
                  clear hb3
                  have HLAW := Lib.hid (fun W (h : Below w4.heap.size w4 W) => HLA.out a W (HTW.out W (below_next hb4 h)) HFA.out)
                  by_cases hk0 : T.classOf b = 0
                  · have q5 : (T.classOf b == 0) = true := by rw [beq_iff_eq]; exact hk0
                    have HK := Lib.hid hk0
                    clear hk0
                    go_wp2_with fail
                    obtain ⟨x0, x1, x2, x3, x4, x5, x6, x7, x8, x9, x10, x11⟩ := (HB0.out.later hb4).tabG
                    have m0 := cell_regrown ((HM0.out.later hb4).at_ (i := 0) (u := .int .i64 c) rfl)
                    have m1 := cell_regrown ((HM0.out.later hb4).at_ (i := 1) (u := .slice (some ad) [a, b].length cs) rfl)
                    have a0 := cell_regrown ((below_next HBEL.out hb4).cell (p := ad.add 0) (by rw [block_of_add]; exact had) |>.trans HA0.out)
                    have a0' : ∀ d os, (Go.Sort.grow (redrawn _ d) os).cell? ad = some (.int .i64 a) := a0
                    have b0 := cell_regrown ((below_next HBEL.out hb4).cell (p := { block := ad.block, off := ad.off + 1, spot := none }) had |>.trans HA1.out)
                    refine wp_region_quiet_below (by kernel_rfl) (by kernel_rfl) ?_
                    repeat (go_big_quiet_step (fail))
                    refine wpQuiet_nil ?_
                    rintro _ ⟨⟨dq, osq⟩, rfl⟩
                    clear x0 x1 x2 x3 x4 x5 x6 x7 x8 x9 x10 x11 m0 m1 a0 a0' b0
                    go_wp2_with fail
                    go_ret
                    rw [HRC3.out, decide_eq_true HK.out]
                    exact ⟨by simp, below_next HBEL.out (below_next hb4 (below_regrown _ dq osq))⟩
                  · have q5 : (T.classOf b == 0) = false := by rw [beq_eq_false_iff_ne]; exact hk0
                    have HK := Lib.hid hk0
                    clear hk0
                    go_wp2_with fail
                    obtain ⟨x0, x1, x2, x3, x4, x5, x6, x7, x8, x9, x10, x11⟩ := (HB0.out.later hb4).tabG
                    have m0 := cell_regrown ((HM0.out.later hb4).at_ (i := 0) (u := .int .i64 c) rfl)
                    have m1 := cell_regrown ((HM0.out.later hb4).at_ (i := 1) (u := .slice (some ad) [a, b].length cs) rfl)
                    have a0 := cell_regrown ((below_next HBEL.out hb4).cell (p := ad.add 0) (by rw [block_of_add]; exact had) |>.trans HA0.out)
                    have a0' : ∀ d os, (Go.Sort.grow (redrawn _ d) os).cell? ad = some (.int .i64 a) := a0
                    have b0 := cell_regrown ((below_next HBEL.out hb4).cell (p := { block := ad.block, off := ad.off + 1, spot := none }) had |>.trans HA1.out)
                    refine wp_region_quiet_below (by kernel_rfl) (by kernel_rfl) ?_
                    repeat (go_big_quiet_step (first | (go_at_call 104; exact quiet_t (fun W hW => HLAW.out W hW)) | (go_at_call 54; exact quiet_t (fun W hW => HCLW.out _ W (below_next hb4 hW)))))
                    refine wpQuiet_nil ?_
                    rintro _ ⟨⟨dq, osq⟩, rfl⟩
                    clear x0 x1 x2 x3 x4 x5 x6 x7 x8 x9 x10 x11 m0 m1 a0 a0' b0
                    go_wp2_with fail
                    go_ret
                    rw [HRC3.out, decide_eq_false HK.out]
                    exact ⟨by simp, below_next HBEL.out (below_next hb4 (below_regrown _ dq osq))⟩
            · have HBN := Lib.hid hbn
              clear hub hubn hbn
              obtain ⟨x0, x1, x2, x3, x4, x5, x6, x7, x8, x9, x10, x11⟩ := (HB0.out.later (Below.refl _ _)).tabG
              have m0 := cell_regrown ((HM0.out.later (Below.refl _ _)).at_ (i := 0) (u := .int .i64 c) rfl)
              have m1 := cell_regrown ((HM0.out.later (Below.refl _ _)).at_ (i := 1) (u := .slice (some ad) [a, b].length cs) rfl)
              have a0 := cell_regrown ((below_next HBEL.out (Below.refl _ _)).cell (p := ad.add 0) (by rw [block_of_add]; exact had) |>.trans HA0.out)
              have a0' : ∀ d os, (Go.Sort.grow (redrawn _ d) os).cell? ad = some (.int .i64 a) := a0
              have b0 := cell_regrown ((below_next HBEL.out (Below.refl _ _)).cell (p := { block := ad.block, off := ad.off + 1, spot := none }) had |>.trans HA1.out)
              refine wp_region_quiet_below (by kernel_rfl) (by kernel_rfl) ?_
              repeat (go_big_quiet_step (first | (go_at_call 103; exact quiet_t (fun W hW => HEXW.out W hW)) | (go_at_call 54; exact quiet_t (fun W hW => HCLW.out _ W hW)) | (go_at_call 45; exact quiet_t (fun W hW => HFB.out W hW))))
              refine wpQuiet_nil ?_
              rintro _ ⟨⟨dq, osq⟩, rfl⟩
              clear x0 x1 x2 x3 x4 x5 x6 x7 x8 x9 x10 x11 m0 m1 a0 a0' b0
              go_wp2_with fail
              go_ret
              rw [HRC.out, decide_eq_false HBN.out]
              exact ⟨by simp, below_next HBEL.out (below_regrown _ dq osq)⟩
          · have q2 : (T.classOf a != 0) = true := by rw [bne_iff_ne]; exact ha0
            have HAC := Lib.hid ha0
            clear ha0
            obtain ⟨x0, x1, x2, x3, x4, x5, x6, x7, x8, x9, x10, x11⟩ := (HB0.out.later (Below.refl _ _)).tabG
            have m0 := cell_regrown ((HM0.out.later (Below.refl _ _)).at_ (i := 0) (u := .int .i64 c) rfl)
            have m1 := cell_regrown ((HM0.out.later (Below.refl _ _)).at_ (i := 1) (u := .slice (some ad) [a, b].length cs) rfl)
            have a0 := cell_regrown ((below_next HBEL.out (Below.refl _ _)).cell (p := ad.add 0) (by rw [block_of_add]; exact had) |>.trans HA0.out)
            have a0' : ∀ d os, (Go.Sort.grow (redrawn _ d) os).cell? ad = some (.int .i64 a) := a0
            have b0 := cell_regrown ((below_next HBEL.out (Below.refl _ _)).cell (p := { block := ad.block, off := ad.off + 1, spot := none }) had |>.trans HA1.out)
            refine wp_region_quiet_below (by kernel_rfl) (by kernel_rfl) ?_
            repeat (go_big_quiet_step (first | (go_at_call 103; exact quiet_t (fun W hW => HEXW.out W hW)) | (go_at_call 54; exact quiet_t (fun W hW => HCLW.out _ W hW)) | (go_at_call 45; exact quiet_t (fun W hW => HFB.out W hW))))
            refine wpQuiet_nil ?_
            rintro _ ⟨⟨dq, osq⟩, rfl⟩
            clear x0 x1 x2 x3 x4 x5 x6 x7 x8 x9 x10 x11 m0 m1 a0 a0' b0
            go_wp2_with fail
            go_ret
            rw [HRC.out, decide_eq_false HAC.out]
            exact ⟨by simp, below_next HBEL.out (below_regrown _ dq osq)⟩
        · have q1 : (T.classOf c != 0) = true := by rw [bne_iff_ne]; exact hc0
          have HC0 := Lib.hid hc0
          clear hc0
          obtain ⟨x0, x1, x2, x3, x4, x5, x6, x7, x8, x9, x10, x11⟩ := (HB0.out.later (Below.refl _ _)).tabG
          have m0 := cell_regrown ((HM0.out.later (Below.refl _ _)).at_ (i := 0) (u := .int .i64 c) rfl)
          have m1 := cell_regrown ((HM0.out.later (Below.refl _ _)).at_ (i := 1) (u := .slice (some ad) [a, b].length cs) rfl)
          have a0 := cell_regrown ((below_next HBEL.out (Below.refl _ _)).cell (p := ad.add 0) (by rw [block_of_add]; exact had) |>.trans HA0.out)
          have a0' : ∀ d os, (Go.Sort.grow (redrawn _ d) os).cell? ad = some (.int .i64 a) := a0
          have b0 := cell_regrown ((below_next HBEL.out (Below.refl _ _)).cell (p := { block := ad.block, off := ad.off + 1, spot := none }) had |>.trans HA1.out)
          refine wp_region_quiet_below (by kernel_rfl) (by kernel_rfl) ?_
          repeat (go_big_quiet_step (first | (go_at_call 103; exact quiet_t (fun W hW => HEXW.out W hW)) | (go_at_call 54; exact quiet_t (fun W hW => HCLW.out _ W hW)) | (go_at_call 45; exact quiet_t (fun W hW => HFB.out W hW))))
          refine wpQuiet_nil ?_
          rintro _ ⟨⟨dq, osq⟩, rfl⟩
          clear x0 x1 x2 x3 x4 x5 x6 x7 x8 x9 x10 x11 m0 m1 a0 a0' b0
          go_wp2_with fail
          go_ret
          rw [HRC.out, decide_eq_false HC0.out]
          exact ⟨by simp, below_next HBEL.out (below_regrown _ dq osq)⟩
      · have HE := Lib.hid hex
        have HEXW := Lib.hid (fun W (h : Below w0.heap.size w0 W) => HEXW.out c W h)
        rw [hex] at HEXW
        clear hex
        obtain ⟨x0, x1, x2, x3, x4, x5, x6, x7, x8, x9, x10, x11⟩ := (HB0.out.later (Below.refl _ _)).tabG
        have m0 := cell_regrown ((HM0.out.later (Below.refl _ _)).at_ (i := 0) (u := .int .i64 c) rfl)
        have m1 := cell_regrown ((HM0.out.later (Below.refl _ _)).at_ (i := 1) (u := .slice (some ad) [a, b].length cs) rfl)
        have a0 := cell_regrown ((below_next HBEL.out (Below.refl _ _)).cell (p := ad.add 0) (by rw [block_of_add]; exact had) |>.trans HA0.out)
        have a0' : ∀ d os, (Go.Sort.grow (redrawn _ d) os).cell? ad = some (.int .i64 a) := a0
        have b0 := cell_regrown ((below_next HBEL.out (Below.refl _ _)).cell (p := { block := ad.block, off := ad.off + 1, spot := none }) had |>.trans HA1.out)
        refine wp_region_quiet_below (by kernel_rfl) (by kernel_rfl) ?_
        repeat (go_big_quiet_step (first | (go_at_call 103; exact quiet_t (fun W hW => HEXW.out W hW)) | (go_at_call 54; exact quiet_t (fun W hW => HCLW.out _ W hW)) | (go_at_call 45; exact quiet_t (fun W hW => HFB.out W hW))))
        refine wpQuiet_nil ?_
        rintro _ ⟨⟨dq, osq⟩, rfl⟩
        clear x0 x1 x2 x3 x4 x5 x6 x7 x8 x9 x10 x11 m0 m1 a0 a0' b0
        go_wp2_with fail
        go_ret
        rw [HRC.out, HE.out]
        exact ⟨by simp, below_next HBEL.out (below_regrown _ dq osq)⟩
    · have hcm := comp_len (T := T) (f := f + 1) HFD.out hl
      rw [hcm]
      have p1 : ((tg.length : Int) != 2) = true := by rw [bne_iff_ne]; omega
      clear hl hcm
      go_enter Tryz.func92, Tryz.ntmps92
      go_wp2_with fail
      generalize World.alloc (World.alloc w _) _ = w0 at *
      obtain ⟨x0, x1, x2, x3, x4, x5, x6, x7, x8, x9, x10, x11⟩ := HB0.out.tabG
      have m0 := cell_regrown (HM0.out.at_ (i := 0) (u := .int .i64 c) rfl)
      have m1 := cell_regrown (HM0.out.at_ (i := 1) (u := .slice As tg.length cs) rfl)
      refine wp_region_quiet_below (by kernel_rfl) (by kernel_rfl) ?_
      repeat (go_big_quiet_step (fail))
      refine wpQuiet_nil ?_
      rintro _ ⟨⟨dq, osq⟩, rfl⟩
      clear x0 x1 x2 x3 x4 x5 x6 x7 x8 x9 x10 x11 m0 m1
      go_wp2_with fail
      go_ret
      exact ⟨rfl, below_next HBEL.out (below_regrown _ dq osq)⟩
end Go.Proofs.YtneinkpfhkojgaaGreatDoor
/-
  The walk through keep.prototypes.
-/
namespace Go.Proofs.YtneinkpfhkojgaaGreatDoor
open Go.RowKit ND

/-- What keep.prototypes leaves. -/
def RetPro (w : World) (g b : Nat) (v : Value) (n : Nat) (t : Tv) (T : Tab) (e : Ending) (w' : World) : Prop :=
  ∃ v11 D, e = .returned (.tuple #[]) ∧ Blk w' b 26 #[t.c0, t.c1, t.c2, t.c3, t.c4, t.c5, t.c6, t.c7, t.c8, t.c9, t.c10, v11] ∧ TabR (veil [g, b] w') w'.heap.size { t with c11 := v11 } { T with prototypes := D } ∧
    D.Sublist protoL ∧ (∀ m ∈ D, T.ignB m.1 = false ∧ T.ignB (m.2.getLastD 0) = false) ∧ Src w' g v n ∧ onlyIn [g, b] w w'

theorem proto_lit (w : World) (g b : Nat) (hgb : g < b) (hb : b < w.heap.size) : Mapps (veil [g, b] ((((((w.alloc (.cells #[.int .i64 111] 3)).alloc (.cells #[.int .i64 114, .int .i64 110] 3)).alloc (.cells #[.int .i64 97] 3)).alloc (.cells #[.int .i64 97] 3)).alloc (.cells #[.int .i64 111, .int .i64 803] 3)).alloc (.cells #[.int .i64 48, .slice (some ⟨w.heap.size, 0, none⟩) 1 1, .int .i64 109, .slice (some ⟨w.heap.size + 1, 0, none⟩) 2 2, .int .i64 945, .slice (some ⟨w.heap.size + 1 + 1, 0, none⟩) 1 1, .int .i64 1072, .slice (some ⟨w.heap.size + 1 + 1 + 1, 0, none⟩) 1 1, .int .i64 1632, .slice (some ⟨w.heap.size + 1 + 1 + 1 + 1, 0, none⟩) 2 2] 49))) ((((((w.alloc (.cells #[.int .i64 111] 3)).alloc (.cells #[.int .i64 114, .int .i64 110] 3)).alloc (.cells #[.int .i64 97] 3)).alloc (.cells #[.int .i64 97] 3)).alloc (.cells #[.int .i64 111, .int .i64 803] 3)).alloc (.cells #[.int .i64 48, .slice (some ⟨w.heap.size, 0, none⟩) 1 1, .int .i64 109, .slice (some ⟨w.heap.size + 1, 0, none⟩) 2 2, .int .i64 945, .slice (some ⟨w.heap.size + 1 + 1, 0, none⟩) 1 1, .int .i64 1072, .slice (some ⟨w.heap.size + 1 + 1 + 1, 0, none⟩) 1 1, .int .i64 1632, .slice (some ⟨w.heap.size + 1 + 1 + 1 + 1, 0, none⟩) 2 2] 49)).heap.size (.slice (some ⟨w.heap.size + 1 + 1 + 1 + 1 + 1, 0, none⟩) 5 5) protoL := by
  have n (k : Nat) (hk : w.heap.size ≤ k) : k ∉ [g, b] := by simp; omega
  have h0 : Blk ((((((w.alloc (.cells #[.int .i64 111] 3)).alloc (.cells #[.int .i64 114, .int .i64 110] 3)).alloc (.cells #[.int .i64 97] 3)).alloc (.cells #[.int .i64 97] 3)).alloc (.cells #[.int .i64 111, .int .i64 803] 3)).alloc (.cells #[.int .i64 48, .slice (some ⟨w.heap.size, 0, none⟩) 1 1, .int .i64 109, .slice (some ⟨w.heap.size + 1, 0, none⟩) 2 2, .int .i64 945, .slice (some ⟨w.heap.size + 1 + 1, 0, none⟩) 1 1, .int .i64 1072, .slice (some ⟨w.heap.size + 1 + 1 + 1, 0, none⟩) 1 1, .int .i64 1632, .slice (some ⟨w.heap.size + 1 + 1 + 1 + 1, 0, none⟩) 2 2] 49)) (w.heap.size) 3 ([111].map (Value.int .i64)).toArray := by have h := ((((((Blk.new w 3 #[.int .i64 111]).alloc (.cells #[.int .i64 114, .int .i64 110] 3)).alloc (.cells #[.int .i64 97] 3)).alloc (.cells #[.int .i64 97] 3)).alloc (.cells #[.int .i64 111, .int .i64 803] 3)).alloc (.cells #[.int .i64 48, .slice (some ⟨w.heap.size, 0, none⟩) 1 1, .int .i64 109, .slice (some ⟨w.heap.size + 1, 0, none⟩) 2 2, .int .i64 945, .slice (some ⟨w.heap.size + 1 + 1, 0, none⟩) 1 1, .int .i64 1072, .slice (some ⟨w.heap.size + 1 + 1 + 1, 0, none⟩) 1 1, .int .i64 1632, .slice (some ⟨w.heap.size + 1 + 1 + 1 + 1, 0, none⟩) 2 2] 49)); simpa using h
  have h1 : Blk ((((((w.alloc (.cells #[.int .i64 111] 3)).alloc (.cells #[.int .i64 114, .int .i64 110] 3)).alloc (.cells #[.int .i64 97] 3)).alloc (.cells #[.int .i64 97] 3)).alloc (.cells #[.int .i64 111, .int .i64 803] 3)).alloc (.cells #[.int .i64 48, .slice (some ⟨w.heap.size, 0, none⟩) 1 1, .int .i64 109, .slice (some ⟨w.heap.size + 1, 0, none⟩) 2 2, .int .i64 945, .slice (some ⟨w.heap.size + 1 + 1, 0, none⟩) 1 1, .int .i64 1072, .slice (some ⟨w.heap.size + 1 + 1 + 1, 0, none⟩) 1 1, .int .i64 1632, .slice (some ⟨w.heap.size + 1 + 1 + 1 + 1, 0, none⟩) 2 2] 49)) (w.heap.size + 1) 3 ([114, 110].map (Value.int .i64)).toArray := by have h := (((((Blk.new (w.alloc (.cells #[.int .i64 111] 3)) 3 #[.int .i64 114, .int .i64 110]).alloc (.cells #[.int .i64 97] 3)).alloc (.cells #[.int .i64 97] 3)).alloc (.cells #[.int .i64 111, .int .i64 803] 3)).alloc (.cells #[.int .i64 48, .slice (some ⟨w.heap.size, 0, none⟩) 1 1, .int .i64 109, .slice (some ⟨w.heap.size + 1, 0, none⟩) 2 2, .int .i64 945, .slice (some ⟨w.heap.size + 1 + 1, 0, none⟩) 1 1, .int .i64 1072, .slice (some ⟨w.heap.size + 1 + 1 + 1, 0, none⟩) 1 1, .int .i64 1632, .slice (some ⟨w.heap.size + 1 + 1 + 1 + 1, 0, none⟩) 2 2] 49)); simpa using h
  have h2 : Blk ((((((w.alloc (.cells #[.int .i64 111] 3)).alloc (.cells #[.int .i64 114, .int .i64 110] 3)).alloc (.cells #[.int .i64 97] 3)).alloc (.cells #[.int .i64 97] 3)).alloc (.cells #[.int .i64 111, .int .i64 803] 3)).alloc (.cells #[.int .i64 48, .slice (some ⟨w.heap.size, 0, none⟩) 1 1, .int .i64 109, .slice (some ⟨w.heap.size + 1, 0, none⟩) 2 2, .int .i64 945, .slice (some ⟨w.heap.size + 1 + 1, 0, none⟩) 1 1, .int .i64 1072, .slice (some ⟨w.heap.size + 1 + 1 + 1, 0, none⟩) 1 1, .int .i64 1632, .slice (some ⟨w.heap.size + 1 + 1 + 1 + 1, 0, none⟩) 2 2] 49)) (w.heap.size + 1 + 1) 3 ([97].map (Value.int .i64)).toArray := by have h := ((((Blk.new ((w.alloc (.cells #[.int .i64 111] 3)).alloc (.cells #[.int .i64 114, .int .i64 110] 3)) 3 #[.int .i64 97]).alloc (.cells #[.int .i64 97] 3)).alloc (.cells #[.int .i64 111, .int .i64 803] 3)).alloc (.cells #[.int .i64 48, .slice (some ⟨w.heap.size, 0, none⟩) 1 1, .int .i64 109, .slice (some ⟨w.heap.size + 1, 0, none⟩) 2 2, .int .i64 945, .slice (some ⟨w.heap.size + 1 + 1, 0, none⟩) 1 1, .int .i64 1072, .slice (some ⟨w.heap.size + 1 + 1 + 1, 0, none⟩) 1 1, .int .i64 1632, .slice (some ⟨w.heap.size + 1 + 1 + 1 + 1, 0, none⟩) 2 2] 49)); simpa using h
  have h3 : Blk ((((((w.alloc (.cells #[.int .i64 111] 3)).alloc (.cells #[.int .i64 114, .int .i64 110] 3)).alloc (.cells #[.int .i64 97] 3)).alloc (.cells #[.int .i64 97] 3)).alloc (.cells #[.int .i64 111, .int .i64 803] 3)).alloc (.cells #[.int .i64 48, .slice (some ⟨w.heap.size, 0, none⟩) 1 1, .int .i64 109, .slice (some ⟨w.heap.size + 1, 0, none⟩) 2 2, .int .i64 945, .slice (some ⟨w.heap.size + 1 + 1, 0, none⟩) 1 1, .int .i64 1072, .slice (some ⟨w.heap.size + 1 + 1 + 1, 0, none⟩) 1 1, .int .i64 1632, .slice (some ⟨w.heap.size + 1 + 1 + 1 + 1, 0, none⟩) 2 2] 49)) (w.heap.size + 1 + 1 + 1) 3 ([97].map (Value.int .i64)).toArray := by have h := (((Blk.new (((w.alloc (.cells #[.int .i64 111] 3)).alloc (.cells #[.int .i64 114, .int .i64 110] 3)).alloc (.cells #[.int .i64 97] 3)) 3 #[.int .i64 97]).alloc (.cells #[.int .i64 111, .int .i64 803] 3)).alloc (.cells #[.int .i64 48, .slice (some ⟨w.heap.size, 0, none⟩) 1 1, .int .i64 109, .slice (some ⟨w.heap.size + 1, 0, none⟩) 2 2, .int .i64 945, .slice (some ⟨w.heap.size + 1 + 1, 0, none⟩) 1 1, .int .i64 1072, .slice (some ⟨w.heap.size + 1 + 1 + 1, 0, none⟩) 1 1, .int .i64 1632, .slice (some ⟨w.heap.size + 1 + 1 + 1 + 1, 0, none⟩) 2 2] 49)); simpa using h
  have h4 : Blk ((((((w.alloc (.cells #[.int .i64 111] 3)).alloc (.cells #[.int .i64 114, .int .i64 110] 3)).alloc (.cells #[.int .i64 97] 3)).alloc (.cells #[.int .i64 97] 3)).alloc (.cells #[.int .i64 111, .int .i64 803] 3)).alloc (.cells #[.int .i64 48, .slice (some ⟨w.heap.size, 0, none⟩) 1 1, .int .i64 109, .slice (some ⟨w.heap.size + 1, 0, none⟩) 2 2, .int .i64 945, .slice (some ⟨w.heap.size + 1 + 1, 0, none⟩) 1 1, .int .i64 1072, .slice (some ⟨w.heap.size + 1 + 1 + 1, 0, none⟩) 1 1, .int .i64 1632, .slice (some ⟨w.heap.size + 1 + 1 + 1 + 1, 0, none⟩) 2 2] 49)) (w.heap.size + 1 + 1 + 1 + 1) 3 ([111, 803].map (Value.int .i64)).toArray := by have h := ((Blk.new ((((w.alloc (.cells #[.int .i64 111] 3)).alloc (.cells #[.int .i64 114, .int .i64 110] 3)).alloc (.cells #[.int .i64 97] 3)).alloc (.cells #[.int .i64 97] 3)) 3 #[.int .i64 111, .int .i64 803]).alloc (.cells #[.int .i64 48, .slice (some ⟨w.heap.size, 0, none⟩) 1 1, .int .i64 109, .slice (some ⟨w.heap.size + 1, 0, none⟩) 2 2, .int .i64 945, .slice (some ⟨w.heap.size + 1 + 1, 0, none⟩) 1 1, .int .i64 1072, .slice (some ⟨w.heap.size + 1 + 1 + 1, 0, none⟩) 1 1, .int .i64 1632, .slice (some ⟨w.heap.size + 1 + 1 + 1 + 1, 0, none⟩) 2 2] 49)); simpa using h
  have h5 : Blk ((((((w.alloc (.cells #[.int .i64 111] 3)).alloc (.cells #[.int .i64 114, .int .i64 110] 3)).alloc (.cells #[.int .i64 97] 3)).alloc (.cells #[.int .i64 97] 3)).alloc (.cells #[.int .i64 111, .int .i64 803] 3)).alloc (.cells #[.int .i64 48, .slice (some ⟨w.heap.size, 0, none⟩) 1 1, .int .i64 109, .slice (some ⟨w.heap.size + 1, 0, none⟩) 2 2, .int .i64 945, .slice (some ⟨w.heap.size + 1 + 1, 0, none⟩) 1 1, .int .i64 1072, .slice (some ⟨w.heap.size + 1 + 1 + 1, 0, none⟩) 1 1, .int .i64 1632, .slice (some ⟨w.heap.size + 1 + 1 + 1 + 1, 0, none⟩) 2 2] 49)) (w.heap.size + 1 + 1 + 1 + 1 + 1) 49 (mpCells [((48 : Int), .slice (some ⟨w.heap.size, 0, none⟩) 1 1), ((109 : Int), .slice (some ⟨w.heap.size + 1, 0, none⟩) 2 2), ((945 : Int), .slice (some ⟨w.heap.size + 1 + 1, 0, none⟩) 1 1), ((1072 : Int), .slice (some ⟨w.heap.size + 1 + 1 + 1, 0, none⟩) 1 1), ((1632 : Int), .slice (some ⟨w.heap.size + 1 + 1 + 1 + 1, 0, none⟩) 2 2)]).toArray := by have h := Blk.new (((((w.alloc (.cells #[.int .i64 111] 3)).alloc (.cells #[.int .i64 114, .int .i64 110] 3)).alloc (.cells #[.int .i64 97] 3)).alloc (.cells #[.int .i64 97] 3)).alloc (.cells #[.int .i64 111, .int .i64 803] 3)) 49 #[.int .i64 48, .slice (some ⟨w.heap.size, 0, none⟩) 1 1, .int .i64 109, .slice (some ⟨w.heap.size + 1, 0, none⟩) 2 2, .int .i64 945, .slice (some ⟨w.heap.size + 1 + 1, 0, none⟩) 1 1, .int .i64 1072, .slice (some ⟨w.heap.size + 1 + 1 + 1, 0, none⟩) 1 1, .int .i64 1632, .slice (some ⟨w.heap.size + 1 + 1 + 1 + 1, 0, none⟩) 2 2]; simpa [mpCells] using h
  refine Mapps.of_blk (D := protoL) h5 (n _ (by omega)) (by simp) rfl fun i p d hp hd => ?_
  match i, hp, hd with
  | 0, hp, hd => cases hp; cases hd; exact Ints.of_blk h0 (n _ (by omega)) (by simp)
  | 1, hp, hd => cases hp; cases hd; exact Ints.of_blk h1 (n _ (by omega)) (by simp)
  | 2, hp, hd => cases hp; cases hd; exact Ints.of_blk h2 (n _ (by omega)) (by simp)
  | 3, hp, hd => cases hp; cases hd; exact Ints.of_blk h3 (n _ (by omega)) (by simp)
  | 4, hp, hd => cases hp; cases hd; exact Ints.of_blk h4 (n _ (by omega)) (by simp)
  | _ + 5, hp, hd => simp at hp

theorem add_zero_off (k i : Nat) : Addr.add ⟨k, 0, none⟩ i = ⟨k, i, none⟩ := by cases i <;> simp [Addr.add]
theorem proto_len : ∀ m ∈ protoL, 1 ≤ m.2.length ∧ m.2.length ≤ 2 := by decide

set_option maxRecDepth 100000 in
set_option maxHeartbeats 4000000 in
theorem prototypes_any (w : World) (g b : Nat) (v : Value) (xs : List Int) (t : Tv) (T : Tab) (hv : Ints w g .i64 v xs) (hs : Src w g v xs.length)
    (hb : Blk w b 26 #[t.c0, t.c1, t.c2, t.c3, t.c4, t.c5, t.c6, t.c7, t.c8, t.c9, t.c10, .slice none 0 0]) (hgb : g < b)
    (ht : TabR (veil [g, b] w) w.heap.size { t with c11 := .slice none 0 0 } { T with prototypes := [] }) :
    Calls Tryz.prog 19 #[.pointer (some ⟨g, 0, none⟩), .pointer (some ⟨b, 0, none⟩)] w (RetPro w g b v xs.length t T) := by
  have hbw : b < w.heap.size := hb.lt
  have HT := Lib.hid ht
  have HV := Lib.hid hv
  have HS := Lib.hid hs
  have HB := Lib.hid hb
  clear hv hs hb ht
  have HNX : Hid (∀ (W : World) (m : Int), onlyIn [g, b] w W → Src W g v xs.length → 0 < m → m ≤ 1000000 → Calls Tryz.prog 12 #[.pointer (some ⟨g, 0, none⟩), .int .i64 m] W (RetNext W g v xs.length m)) :=
    Lib.hid fun W m h1 h2 h3 h4 => next_src W g v xs m (HV.out.below (h1.below (by intro x hx; simp at hx; omega) (by omega))) h2 h3 h4
  go_enter Tryz.func19, Tryz.ntmps19
  go_wp2_with fail
  have hbel : Below w.heap.size w ((((((w.alloc (.cells #[.int .i64 111] 3)).alloc (.cells #[.int .i64 114, .int .i64 110] 3)).alloc (.cells #[.int .i64 97] 3)).alloc (.cells #[.int .i64 97] 3)).alloc (.cells #[.int .i64 111, .int .i64 803] 3)).alloc (.cells #[.int .i64 48, .slice (some ⟨w.heap.size, 0, none⟩) 1 1, .int .i64 109, .slice (some ⟨w.heap.size + 1, 0, none⟩) 2 2, .int .i64 945, .slice (some ⟨w.heap.size + 1 + 1, 0, none⟩) 1 1, .int .i64 1072, .slice (some ⟨w.heap.size + 1 + 1 + 1, 0, none⟩) 1 1, .int .i64 1632, .slice (some ⟨w.heap.size + 1 + 1 + 1 + 1, 0, none⟩) 2 2] 49)) := (((((((Below.refl _ _).alloc (Nat.le_refl _) _).alloc (by simp; try omega) _).alloc (by simp; try omega) _).alloc (by simp; try omega) _).alloc (by simp; try omega) _).alloc (by simp; try omega) _)
  have hI : PSt w g b xs.length v t T (.slice (some ⟨w.heap.size + 1 + 1 + 1 + 1 + 1, 0, none⟩) 5 5) (.slice none 0 0) [] ((((((w.alloc (.cells #[.int .i64 111] 3)).alloc (.cells #[.int .i64 114, .int .i64 110] 3)).alloc (.cells #[.int .i64 97] 3)).alloc (.cells #[.int .i64 97] 3)).alloc (.cells #[.int .i64 111, .int .i64 803] 3)).alloc (.cells #[.int .i64 48, .slice (some ⟨w.heap.size, 0, none⟩) 1 1, .int .i64 109, .slice (some ⟨w.heap.size + 1, 0, none⟩) 2 2, .int .i64 945, .slice (some ⟨w.heap.size + 1 + 1, 0, none⟩) 1 1, .int .i64 1072, .slice (some ⟨w.heap.size + 1 + 1 + 1, 0, none⟩) 1 1, .int .i64 1632, .slice (some ⟨w.heap.size + 1 + 1 + 1 + 1, 0, none⟩) 2 2] 49)) := by
    have ho : onlyIn [g, b] w ((((((w.alloc (.cells #[.int .i64 111] 3)).alloc (.cells #[.int .i64 114, .int .i64 110] 3)).alloc (.cells #[.int .i64 97] 3)).alloc (.cells #[.int .i64 97] 3)).alloc (.cells #[.int .i64 111, .int .i64 803] 3)).alloc (.cells #[.int .i64 48, .slice (some ⟨w.heap.size, 0, none⟩) 1 1, .int .i64 109, .slice (some ⟨w.heap.size + 1, 0, none⟩) 2 2, .int .i64 945, .slice (some ⟨w.heap.size + 1 + 1, 0, none⟩) 1 1, .int .i64 1072, .slice (some ⟨w.heap.size + 1 + 1 + 1, 0, none⟩) 1 1, .int .i64 1632, .slice (some ⟨w.heap.size + 1 + 1 + 1 + 1, 0, none⟩) 2 2] 49)) := onlyIn.of_below hbel
    have hso : onlyIn [] w ((((((w.alloc (.cells #[.int .i64 111] 3)).alloc (.cells #[.int .i64 114, .int .i64 110] 3)).alloc (.cells #[.int .i64 97] 3)).alloc (.cells #[.int .i64 97] 3)).alloc (.cells #[.int .i64 111, .int .i64 803] 3)).alloc (.cells #[.int .i64 48, .slice (some ⟨w.heap.size, 0, none⟩) 1 1, .int .i64 109, .slice (some ⟨w.heap.size + 1, 0, none⟩) 2 2, .int .i64 945, .slice (some ⟨w.heap.size + 1 + 1, 0, none⟩) 1 1, .int .i64 1072, .slice (some ⟨w.heap.size + 1 + 1 + 1, 0, none⟩) 1 1, .int .i64 1632, .slice (some ⟨w.heap.size + 1 + 1 + 1 + 1, 0, none⟩) 2 2] 49)) := onlyIn.of_below hbel
    refine ⟨hso.blk HB.out (by simp), (HT.out.reveil (onlyIn_reveil ho fun x hx => hx)).more hbel.size, OwnM.nil _ _ _, proto_lit w g b hgb hbw, HS.out.below hbel, ho⟩
  have HI := Lib.hid hI
  clear hI hbel HB HS HT
  generalize ((((((w.alloc (.cells #[.int .i64 111] 3)).alloc (.cells #[.int .i64 114, .int .i64 110] 3)).alloc (.cells #[.int .i64 97] 3)).alloc (.cells #[.int .i64 97] 3)).alloc (.cells #[.int .i64 111, .int .i64 803] 3)).alloc (.cells #[.int .i64 48, .slice (some ⟨w.heap.size, 0, none⟩) 1 1, .int .i64 109, .slice (some ⟨w.heap.size + 1, 0, none⟩) 2 2, .int .i64 945, .slice (some ⟨w.heap.size + 1 + 1, 0, none⟩) 1 1, .int .i64 1072, .slice (some ⟨w.heap.size + 1 + 1 + 1, 0, none⟩) 1 1, .int .i64 1632, .slice (some ⟨w.heap.size + 1 + 1 + 1 + 1, 0, none⟩) 2 2] 49)) = W0 at *
  obtain ⟨lb, hlb⟩ : ∃ lb, lb = w.heap.size + 1 + 1 + 1 + 1 + 1 := ⟨_, rfl⟩
  rw [← hlb] at HI
  rw [← hlb]
  clear hlb
  go_loopg [18] 5 (fun gk iv wr => ∃ (k : Nat) (v11 : Value) (D : List Mp), iv = .int .i64 k ∧ k + gk = 5 ∧ Hid (PSt w g b xs.length v t T (.slice (some ⟨lb, 0, none⟩) 5 5) v11 D wr) ∧ Hid (D.Sublist (protoL.take k)) ∧ Hid (∀ m ∈ D, T.ignB m.1 = false ∧ T.ignB (m.2.getLastD 0) = false))
  case atStart => exact ⟨0, _, [], rfl, rfl, HI, Lib.hid (List.nil_sublist _), Lib.hid (by simp)⟩
  case round =>
    obtain ⟨k, v11, D, rfl, hk, HM, HD, HG⟩ := hrel
    clear HI
    by_cases hlt : k < 5
    · obtain ⟨⟨mc, ml⟩, hm, hmm⟩ := get_el (show k < protoL.length from hlt)
      obtain ⟨hm1, hm2⟩ := proto_len _ hmm
      simp only at hm1 hm2
      obtain ⟨A, c, hlv, _, _, _, hcl⟩ := HM.out.lit
      cases hlv
      obtain ⟨aj, sv, hA, haj, d0', d1', hto⟩ := hcl k _ hm
      cases hA
      have d0 := veil_cell d0'
      have d1 := veil_cell d1'
      simp only at d0 d1 hto
      have HTO := Lib.hid hto
      obtain ⟨A', c', rfl, hl1, hl2, _, hcx⟩ := id hto
      obtain ⟨j, hj⟩ : ∃ j, ml.length = j + 1 := ⟨ml.length - 1, by omega⟩
      obtain ⟨x, hx⟩ : ∃ x, ml[j]? = some x := ⟨_, List.getElem?_eq_getElem (by omega)⟩
      have hxl : ml.getLastD 0 = x := by
        rw [List.getLastD_eq_getLast?, List.getLast?_eq_getElem?, hj, show j + 1 - 1 = j from rfl, hx]; rfl
      obtain ⟨ad, rfl, _, _⟩ := hcx j x hx
      have HMM := Lib.hid hm
      have HJ := Lib.hid hj
      have HX := Lib.hid hx
      have HXL := Lib.hid hxl
      have hj1 : j < ml.length := by omega
      have e0 : wr.cell? ⟨lb, k * 2, none⟩ = some (.int .i64 mc) := by rw [← d0, add_zero_off]
      have e1 : wr.cell? ⟨lb, k * 2 + 1, none⟩ = some (.slice (some ad) ml.length c') := by rw [← d1, add_zero_off]
      clear hcl d0 d1 d0' d1' hto hm hmm haj hcx hj hx hxl hl1 hl2
      have k1 : (k : Int) < 5 := by omega
      go_upto_region 3 with fail
      go_cut [46] from 22 to 46 (fun s46 wx => ∃ d : Bool, s46 = .bool d ∧ Hid (d = false → T.ignB mc = false ∧ T.ignB (ml.getLastD 0) = false) ∧ Hid (onlyIn [g] wr wx) ∧ Hid (Src wx g v xs.length) ∧ Hid (Blk wx wr.heap.size 49 #[.int .i64 mc, .slice (some ad) ml.length c']))
      case first =>
        clear e0 e1 k1
        have HO2 : Hid (onlyIn [g] wr (wr.alloc (.cells #[.int .i64 mc, .slice (some ad) ml.length c'] 49))) := Lib.hid (onlyIn.of_below ((Below.refl _ _).alloc (Nat.le_refl _) _))
        have HS2 : Hid (Src (wr.alloc (.cells #[.int .i64 mc, .slice (some ad) ml.length c'] 49)) g v xs.length) := Lib.hid (HM.out.src.alloc _)
        have HX2 : Hid (Blk (wr.alloc (.cells #[.int .i64 mc, .slice (some ad) ml.length c'] 49)) wr.heap.size 49 #[.int .i64 mc, .slice (some ad) ml.length c']) := Lib.hid (Blk.new wr 49 _)
        have HN := Lib.hid (HNX.out (wr.alloc (.cells #[.int .i64 mc, .slice (some ad) ml.length c'] 49)).drew 3 (HM.out.only hgb hbw HO2.out HS2.out).oi HS2.out (by decide) (by decide))
        generalize wr.alloc (.cells #[.int .i64 mc, .slice (some ad) ml.length c'] 49) = W2 at *
        refine wp_region_any (by kernel_rfl) ?_
        refine wpAny_one 0 _ (by kernel_rfl) rfl (fun K hK => ?_)
        go_simp
        refine hK _ _ ?_
        clear hK K
        refine wpAny_one 1 _ (by kernel_rfl) rfl (fun K hK => ?_)
        go_simp
        go_at_call 12
        refine HN.out.mono ?_
        rintro e w7 ⟨q7, rfl, q70, q71, hs7, hg70⟩
        refine hK _ _ ?_
        clear hK K
        have hO7 := HO2.out.trans (onlyIn.of_grown (undrew hg70) (by simp))
        have hM7 := HM.out.only hgb hbw hO7 hs7
        have hX7 := HX2.out.grown (undrew hg70) (by intro e; injection e with e; have := HM.out.oi.2.2.2.1; omega)
        have HTab := Lib.hid fun W (hW : Below w7.heap.size w7 W) => (hM7.tab hgb hbw).unveil.later hW
        have HO7 := Lib.hid hO7
        have HS7 := Lib.hid hs7
        have HX7 := Lib.hid hX7
        obtain ⟨x0, x1, x2, x3, x4, x5, x6, x7, x8, x9, x10, x11⟩ := hM7.blk.tabG
        have m0 := cell_regrown (hX7.at_ (i := 0) rfl)
        have m1 := cell_regrown (hX7.at_ (i := 1) rfl)
        obtain ⟨_, _, hvx, _, _, _, hcx⟩ := (HTO.out.reveil (onlyIn_reveil (S1 := [g, b] ++ v11.ownBlock.toList) hO7 fun x hx => by simp at hx; simp [hx])).unveil
        cases hvx
        obtain ⟨_, hA, _, hcx2⟩ := hcx j x HX.out
        cases hA
        have m2 := cell_regrown hcx2
        have hj2 : (0 : Int) ≤ (j : Int) := by omega
        have hj3 : (j : Int) < (ml.length : Int) := by omega
        have hw : IntKind.i64.wrap ((ml.length : Int) - 1) = (j : Int) := by rw [IntWalk.i64_in _ (by omega)]; have := HJ.out; omega
        clear hg70 hs7 hO7 hM7 hX7 hcx hcx2 HN HO2 HS2 HX2
        by_cases h7 : q7 = 0
        · have n7 : (q7 == 0) = true := by simpa using h7
          clear h7
          refine wpAny_one 2 _ (by kernel_rfl) rfl (fun K hK => ?_)
          go_simp
          refine hK _ _ ?_
          clear hK K
          refine wpAny_one 3 _ (by kernel_rfl) rfl (fun K hK => ?_)
          go_simp
          refine hK _ _ ?_
          clear hK K
          refine wpAny_below 4 _ rfl rfl (by kernel_rfl) (by kernel_rfl) ?_
          simp only [List.drop_succ_cons, List.drop_zero]
          repeat (go_big_quiet_step (fail))
          refine wpQuiet_nil ?_
          rintro _ ⟨⟨dq, osq⟩, rfl⟩
          go_wp2
          go_meet
          case rel => exact ⟨_, rfl, Lib.hid (fun h => by cases h), Lib.hid (HO7.out.trans (onlyIn.of_below (below_regrown _ dq osq))), Lib.hid (HS7.out.below (below_regrown _ dq osq)), Lib.hid (HX7.out.later (below_regrown _ dq osq))⟩
        · have n7 : (q7 == 0) = false := by simpa using h7
          clear h7
          obtain ⟨b1, hb1⟩ : ∃ b1, T.ignB mc = b1 := ⟨_, rfl⟩
          obtain ⟨b2, hb2⟩ : ∃ b2, T.ignB x = b2 := ⟨_, rfl⟩
          have HI1 : Hid (∀ W, Below w7.heap.size w7 W → Calls Tryz.prog 30 #[.agg #[t.c0, t.c1, t.c2, t.c3, t.c4, t.c5, t.c6, t.c7, t.c8, t.c9, t.c10, v11], .int .i64 mc] W fun e w' => e = .returned (.bool b1) ∧ Below W.heap.size W w') :=
            Lib.hid fun W hW => by rw [← hb1]; exact refIgnorable_any { t with c11 := v11 } { T with prototypes := D } mc W (HTab.out W hW)
          have HI2 : Hid (∀ W, Below w7.heap.size w7 W → Calls Tryz.prog 30 #[.agg #[t.c0, t.c1, t.c2, t.c3, t.c4, t.c5, t.c6, t.c7, t.c8, t.c9, t.c10, v11], .int .i64 x] W fun e w' => e = .returned (.bool b2) ∧ Below W.heap.size W w') :=
            Lib.hid fun W hW => by rw [← hb2]; exact refIgnorable_any { t with c11 := v11 } { T with prototypes := D } x W (HTab.out W hW)
          have HB1 := Lib.hid hb1
          have HB2 := Lib.hid hb2
          clear hb1 hb2 HTab
          cases b1
          · cases b2
            all_goals
              refine wpAny_one 2 _ (by kernel_rfl) rfl (fun K hK => ?_)
              go_simp
              refine hK _ _ ?_
              clear hK K
              refine wpAny_one 3 _ (by kernel_rfl) rfl (fun K hK => ?_)
              go_simp
              refine hK _ _ ?_
              clear hK K
              refine wpAny_below 4 _ rfl rfl (by kernel_rfl) (by kernel_rfl) ?_
              simp only [List.drop_succ_cons, List.drop_zero]
              repeat (go_big_quiet_step (first | (go_at_call 30; with_reducible exact quiet_t HI1.out) | (go_at_call 30; with_reducible exact quiet_t HI2.out)))
              refine wpQuiet_nil ?_
              rintro _ ⟨⟨dq, osq⟩, rfl⟩
              go_wp2
              go_meet
              case rel => exact ⟨_, rfl, Lib.hid (fun h => by first | (cases h; done) | exact ⟨HB1.out, by rw [HXL.out]; exact HB2.out⟩), Lib.hid (HO7.out.trans (onlyIn.of_below (below_regrown _ dq osq))), Lib.hid (HS7.out.below (below_regrown _ dq osq)), Lib.hid (HX7.out.later (below_regrown _ dq osq))⟩
          · cases b2
            all_goals
              refine wpAny_one 2 _ (by kernel_rfl) rfl (fun K hK => ?_)
              go_simp
              refine hK _ _ ?_
              clear hK K
              refine wpAny_one 3 _ (by kernel_rfl) rfl (fun K hK => ?_)
              go_simp
              refine hK _ _ ?_
              clear hK K
              refine wpAny_below 4 _ rfl rfl (by kernel_rfl) (by kernel_rfl) ?_
              simp only [List.drop_succ_cons, List.drop_zero]
              repeat (go_big_quiet_step (first | (go_at_call 30; with_reducible exact quiet_t HI1.out) | (go_at_call 30; with_reducible exact quiet_t HI2.out)))
              refine wpQuiet_nil ?_
              rintro _ ⟨⟨dq, osq⟩, rfl⟩
              go_wp2
              go_meet
              case rel => exact ⟨_, rfl, Lib.hid (fun h => by cases h), Lib.hid (HO7.out.trans (onlyIn.of_below (below_regrown _ dq osq))), Lib.hid (HS7.out.below (below_regrown _ dq osq)), Lib.hid (HX7.out.later (below_regrown _ dq osq))⟩
      case rest =>
        obtain ⟨d, rfl, HDD, HO3, HS3, HX3⟩ := hcut
        have HM3 := Lib.hid (HM.out.only hgb hbw HO3.out HS3.out)
        cases d
        · have hb3 := HM3.out.blk
          have e11 := hb3.at_ (i := 11) rfl
          have e11a := (hb3.alloc (.cells #[.int .i64 mc, .slice (some ad) ml.length c'] 49)).at_ (i := 11) rfl
          have hx3 := HX3.out
          have x0 := hx3.at_ (i := 0) rfl
          have x1 := hx3.at_ (i := 1) rfl
          have HBA := Lib.hid (hb3.alloc (.cells #[.int .i64 mc, .slice (some ad) ml.length c'] 49))
          have HOX : Hid (onlyIn [] wc (wc.alloc (.cells #[.int .i64 mc, .slice (some ad) ml.length c'] 49)).drew) := Lib.hid (onlyIn.of_below ((Below.refl _ _).alloc (Nat.le_refl _) _).drew)
          have HMX := Lib.hid (HM3.out.only hgb hbw (HOX.out.more (by simp)) (show Src (wc.alloc (.cells #[.int .i64 mc, .slice (some ad) ml.length c'] 49)).drew g v xs.length from HM3.out.src.alloc _))
          have HIX : Hid (Ints (veil ([g, b] ++ v11.ownBlock.toList) (wc.alloc (.cells #[.int .i64 mc, .slice (some ad) ml.length c'] 49)).drew) (wc.alloc (.cells #[.int .i64 mc, .slice (some ad) ml.length c'] 49)).drew.heap.size .i64 (.slice (some ad) ml.length c') ml) := by
            have h1 := (HTO.out.reveil (onlyIn_reveil (S1 := [g, b] ++ v11.ownBlock.toList) HO3.out fun x hx => by simp at hx; simp [hx]))
            have h2 := ((h1.more HO3.out.2.2.2.1).reveil (onlyIn_reveil (S1 := [g, b] ++ v11.ownBlock.toList) HOX.out fun x hx => by cases hx)).more HOX.out.2.2.2.1
            exact Lib.hid h2
          have HKX : Hid (Blk (wc.alloc (.cells #[.int .i64 mc, .slice (some ad) ml.length c'] 49)).drew wc.heap.size 49 #[.int .i64 mc, .slice (some ad) ml.length c']) := Lib.hid (Blk.new wc 49 #[.int .i64 mc, .slice (some ad) ml.length c'])
          have hszY : w.heap.size ≤ (wc.alloc (.cells #[.int .i64 mc, .slice (some ad) ml.length c'] 49)).drew.heap.size := by have h1 := HM3.out.oi.2.2.2.1; simp; omega
          have hDl : D.length ≤ 1000000 := by have h := HD.out.length_le; rw [List.length_take] at h; omega
          obtain ⟨i0, hi, hz0, hz1, hz2⟩ := info_parts Tryz.infoMap
          clear hb3 hx3 e0 e1
          go_wp2
          go_region_law (first
            | (refine step_app_map rfl (.tmp 51) (.tmp 53) rfl Tryz.underlying24 hi _ hz0 hz1 hz2 rfl [g, b] w.heap.size v11 D wc.heap.size mc (.slice (some ad) ml.length c') ml rfl rfl HMX.out.om HKX.out HIX.out hDl hszY ?_; intro v13 w13 hM13 hg13 hr13 hs13; have hb13 := (show Blk (wc.alloc (.cells #[.int .i64 mc, .slice (some ad) ml.length c'] 49)).drew b 26 #[t.c0, t.c1, t.c2, t.c3, t.c4, t.c5, t.c6, t.c7, t.c8, t.c9, t.c10, v11] from HBA.out).grown hg13 (fun e => by have := (HM3.out.own b e.symm).1; omega); have e13 := hb13.at_ (i := 11) rfl; have f13 := hb13.free 11; have HM13 := Lib.hid hM13; have HG13 := Lib.hid hg13; have HR13 := Lib.hid hr13; obtain ⟨A13, m13, c13', rfl⟩ := hs13; clear hb13 hM13 hg13 hr13))
          all_goals go_wp2
          all_goals
            go_roundg (4 - k)
            case measure => omega
            case rel =>
              refine ⟨k + 1, _, D ++ [(mc, ml)], by go_num, by omega, Lib.hid (HM3.out.append hgb hbw HOX.out HG13.out HR13.out HM13.out), Lib.hid ?_, Lib.hid ?_⟩
              · rw [take_snoc_get HMM.out]; exact HD.out.append (List.Sublist.refl _)
              · intro m hm
                rcases List.mem_append.1 hm with hm | hm
                · exact HG.out m hm
                · rw [List.mem_singleton] at hm; subst hm; exact HDD.out (by simp)
        · clear e0 e1
          go_wp2
          go_roundg (4 - k)
          case measure => omega
          case rel => exact ⟨k + 1, v11, D, by go_num, by omega, HM3, Lib.hid (HD.out.trans (List.take_sublist_take_left (by omega))), HG⟩
    · have hk5 : k = 5 := by omega
      subst hk5
      go_wp2
      go_end0
      have h := HM.out.tab hgb hbw
      exact ⟨v11, D, rfl, HM.out.blk, h, HD.out.trans (List.take_sublist _ _), HG.out, HM.out.src, HM.out.oi⟩
end Go.Proofs.YtneinkpfhkojgaaGreatDoor
/-
  The state of keep.Tables' loop, and what keeps it.
-/
namespace Go.Proofs.YtneinkpfhkojgaaGreatDoor
open Go.RowKit ND

theorem veil_more {R : Nat} {S : List Nat} {W : World} {p : Addr} {x : Value} (h : (veil S W).cell? p = some x) (hp : p.block ≠ R) : (veil (R :: S) W).cell? p = some x := by
  have hn : p.block ∉ R :: S := by
    intro hx
    rcases List.mem_cons.1 hx with e | e
    · exact hp e
    · exact unveil_at h e
  rw [cell_veil hn]; exact veil_cell h
theorem Ints.apart {R : Nat} {S : List Nat} {W : World} {B : Nat} {v : Value} {xs : List Int} (hR : ∀ (p : Addr) (x : Int), W.cell? p = some (.int .i64 x) → p.block ≠ R) (h : Ints (veil S W) B .i64 v xs) : Ints (veil (R :: S) W) B .i64 v xs := by
  obtain ⟨A, c, hv, h1, h2, h3, h4⟩ := h
  refine ⟨A, c, hv, h1, h2, h3, fun i x hi => ?_⟩
  obtain ⟨ad, e, hb, hc⟩ := h4 i x hi
  exact ⟨ad, e, hb, veil_more hc (hR _ _ (veil_cell hc))⟩
theorem Spans.apart {R : Nat} {S : List Nat} {W : World} {B : Nat} {v : Value} {xs : List Sp} (hR : ∀ (p : Addr) (x : Int), W.cell? p = some (.int .i64 x) → p.block ≠ R) (h : Spans (veil S W) B v xs) : Spans (veil (R :: S) W) B v xs := by
  obtain ⟨A, c, hv, h1, h2, h3, h4⟩ := h
  refine ⟨A, c, hv, h1, h2, h3, fun i x hi => ?_⟩
  obtain ⟨ad, e, hb, c0, c1, c2⟩ := h4 i x hi
  exact ⟨ad, e, hb, veil_more c0 (hR _ _ (veil_cell c0)), veil_more c1 (hR _ _ (veil_cell c1)), veil_more c2 (hR _ _ (veil_cell c2))⟩
theorem Mapps.apart {R : Nat} {S : List Nat} {W : World} {B : Nat} {v : Value} {xs : List Mp} (hR : ∀ (p : Addr) (x : Int), W.cell? p = some (.int .i64 x) → p.block ≠ R) (h : Mapps (veil S W) B v xs) : Mapps (veil (R :: S) W) B v xs := by
  obtain ⟨A, c, hv, h1, h2, h3, h4⟩ := h
  refine ⟨A, c, hv, h1, h2, h3, fun i x hi => ?_⟩
  obtain ⟨ad, sv, e, hb, c0, c1, hI⟩ := h4 i x hi
  have hn := hR _ _ (veil_cell c0)
  rw [block_of_add] at hn
  exact ⟨ad, sv, e, hb, veil_more c0 (by rw [block_of_add]; exact hn), veil_more c1 (by rw [block_of_add]; exact hn), hI.apart hR⟩
theorem TabR.apart {R : Nat} {S : List Nat} {W : World} {B : Nat} {t : Tv} {T : Tab} (hR : ∀ (p : Addr) (x : Int), W.cell? p = some (.int .i64 x) → p.block ≠ R) (h : TabR (veil S W) B t T) : TabR (veil (R :: S) W) B t T :=
  ⟨h.r0.apart hR, h.r1.apart hR, h.r2.apart hR, h.r3.apart hR, h.r4.apart hR, h.r5.apart hR, h.r6.apart hR, h.r7.apart hR, h.r8.apart hR, h.r9.apart hR, h.r10.apart hR, h.r11.apart hR⟩
/-- A block of slices alone is no block of integers. -/
theorem no_int {W : World} {R : Nat} {t : TypeId} {cs : Array Value} (h : Blk W R t cs) (hc : ∀ u ∈ cs.toList, ∀ x, u ≠ .int .i64 x) : ∀ (p : Addr) (x : Int), W.cell? p = some (.int .i64 x) → p.block ≠ R := by
  rintro ⟨q, off, spot⟩ x hp rfl
  cases spot with
  | none =>
    rw [h.cell off] at hp
    exact hc _ (Array.mem_toList_iff.2 (Array.mem_of_getElem? hp)) x rfl
  | some s =>
    unfold World.cell? at hp
    rw [h] at hp
    simp at hp

/-- A column with one span more, if its value is not 0. -/
def more (L : List Sp) (c x : Int) : List Sp := if 0 < x then L ++ [(c, c, x)] else L
theorem colN_more {k : Nat} {hi c x : Int} {L : List Sp} (h : colN k 1 hi L) (hc : poolL[k]? = some c) (hx : x ≤ hi) : colN (k + 1) 1 hi (more L c x) := by
  unfold more
  split
  · exact colN_add h hc (by omega) hx
  · exact colN_skip h

structure KSt (w : World) (g b n : Nat) (v : Value) (t : Tv) (T : Tab) (sv : Value) (st : List Int) (wr : World) : Prop where
  blk : Blk wr b 26 t.cells
  tr : TabR (veil ([g, b] ++ sv.ownBlock.toList) wr) wr.heap.size t T
  st : wr.ownsRow w.heap.size 3 1 sv st.length (st.map (Value.int .i64))
  src : Src wr g v n
  oi : onlyIn [g, b] w wr

section
variable {w : World} {g b n : Nat} {v : Value} {t : Tv} {T : Tab} {sv : Value} {st : List Int} {wr w' : World}
theorem KSt.own (h : KSt w g b n v t T sv st wr) : ∀ q, sv.ownBlock = some q → w.heap.size ≤ q ∧ q < wr.heap.size := fun q hq => h.st.lt q hq
theorem KSt.only (h : KSt w g b n v t T sv st wr) (hgb : g < b) (hb : b < w.heap.size) (ho : onlyIn [g] wr w') (hs : Src w' g v n) : KSt w g b n v t T sv st w' := by
  have hown := h.own
  have ho2 : onlyIn [g, b] wr w' := ho.more fun x hx => by simp at hx ⊢; exact .inl hx
  have hk := onlyIn_reveil (S1 := [g, b] ++ sv.ownBlock.toList) ho2 fun x hx => List.mem_append_left _ hx
  refine ⟨ho.blk h.blk (by simp; omega), (h.tr.reveil hk).more ho.2.2.2.1, ⟨h.st.1, ?_⟩, hs, h.oi.trans ho2⟩
  rcases h.st.2 with hn | ⟨q, cap, cur, rfl, hq, hg, hrest⟩
  · exact .inl hn
  · exact .inr ⟨q, cap, cur, rfl, hq, ho.blk hg (by simp; omega), hrest⟩
/-- What a span more in a column leaves as it was. -/
theorem KSt.keepAdd (h : KSt w g b n v t T sv st wr) (hgb : g < b) (hb : b < w.heap.size) (hg : wr.grownBy w' (some b)) :
    TabR (veil ([g, b] ++ sv.ownBlock.toList) w') w'.heap.size t T ∧ w'.ownsRow w.heap.size 3 1 sv st.length (st.map (Value.int .i64)) ∧ Src w' g v n ∧ onlyIn [g, b] w w' := by
  have hown := h.own
  have ho2 : onlyIn [g, b] wr w' := onlyIn.of_grown hg (by simp)
  have hk := onlyIn_reveil (S1 := [g, b] ++ sv.ownBlock.toList) ho2 fun x hx => List.mem_append_left _ hx
  exact ⟨(h.tr.reveil hk).more hg.size, h.st.kept hg (by
    cases hv : sv.ownBlock with
    | none => exact .inl rfl
    | some q => have := hown q hv; refine .inr (fun e => ?_); injection e; omega), h.src.grown hg (by intro e; injection e; omega), h.oi.trans ho2⟩
theorem KSt.inS (h : KSt w g b n v t T sv st wr) (hgb : g < b) (hb : b < w.heap.size) : ∀ x ∈ [g, b] ++ sv.ownBlock.toList, x < wr.heap.size := fun x hx => by
  have h1 := h.oi.2.2.2.1
  rcases List.mem_append.1 hx with hx | hx
  · simp at hx; omega
  · rw [Option.mem_toList] at hx; exact (h.own x hx).2
theorem KSt.add0 (h : KSt w g b n v t T sv st wr) (hgb : g < b) (hb : b < w.heap.size) {c x : Int} {e : Ending} (ret : RetAdd wr b 0 26 t.cells t.c0 T.category c c x e w') :
    ∃ v', e = .returned (.tuple #[]) ∧ KSt w g b n v { t with c0 := v' } { T with category := more T.category c x } sv st w' ∧ wr.grownBy w' (some b) := by
  obtain ⟨v', rfl, hb', hg, hz, hp⟩ := ret
  obtain ⟨h1, h2, h3, h4⟩ := h.keepAdd hgb hb hg
  refine ⟨v', rfl, ⟨by simpa using hb', ?_, h2, h3, h4⟩, hg⟩
  by_cases hx : 0 < x
  · have hp' := hp hx ([g, b] ++ sv.ownBlock.toList) (h.inS hgb hb)
    rw [veil_size] at hp'
    exact { h1 with r0 := by show Spans _ _ _ (more T.category c x); unfold more; rw [if_pos hx]; exact hp' }
  · have hv := hz (by omega)
    exact { h1 with r0 := by show Spans _ _ v' (more T.category c x); unfold more; rw [if_neg hx, hv]; exact h1.r0 }
theorem KSt.add1 (h : KSt w g b n v t T sv st wr) (hgb : g < b) (hb : b < w.heap.size) {c x : Int} {e : Ending} (ret : RetAdd wr b 1 26 t.cells t.c1 T.cls c c x e w') :
    ∃ v', e = .returned (.tuple #[]) ∧ KSt w g b n v { t with c1 := v' } { T with cls := more T.cls c x } sv st w' ∧ wr.grownBy w' (some b) := by
  obtain ⟨v', rfl, hb', hg, hz, hp⟩ := ret
  obtain ⟨h1, h2, h3, h4⟩ := h.keepAdd hgb hb hg
  refine ⟨v', rfl, ⟨by simpa using hb', ?_, h2, h3, h4⟩, hg⟩
  by_cases hx : 0 < x
  · have hp' := hp hx ([g, b] ++ sv.ownBlock.toList) (h.inS hgb hb)
    rw [veil_size] at hp'
    exact { h1 with r1 := by show Spans _ _ _ (more T.cls c x); unfold more; rw [if_pos hx]; exact hp' }
  · have hv := hz (by omega)
    exact { h1 with r1 := by show Spans _ _ v' (more T.cls c x); unfold more; rw [if_neg hx, hv]; exact h1.r1 }
theorem KSt.add2 (h : KSt w g b n v t T sv st wr) (hgb : g < b) (hb : b < w.heap.size) {c x : Int} {e : Ending} (ret : RetAdd wr b 2 26 t.cells t.c2 T.joining c c x e w') :
    ∃ v', e = .returned (.tuple #[]) ∧ KSt w g b n v { t with c2 := v' } { T with joining := more T.joining c x } sv st w' ∧ wr.grownBy w' (some b) := by
  obtain ⟨v', rfl, hb', hg, hz, hp⟩ := ret
  obtain ⟨h1, h2, h3, h4⟩ := h.keepAdd hgb hb hg
  refine ⟨v', rfl, ⟨by simpa using hb', ?_, h2, h3, h4⟩, hg⟩
  by_cases hx : 0 < x
  · have hp' := hp hx ([g, b] ++ sv.ownBlock.toList) (h.inS hgb hb)
    rw [veil_size] at hp'
    exact { h1 with r2 := by show Spans _ _ _ (more T.joining c x); unfold more; rw [if_pos hx]; exact hp' }
  · have hv := hz (by omega)
    exact { h1 with r2 := by show Spans _ _ v' (more T.joining c x); unfold more; rw [if_neg hx, hv]; exact h1.r2 }
theorem KSt.add3 (h : KSt w g b n v t T sv st wr) (hgb : g < b) (hb : b < w.heap.size) {c x : Int} {e : Ending} (ret : RetAdd wr b 3 26 t.cells t.c3 T.bidi c c x e w') :
    ∃ v', e = .returned (.tuple #[]) ∧ KSt w g b n v { t with c3 := v' } { T with bidi := more T.bidi c x } sv st w' ∧ wr.grownBy w' (some b) := by
  obtain ⟨v', rfl, hb', hg, hz, hp⟩ := ret
  obtain ⟨h1, h2, h3, h4⟩ := h.keepAdd hgb hb hg
  refine ⟨v', rfl, ⟨by simpa using hb', ?_, h2, h3, h4⟩, hg⟩
  by_cases hx : 0 < x
  · have hp' := hp hx ([g, b] ++ sv.ownBlock.toList) (h.inS hgb hb)
    rw [veil_size] at hp'
    exact { h1 with r3 := by show Spans _ _ _ (more T.bidi c x); unfold more; rw [if_pos hx]; exact hp' }
  · have hv := hz (by omega)
    exact { h1 with r3 := by show Spans _ _ v' (more T.bidi c x); unfold more; rw [if_neg hx, hv]; exact h1.r3 }
theorem KSt.add4 (h : KSt w g b n v t T sv st wr) (hgb : g < b) (hb : b < w.heap.size) {c x : Int} {e : Ending} (ret : RetAdd wr b 4 26 t.cells t.c4 T.script c c x e w') :
    ∃ v', e = .returned (.tuple #[]) ∧ KSt w g b n v { t with c4 := v' } { T with script := more T.script c x } sv st w' ∧ wr.grownBy w' (some b) := by
  obtain ⟨v', rfl, hb', hg, hz, hp⟩ := ret
  obtain ⟨h1, h2, h3, h4⟩ := h.keepAdd hgb hb hg
  refine ⟨v', rfl, ⟨by simpa using hb', ?_, h2, h3, h4⟩, hg⟩
  by_cases hx : 0 < x
  · have hp' := hp hx ([g, b] ++ sv.ownBlock.toList) (h.inS hgb hb)
    rw [veil_size] at hp'
    exact { h1 with r4 := by show Spans _ _ _ (more T.script c x); unfold more; rw [if_pos hx]; exact hp' }
  · have hv := hz (by omega)
    exact { h1 with r4 := by show Spans _ _ v' (more T.script c x); unfold more; rw [if_neg hx, hv]; exact h1.r4 }
theorem KSt.add6 (h : KSt w g b n v t T sv st wr) (hgb : g < b) (hb : b < w.heap.size) {c x : Int} {e : Ending} (ret : RetAdd wr b 6 26 t.cells t.c6 T.ignorable c c x e w') :
    ∃ v', e = .returned (.tuple #[]) ∧ KSt w g b n v { t with c6 := v' } { T with ignorable := more T.ignorable c x } sv st w' ∧ wr.grownBy w' (some b) := by
  obtain ⟨v', rfl, hb', hg, hz, hp⟩ := ret
  obtain ⟨h1, h2, h3, h4⟩ := h.keepAdd hgb hb hg
  refine ⟨v', rfl, ⟨by simpa using hb', ?_, h2, h3, h4⟩, hg⟩
  by_cases hx : 0 < x
  · have hp' := hp hx ([g, b] ++ sv.ownBlock.toList) (h.inS hgb hb)
    rw [veil_size] at hp'
    exact { h1 with r6 := by show Spans _ _ _ (more T.ignorable c x); unfold more; rw [if_pos hx]; exact hp' }
  · have hv := hz (by omega)
    exact { h1 with r6 := by show Spans _ _ v' (more T.ignorable c x); unfold more; rw [if_neg hx, hv]; exact h1.r6 }
/-- One status more. -/
theorem KSt.status (h : KSt w g b n v t T sv st wr) (hgb : g < b) (hb : b < w.heap.size) {Y : World} {sv' : Value} {st' : List Int}
    (ho : onlyIn [] wr Y) (hg : Y.grownBy w' sv.ownBlock) (hr : ∀ q, sv'.ownBlock = some q → sv.ownBlock = some q ∨ q = Y.heap.size) (hS : w'.ownsRow w.heap.size 3 1 sv' st'.length (st'.map (Value.int .i64))) :
    KSt w g b n v t T sv' st' w' := by
  have hown := h.own
  have hnot : ∀ q, q < w.heap.size → some q ≠ sv.ownBlock := fun q hq e => by have := hown q e.symm; omega
  have k1 := onlyIn_reveil (S1 := [g, b] ++ sv.ownBlock.toList) (ho.more (S' := [g, b]) (by simp)) fun x hx => List.mem_append_left _ hx
  have k2 := grown_reveil (S := [g, b]) (v := sv) (v' := sv') hg hr
  refine ⟨(ho.blk h.blk (by simp)).grown hg (hnot b hb), ((((h.tr.reveil k1).more ho.2.2.2.1).reveil k2)).more hg.size, hS, ?_, ?_⟩
  · obtain ⟨i, h1, h2⟩ := h.src
    exact ⟨i, h1, (ho.blk h2 (by simp)).grown hg (hnot g (by omega))⟩
  · have oX := h.oi.trans (ho.more (S' := [g, b]) (by simp))
    exact ⟨hg.os.trans oX.1, hg.tape.trans oX.2.1, hg.output.trans oX.2.2.1, Nat.le_trans oX.2.2.2.1 hg.size, fun q hq hl => (hg.block q (by have := oX.2.2.2.1; omega) (hnot q (by omega))).trans (oX.2.2.2.2 q hq hl)⟩
end
end Go.Proofs.YtneinkpfhkojgaaGreatDoor
