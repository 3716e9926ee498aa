/-
  Merged texts: lemmas and walks that the last text of this claim leans on.
-/
import Derived.Test.YtneinkpfhkojgaaDoorMgF133
import Derived.Deep.RegionHeld3
import Derived.Test.YtneinkpfhkojgaaDoorMgF131
import Derived.ChangeKeysEq
import Derived.Maps.Own
import Derived.Test.YtneinkpfhkojgaaDoorMgF132
import Derived.BigQuiet
/-
  The walk through the reference's Composable.
-/
namespace Go.Proofs.YtneinkpfhkojgaaDoor
open Go.RowKit ND

/-- Every full decomposition ends and is short. -/
def Ends (T : Tab) : Prop := ∀ c, fin T.decomps T.decomps.length c = true ∧ fullF T.decomps 257 [c] = some (expF T.decomps T.decomps.length c) ∧ (expF T.decomps T.decomps.length c).length ≤ 18
theorem Ends.of {T : Tab} (hl : T.decomps.length ≤ 256) (h : T.rule6 = true) : Ends T := by
  intro c
  unfold Tab.rule6 at h
  rw [Bool.and_eq_true, List.all_eq_true, List.all_eq_true] at h
  have hs : sizeF T.decomps (T.decomps.length + 1) c ≤ 18 := by
    by_cases hn : findL T.decomps c = []
    · rw [sizeF_none hn]; omega
    · have := h.2 _ (findL_mem hn)
      unfold Tab.szOk at this
      simpa using this
  rcases full_size hl c with ⟨_, h1, h2, h3⟩ | ⟨h1, _⟩
  · exact ⟨h2, h1, h3⟩
  · exact absurd hs h1
theorem lastF_same {D : List Mp} {f g : Nat} {c : Int} (hf : fin D f c = true) (hg : fin D g c = true) : lastF D f c = lastF D g c := by
  unfold lastF
  rcases Nat.le_total f g with h | h
  · rw [(fin_up hf g h).2]
  · rw [(fin_up hg f h).2]

set_option maxRecDepth 100000 in
set_option maxHeartbeats 8000000 in
theorem refComposable_any (t : Tv) (T : Tab) (hsh : Shape T) (hne : ∀ m ∈ T.decomps, m.2 ≠ [] ∧ m.2.length ≤ 1000) (hen : Ends T) : ∀ (f : Nat) (c : Int) (w : World), TabR w w.heap.size t T → fin T.decomps f c = true →
    Calls Tryd.prog 106 #[t.val, .int .i64 c] w fun e w' => e = .returned (.bool (T.compF f c)) ∧ Below w.heap.size w w' := by
  intro f
  induction f with
  | zero =>
    intro c w ht hfin
    have hn : findL T.decomps c = [] := by rw [fin_zero, decide_eq_true_eq] at hfin; exact hfin
    obtain ⟨uc, huc, hucn, hfc⟩ := refFind_v t.c9 T.decomps c w ht.r9 (keysB_sort hsh.kd)
    have HF := Lib.hid hfc
    obtain ⟨A0, A1, A2, A3, A4, A5, A6, A7, A8, A9, A10, A11, k0, k1, k2, k3, k4, k5, k6, k7, k8, k9, k10, k11, rfl⟩ := ht.shape
    obtain ⟨Au, ku, rfl⟩ := hucn hn
    have HB := Lib.hid (show Blk (w.alloc (.cells #[.slice A0 T.category.length k0, .slice A1 T.cls.length k1, .slice A2 T.joining.length k2, .slice A3 T.bidi.length k3, .slice A4 T.script.length k4, .slice A5 T.status.length k5, .slice A6 T.ignorable.length k6, .slice A7 T.extensions.length k7, .slice A8 T.maps.length k8, .slice A9 T.decomps.length k9, .slice A10 T.excluded.length k10, .slice A11 T.prototypes.length k11] 26)) w.heap.size 26 #[.slice A0 T.category.length k0, .slice A1 T.cls.length k1, .slice A2 T.joining.length k2, .slice A3 T.bidi.length k3, .slice A4 T.script.length k4, .slice A5 T.status.length k5, .slice A6 T.ignorable.length k6, .slice A7 T.extensions.length k7, .slice A8 T.maps.length k8, .slice A9 T.decomps.length k9, .slice A10 T.excluded.length k10, .slice A11 T.prototypes.length k11] from Blk.new _ _ _)
    have p1 : ((0 : Int) != 2) = true := by decide
    clear hfc huc hucn hn ht hfin
    show Calls _ _ _ _ fun e w' => e = .returned (.bool false) ∧ _
    go_enter Tryd.func106, Tryd.ntmps106
    go_wp2_with fail
    refine (HF.out _ ((Below.refl _ _).alloc (Nat.le_refl _) _)).mono ?_
    rintro e w0 ⟨rfl, b0⟩
    have HB0 := Lib.hid (HB.out.later b0)
    have hbel := below_next ((Below.refl w.heap.size w).alloc (Nat.le_refl _) _) b0
    clear b0 HB
    go_wp2_with fail
    obtain ⟨x0, x1, x2, x3, x4, x5, x6, x7, x8, x9, x10, x11⟩ := (HB0.out.later (Below.refl _ _)).tabG
    refine wp_region_quiet_below (by kernel_rfl) (by kernel_rfl) ?_
    repeat (go_big_quiet_step (fail))
    refine wpQuiet_nil ?_
    rintro _ ⟨⟨dq, osq⟩, rfl⟩
    clear x0 x1 x2 x3 x4 x5 x6 x7 x8 x9 x10 x11
    go_wp2_with fail
    go_ret
    exact ⟨rfl, below_next hbel (below_regrown _ dq osq)⟩
  | succ f ih =>
    intro c w ht hfin
    have HT := Lib.hid (fun W (h : Below w.heap.size w W) => ht.later h)
    have hs := keysB_sort hsh.kd
    have HEX := Lib.hid (fun x W h => refExcluded_any t T x W h)
    have HCL := Lib.hid (fun x W h => refClass_any t T x W h)
    have HFU := Lib.hid (fun x W h => full_any t T x W h hne)
    have HEN := Lib.hid hen
    have HIH := Lib.hid ih
    have HFV := Lib.hid (fun x W (h : TabR W W.heap.size t T) => refFind_v t.c9 T.decomps x W h.r9 hs)
    obtain ⟨uc, huc, hucn, hfc⟩ := refFind_v t.c9 T.decomps c w ht.r9 hs
    have HF := Lib.hid hfc
    obtain ⟨A0, A1, A2, A3, A4, A5, A6, A7, A8, A9, A10, A11, k0, k1, k2, k3, k4, k5, k6, k7, k8, k9, k10, k11, rfl⟩ := ht.shape
    obtain ⟨As, cs, rfl, hcs1, hcs2, _, hcell⟩ := huc
    have hlt : (findL T.decomps c).length ≤ 9223372036854775807 := by unfold maxLen at hcs2; omega
    have HCE := Lib.hid hcell
    have HFN := Lib.hid hfin
    have HBB := Lib.hid (show Blk (w.alloc (.cells #[.slice A0 T.category.length k0, .slice A1 T.cls.length k1, .slice A2 T.joining.length k2, .slice A3 T.bidi.length k3, .slice A4 T.script.length k4, .slice A5 T.status.length k5, .slice A6 T.ignorable.length k6, .slice A7 T.extensions.length k7, .slice A8 T.maps.length k8, .slice A9 T.decomps.length k9, .slice A10 T.excluded.length k10, .slice A11 T.prototypes.length k11] 26)) w.heap.size 26 #[.slice A0 T.category.length k0, .slice A1 T.cls.length k1, .slice A2 T.joining.length k2, .slice A3 T.bidi.length k3, .slice A4 T.script.length k4, .slice A5 T.status.length k5, .slice A6 T.ignorable.length k6, .slice A7 T.extensions.length k7, .slice A8 T.maps.length k8, .slice A9 T.decomps.length k9, .slice A10 T.excluded.length k10, .slice A11 T.prototypes.length k11] from Blk.new _ _ _)
    clear ht ih hcell hcs1 hcs2 hfin hs hfc hucn
    by_cases hl : (findL T.decomps c).length = 2
    · obtain ⟨a, b, hfd⟩ : ∃ a b, findL T.decomps c = [a, b] := by
        match findL T.decomps c, hl with
        | [a, b], _ => exact ⟨a, b, rfl⟩
      obtain ⟨R, hR⟩ : ∃ R, R = T.compF (f + 1) c := ⟨_, rfl⟩
      rw [← hR]
      have HRC := Lib.hid (hR.trans (comp_two (T := T) (f := f) hfd))
      have hffa : fin T.decomps f a = true := by
        have h := HFN.out
        rw [fin_succ (by rw [hfd]; intro h; cases h), hfd] at h
        simp only [List.all_cons, Bool.and_eq_true] at h
        exact h.1
      have HFA := Lib.hid hffa
      rw [hfd] at HCE HF hlt
      obtain ⟨ad, hAs, had, h0⟩ := HCE.out 0 a rfl
      subst hAs
      obtain ⟨_, hAs, _, h1⟩ := HCE.out 1 b rfl
      cases hAs
      have HA0 := Lib.hid h0
      have HA1 := Lib.hid (show w.cell? { block := ad.block, off := ad.off + 1, spot := none } = some (.int .i64 b) from h1)
      have p1 : ((2 : Int) != 2) = false := by decide
      clear hR hl h0 h1 hffa hlt HFN HCE hfd hen
      go_enter Tryd.func106, Tryd.ntmps106
      go_wp2_with fail
      refine (HF.out _ ((Below.refl _ _).alloc (Nat.le_refl _) _)).mono ?_
      rintro e w0 ⟨rfl, b0⟩
      have HB0 := Lib.hid (HBB.out.later b0)
      have HBEL := Lib.hid (below_next ((Below.refl w.heap.size w).alloc (Nat.le_refl _) _) b0)
      clear b0 HBB
      have HTW := Lib.hid (fun W (h : Below w0.heap.size w0 W) => HT.out W (below_next HBEL.out h))
      have HEXW := Lib.hid (fun x W (h : Below w0.heap.size w0 W) => HEX.out x W (HTW.out W h))
      have HCLW := Lib.hid (fun x W (h : Below w0.heap.size w0 W) => HCL.out x W (HTW.out W h))
      have HFUW := Lib.hid (fun x W (h : Below w0.heap.size w0 W) => HFU.out x W (HTW.out W h))
      obtain ⟨ub, hub, hubn, hfb⟩ := HFV.out b w0 (HTW.out w0 (Below.refl _ _))
      have HFB := Lib.hid hfb
      obtain ⟨ua, hua, huan, hfa⟩ := HFV.out a w0 (HTW.out w0 (Below.refl _ _))
      have HFAF := Lib.hid hfa
      obtain ⟨Ab, kb, rfl, _⟩ := hub
      obtain ⟨Aa, ka, rfl, _⟩ := hua
      clear hfb hfa HT HEX HCL HFV hubn huan HFU
      cases hex : T.excB c
      · have HE := Lib.hid hex
        have HEXQ := Lib.hid (fun W (h : Below w0.heap.size w0 W) => HEXW.out c W h)
        rw [hex] at HEXQ
        clear hex
        by_cases hc0 : T.classOf c = 0
        · have q1 : (T.classOf c != 0) = false := by rw [bne_eq_false_iff_eq]; exact hc0
          have HC0 := Lib.hid hc0
          clear hc0
          by_cases ha0 : T.classOf a = 0
          · have q2 : (T.classOf a != 0) = false := by rw [bne_eq_false_iff_eq]; exact ha0
            have HAC := Lib.hid ha0
            clear ha0
            by_cases hbn : findL T.decomps b = []
            · have HBN := Lib.hid hbn
              have HRC2 : Hid (R = ((decide (findL T.decomps a = []) || T.compF f a) && (decide (T.classOf b = 0) || decide (T.classOf (lastF T.decomps f a) ≤ T.classOf b)))) := Lib.hid (by
                rw [HRC.out, HE.out, decide_eq_true HC0.out, decide_eq_true HAC.out, decide_eq_true HBN.out]; rfl)
              rw [hbn] at HFB
              have q3 : ([] : List Int).length = 0 := rfl
              clear hbn
              go_wp2_with fail
              obtain ⟨x0, x1, x2, x3, x4, x5, x6, x7, x8, x9, x10, x11⟩ := (HB0.out.later (Below.refl _ _)).tabG
              have a0 := cell_regrown ((below_next HBEL.out (Below.refl _ _)).cell (p := ad.add 0) (by rw [block_of_add]; exact had) |>.trans HA0.out)
              have a0' : ∀ d os, (Go.Sort.grow (redrawn _ d) os).cell? ad = some (.int .i64 a) := a0
              have b0 := cell_regrown ((below_next HBEL.out (Below.refl _ _)).cell (p := { block := ad.block, off := ad.off + 1, spot := none }) had |>.trans HA1.out)
              refine wp_region_quiet_below (by kernel_rfl) (by kernel_rfl) ?_
              repeat (go_big_quiet_step (first | (go_at_call 117; exact quiet_t (fun W hW => HEXQ.out W hW)) | (go_at_call 18; exact quiet_t (fun W hW => HCLW.out _ W hW)) | (go_at_call 105; exact quiet_t (fun W hW => HFB.out W hW))))
              refine wpQuiet_nil ?_
              rintro _ ⟨⟨dq, osq⟩, rfl⟩
              clear x0 x1 x2 x3 x4 x5 x6 x7 x8 x9 x10 x11 a0 a0' b0
              clear q3
              have hb1 := below_regrown w0 dq osq
              generalize Go.Sort.grow (redrawn w0 dq) osq = w1 at *
              by_cases han : findL T.decomps a = []
              · have HRC3 : Hid (R = (decide (T.classOf b = 0) || decide (T.classOf (lastF T.decomps f a) ≤ T.classOf b))) := Lib.hid (by rw [HRC2.out, decide_eq_true han]; rfl)
                rw [han] at HFAF
                have q3 : ([] : List Int).length = 0 := rfl
                clear han
                go_wp2_with fail
                obtain ⟨x0, x1, x2, x3, x4, x5, x6, x7, x8, x9, x10, x11⟩ := (HB0.out.later hb1).tabG
                have a0 := cell_regrown ((below_next HBEL.out hb1).cell (p := ad.add 0) (by rw [block_of_add]; exact had) |>.trans HA0.out)
                have a0' : ∀ d os, (Go.Sort.grow (redrawn _ d) os).cell? ad = some (.int .i64 a) := a0
                have b0 := cell_regrown ((below_next HBEL.out hb1).cell (p := { block := ad.block, off := ad.off + 1, spot := none }) had |>.trans HA1.out)
                refine wp_region_quiet_below (by kernel_rfl) (by kernel_rfl) ?_
                repeat (go_big_quiet_step ((go_at_call 105; exact quiet_t (fun W hW => HFAF.out W (below_next hb1 hW)))))
                refine wpQuiet_nil ?_
                rintro _ ⟨⟨dq, osq⟩, rfl⟩
                clear x0 x1 x2 x3 x4 x5 x6 x7 x8 x9 x10 x11 a0 a0' b0
                have hb3 := below_next hb1 (below_regrown w1 dq osq)
                generalize Go.Sort.grow (redrawn w1 dq) osq = w3 at *
                clear hb1 q3
                obtain ⟨hea, hfua, hela⟩ := HEN.out a
                have HXL := Lib.hid (lastF_same hea HFA.out)
                have HFX := Lib.hid (HFUW.out a)
                rw [hfua] at HFX
                obtain ⟨n, hn⟩ : ∃ n, (expF T.decomps T.decomps.length a).length = n + 1 := ⟨(expF T.decomps T.decomps.length a).length - 1, by have := length_pos_ne (expF_ne T.decomps T.decomps.length a); omega⟩
                have HNN := Lib.hid hn
                clear hea hfua hn
                go_wp2_with fail
                obtain ⟨x0, x1, x2, x3, x4, x5, x6, x7, x8, x9, x10, x11⟩ := (HB0.out.later hb3).tab
                have a0 := ((below_next HBEL.out hb3).cell (p := ad.add 0) (by rw [block_of_add]; exact had)).trans HA0.out
                have a0' : w3.cell? ad = some (.int .i64 a) := a0
                go_region_held3 (fun w' => w'.cell? ⟨w.heap.size, 0, none⟩ = some (.slice A0 T.category.length k0) ∧ w'.cell? ⟨w.heap.size, 1, none⟩ = some (.slice A1 T.cls.length k1) ∧ w'.cell? ⟨w.heap.size, 2, none⟩ = some (.slice A2 T.joining.length k2) ∧ w'.cell? ⟨w.heap.size, 3, none⟩ = some (.slice A3 T.bidi.length k3) ∧ w'.cell? ⟨w.heap.size, 4, none⟩ = some (.slice A4 T.script.length k4) ∧ w'.cell? ⟨w.heap.size, 5, none⟩ = some (.slice A5 T.status.length k5) ∧ w'.cell? ⟨w.heap.size, 6, none⟩ = some (.slice A6 T.ignorable.length k6) ∧ w'.cell? ⟨w.heap.size, 7, none⟩ = some (.slice A7 T.extensions.length k7) ∧ w'.cell? ⟨w.heap.size, 8, none⟩ = some (.slice A8 T.maps.length k8) ∧ w'.cell? ⟨w.heap.size, 9, none⟩ = some (.slice A9 T.decomps.length k9) ∧ w'.cell? ⟨w.heap.size, 10, none⟩ = some (.slice A10 T.excluded.length k10) ∧ w'.cell? ⟨w.heap.size, 11, none⟩ = some (.slice A11 T.prototypes.length k11) ∧ w'.cell? ad = some (.int .i64 a)) (go_keep)
                  ((go_at_call 116; refine (HFX.out _ (show Below w0.heap.size w0 (World.drew w3) from hb3.drew)).mono ?_; rintro e w4 ⟨ux, rfl, hux, b4⟩; obtain ⟨x0, x1, x2, x3, x4, x5, x6, x7, x8, x9, x10, x11⟩ := ((HB0.out.later (show Below w0.heap.size w0 (World.drew w3) from hb3.drew)).later b4).tab; have a0 := (b4.cell (p := ad) (by have := (below_next HBEL.out hb3).size; simp; omega)).trans a0'))
                clear x0 x1 x2 x3 x4 x5 x6 x7 x8 x9 x10 x11 a0 a0'
                have hb4 := below_next (show Below w0.heap.size w0 (World.drew w3) from hb3.drew) b4
                have HUX := Lib.hid hux
                clear b4 hux hb3
                have HLN := Lib.hid HNN.out
                simp only [Option.getD_some] at HUX
                obtain ⟨adx, cx, hux, hax, _, _, hcx⟩ := HUX.out.some_ (expF_ne T.decomps T.decomps.length a)
                subst hux
                obtain ⟨_, z, hxz, hz⟩ := snoc_of HNN.out
                have HZL : Hid (lastF T.decomps f a = z) := Lib.hid (by rw [← HXL.out]; unfold lastF; rw [hxz, getLastD_app (by simp)]; rfl)
                have HZ := Lib.hid (hcx n z hz)
                have hw2 : IntKind.i64.wrap (((expF T.decomps T.decomps.length a).length : Int) - 1) = n := by rw [IntWalk.i64_in _ (by have := HNN.out; have := (HEN.out a).2.2; omega)]; have := HNN.out; omega
                have s0 : (0 : Int) ≤ (n : Int) := by omega
                have s1 : (n : Int) < ((expF T.decomps T.decomps.length a).length : Int) := by have := HNN.out; omega
                generalize (expF T.decomps T.decomps.length a).length = ln at *
                clear hcx hxz hz HUX
                by_cases hk0 : T.classOf b = 0
                · have q5 : (T.classOf b == 0) = true := by rw [beq_iff_eq]; exact hk0
                  have HK := Lib.hid hk0
                  clear hk0
                  go_wp2_with fail
                  obtain ⟨x0, x1, x2, x3, x4, x5, x6, x7, x8, x9, x10, x11⟩ := (HB0.out.later hb4).tabG
                  have a0 := cell_regrown ((below_next HBEL.out hb4).cell (p := ad.add 0) (by rw [block_of_add]; exact had) |>.trans HA0.out)
                  have a0' : ∀ d os, (Go.Sort.grow (redrawn _ d) os).cell? ad = some (.int .i64 a) := a0
                  have b0 := cell_regrown ((below_next HBEL.out hb4).cell (p := { block := ad.block, off := ad.off + 1, spot := none }) had |>.trans HA1.out)
                  refine wp_region_quiet_below (by kernel_rfl) (by kernel_rfl) ?_
                  repeat (go_big_quiet_step ((go_at_call 18; exact quiet_t (fun W hW => HCLW.out _ W (below_next hb4 hW)))))
                  refine wpQuiet_nil ?_
                  rintro _ ⟨⟨dq, osq⟩, rfl⟩
                  clear x0 x1 x2 x3 x4 x5 x6 x7 x8 x9 x10 x11 a0 a0' b0
                  go_wp2_with fail
                  go_ret
                  rw [HRC3.out, decide_eq_true HK.out]
                  exact ⟨by simp, below_next HBEL.out (below_next hb4 (below_regrown _ dq osq))⟩
                · have q5 : (T.classOf b == 0) = false := by rw [beq_eq_false_iff_ne]; exact hk0
                  have HK := Lib.hid hk0
                  clear hk0
                  go_wp2_with fail
                  obtain ⟨x0, x1, x2, x3, x4, x5, x6, x7, x8, x9, x10, x11⟩ := (HB0.out.later hb4).tabG
                  have a0 := cell_regrown ((below_next HBEL.out hb4).cell (p := ad.add 0) (by rw [block_of_add]; exact had) |>.trans HA0.out)
                  have a0' : ∀ d os, (Go.Sort.grow (redrawn _ d) os).cell? ad = some (.int .i64 a) := a0
                  have b0 := cell_regrown ((below_next HBEL.out hb4).cell (p := { block := ad.block, off := ad.off + 1, spot := none }) had |>.trans HA1.out)
                  have z0 := cell_regrown HZ.out
                  refine wp_region_quiet_below (by kernel_rfl) (by kernel_rfl) ?_
                  repeat (go_big_quiet_step ((go_at_call 18; exact quiet_t (fun W hW => HCLW.out _ W (below_next hb4 hW)))))
                  refine wpQuiet_nil ?_
                  rintro _ ⟨⟨dq, osq⟩, rfl⟩
                  clear x0 x1 x2 x3 x4 x5 x6 x7 x8 x9 x10 x11 a0 a0' b0
                  clear z0
                  go_wp2_with fail
                  go_ret
                  rw [HRC3.out, decide_eq_false HK.out, HZL.out]
                  exact ⟨by simp, below_next HBEL.out (below_next hb4 (below_regrown _ dq osq))⟩
              · have HCO := Lib.hid (fun W (h : Below w1.heap.size w1 W) => HIH.out a W (HTW.out W (below_next hb1 h)) HFA.out)
                have HAN := Lib.hid han
                have q5 : (0 : Int) < ((findL T.decomps a).length : Int) := by have := length_pos_ne han; omega
                have q6 : 0 < (findL T.decomps a).length := length_pos_ne han
                clear han
                cases hco : T.compF f a
                · rw [hco] at HCO
                  have HRC3 : Hid (R = false) := Lib.hid (by rw [HRC2.out, decide_eq_false HAN.out, hco]; rfl)
                  clear hco
                  go_wp2_with fail
                  obtain ⟨x0, x1, x2, x3, x4, x5, x6, x7, x8, x9, x10, x11⟩ := (HB0.out.later hb1).tabG
                  have a0 := cell_regrown ((below_next HBEL.out hb1).cell (p := ad.add 0) (by rw [block_of_add]; exact had) |>.trans HA0.out)
                  have a0' : ∀ d os, (Go.Sort.grow (redrawn _ d) os).cell? ad = some (.int .i64 a) := a0
                  have b0 := cell_regrown ((below_next HBEL.out hb1).cell (p := { block := ad.block, off := ad.off + 1, spot := none }) had |>.trans HA1.out)
                  refine wp_region_quiet_below (by kernel_rfl) (by kernel_rfl) ?_
                  repeat (go_big_quiet_step (first | (go_at_call 105; exact quiet_t (fun W hW => HFAF.out W (below_next hb1 hW))) | (go_at_call 106; exact quiet_t (fun W hW => HCO.out W hW))))
                  refine wpQuiet_nil ?_
                  rintro _ ⟨⟨dq, osq⟩, rfl⟩
                  clear x0 x1 x2 x3 x4 x5 x6 x7 x8 x9 x10 x11 a0 a0' b0
                  go_wp2_with fail
                  go_ret
                  rw [HRC3.out]
                  exact ⟨rfl, below_next HBEL.out (below_next hb1 (below_regrown _ dq osq))⟩
                · rw [hco] at HCO
                  have HRC3 : Hid (R = (decide (T.classOf b = 0) || decide (T.classOf (lastF T.decomps f a) ≤ T.classOf b))) := Lib.hid (by rw [HRC2.out, hco, Bool.or_true, Bool.true_and])
                  clear hco
                  go_wp2_with fail
                  obtain ⟨x0, x1, x2, x3, x4, x5, x6, x7, x8, x9, x10, x11⟩ := (HB0.out.later hb1).tabG
                  have a0 := cell_regrown ((below_next HBEL.out hb1).cell (p := ad.add 0) (by rw [block_of_add]; exact had) |>.trans HA0.out)
                  have a0' : ∀ d os, (Go.Sort.grow (redrawn _ d) os).cell? ad = some (.int .i64 a) := a0
                  have b0 := cell_regrown ((below_next HBEL.out hb1).cell (p := { block := ad.block, off := ad.off + 1, spot := none }) had |>.trans HA1.out)
                  refine wp_region_quiet_below (by kernel_rfl) (by kernel_rfl) ?_
                  repeat (go_big_quiet_step (first | (go_at_call 105; exact quiet_t (fun W hW => HFAF.out W (below_next hb1 hW))) | (go_at_call 106; exact quiet_t (fun W hW => HCO.out W hW))))
                  refine wpQuiet_nil ?_
                  rintro _ ⟨⟨dq, osq⟩, rfl⟩
                  clear x0 x1 x2 x3 x4 x5 x6 x7 x8 x9 x10 x11 a0 a0' b0
                  have hb3 := below_next hb1 (below_regrown w1 dq osq)
                  generalize Go.Sort.grow (redrawn w1 dq) osq = w3 at *
                  clear hb1 q5 q6
                  obtain ⟨hea, hfua, hela⟩ := HEN.out a
                  have HXL := Lib.hid (lastF_same hea HFA.out)
                  have HFX := Lib.hid (HFUW.out a)
                  rw [hfua] at HFX
                  obtain ⟨n, hn⟩ : ∃ n, (expF T.decomps T.decomps.length a).length = n + 1 := ⟨(expF T.decomps T.decomps.length a).length - 1, by have := length_pos_ne (expF_ne T.decomps T.decomps.length a); omega⟩
                  have HNN := Lib.hid hn
                  clear hea hfua hn
                  go_wp2_with fail
                  obtain ⟨x0, x1, x2, x3, x4, x5, x6, x7, x8, x9, x10, x11⟩ := (HB0.out.later hb3).tab
                  have a0 := ((below_next HBEL.out hb3).cell (p := ad.add 0) (by rw [block_of_add]; exact had)).trans HA0.out
                  have a0' : w3.cell? ad = some (.int .i64 a) := a0
                  go_region_held3 (fun w' => w'.cell? ⟨w.heap.size, 0, none⟩ = some (.slice A0 T.category.length k0) ∧ w'.cell? ⟨w.heap.size, 1, none⟩ = some (.slice A1 T.cls.length k1) ∧ w'.cell? ⟨w.heap.size, 2, none⟩ = some (.slice A2 T.joining.length k2) ∧ w'.cell? ⟨w.heap.size, 3, none⟩ = some (.slice A3 T.bidi.length k3) ∧ w'.cell? ⟨w.heap.size, 4, none⟩ = some (.slice A4 T.script.length k4) ∧ w'.cell? ⟨w.heap.size, 5, none⟩ = some (.slice A5 T.status.length k5) ∧ w'.cell? ⟨w.heap.size, 6, none⟩ = some (.slice A6 T.ignorable.length k6) ∧ w'.cell? ⟨w.heap.size, 7, none⟩ = some (.slice A7 T.extensions.length k7) ∧ w'.cell? ⟨w.heap.size, 8, none⟩ = some (.slice A8 T.maps.length k8) ∧ w'.cell? ⟨w.heap.size, 9, none⟩ = some (.slice A9 T.decomps.length k9) ∧ w'.cell? ⟨w.heap.size, 10, none⟩ = some (.slice A10 T.excluded.length k10) ∧ w'.cell? ⟨w.heap.size, 11, none⟩ = some (.slice A11 T.prototypes.length k11) ∧ w'.cell? ad = some (.int .i64 a)) (go_keep)
                    ((go_at_call 116; refine (HFX.out _ (show Below w0.heap.size w0 (World.drew w3) from hb3.drew)).mono ?_; rintro e w4 ⟨ux, rfl, hux, b4⟩; obtain ⟨x0, x1, x2, x3, x4, x5, x6, x7, x8, x9, x10, x11⟩ := ((HB0.out.later (show Below w0.heap.size w0 (World.drew w3) from hb3.drew)).later b4).tab; have a0 := (b4.cell (p := ad) (by have := (below_next HBEL.out hb3).size; simp; omega)).trans a0'))
                  clear x0 x1 x2 x3 x4 x5 x6 x7 x8 x9 x10 x11 a0 a0'
                  have hb4 := below_next (show Below w0.heap.size w0 (World.drew w3) from hb3.drew) b4
                  have HUX := Lib.hid hux
                  clear b4 hux hb3
                  have HLN := Lib.hid HNN.out
                  simp only [Option.getD_some] at HUX
                  obtain ⟨adx, cx, hux, hax, _, _, hcx⟩ := HUX.out.some_ (expF_ne T.decomps T.decomps.length a)
                  subst hux
                  obtain ⟨_, z, hxz, hz⟩ := snoc_of HNN.out
                  have HZL : Hid (lastF T.decomps f a = z) := Lib.hid (by rw [← HXL.out]; unfold lastF; rw [hxz, getLastD_app (by simp)]; rfl)
                  have HZ := Lib.hid (hcx n z hz)
                  have hw2 : IntKind.i64.wrap (((expF T.decomps T.decomps.length a).length : Int) - 1) = n := by rw [IntWalk.i64_in _ (by have := HNN.out; have := (HEN.out a).2.2; omega)]; have := HNN.out; omega
                  have s0 : (0 : Int) ≤ (n : Int) := by omega
                  have s1 : (n : Int) < ((expF T.decomps T.decomps.length a).length : Int) := by have := HNN.out; omega
                  generalize (expF T.decomps T.decomps.length a).length = ln at *
                  clear hcx hxz hz HUX
                  by_cases hk0 : T.classOf b = 0
                  · have q5 : (T.classOf b == 0) = true := by rw [beq_iff_eq]; exact hk0
                    have HK := Lib.hid hk0
                    clear hk0
                    go_wp2_with fail
                    obtain ⟨x0, x1, x2, x3, x4, x5, x6, x7, x8, x9, x10, x11⟩ := (HB0.out.later hb4).tabG
                    have a0 := cell_regrown ((below_next HBEL.out hb4).cell (p := ad.add 0) (by rw [block_of_add]; exact had) |>.trans HA0.out)
                    have a0' : ∀ d os, (Go.Sort.grow (redrawn _ d) os).cell? ad = some (.int .i64 a) := a0
                    have b0 := cell_regrown ((below_next HBEL.out hb4).cell (p := { block := ad.block, off := ad.off + 1, spot := none }) had |>.trans HA1.out)
                    refine wp_region_quiet_below (by kernel_rfl) (by kernel_rfl) ?_
                    repeat (go_big_quiet_step ((go_at_call 18; exact quiet_t (fun W hW => HCLW.out _ W (below_next hb4 hW)))))
                    refine wpQuiet_nil ?_
                    rintro _ ⟨⟨dq, osq⟩, rfl⟩
                    clear x0 x1 x2 x3 x4 x5 x6 x7 x8 x9 x10 x11 a0 a0' b0
                    go_wp2_with fail
                    go_ret
                    rw [HRC3.out, decide_eq_true HK.out]
                    exact ⟨by simp, below_next HBEL.out (below_next hb4 (below_regrown _ dq osq))⟩
                  · have q5 : (T.classOf b == 0) = false := by rw [beq_eq_false_iff_ne]; exact hk0
                    have HK := Lib.hid hk0
                    clear hk0
                    go_wp2_with fail
                    obtain ⟨x0, x1, x2, x3, x4, x5, x6, x7, x8, x9, x10, x11⟩ := (HB0.out.later hb4).tabG
                    have a0 := cell_regrown ((below_next HBEL.out hb4).cell (p := ad.add 0) (by rw [block_of_add]; exact had) |>.trans HA0.out)
                    have a0' : ∀ d os, (Go.Sort.grow (redrawn _ d) os).cell? ad = some (.int .i64 a) := a0
                    have b0 := cell_regrown ((below_next HBEL.out hb4).cell (p := { block := ad.block, off := ad.off + 1, spot := none }) had |>.trans HA1.out)
                    have z0 := cell_regrown HZ.out
                    refine wp_region_quiet_below (by kernel_rfl) (by kernel_rfl) ?_
                    repeat (go_big_quiet_step ((go_at_call 18; exact quiet_t (fun W hW => HCLW.out _ W (below_next hb4 hW)))))
                    refine wpQuiet_nil ?_
                    rintro _ ⟨⟨dq, osq⟩, rfl⟩
                    clear x0 x1 x2 x3 x4 x5 x6 x7 x8 x9 x10 x11 a0 a0' b0
                    clear z0
                    go_wp2_with fail
                    go_ret
                    rw [HRC3.out, decide_eq_false HK.out, HZL.out]
                    exact ⟨by simp, below_next HBEL.out (below_next hb4 (below_regrown _ dq osq))⟩
            · have HBN := Lib.hid hbn
              have q3 : (0 : Int) < ((findL T.decomps b).length : Int) := by have := length_pos_ne hbn; omega
              have q4 : 0 < (findL T.decomps b).length := length_pos_ne hbn
              clear hbn
              go_wp2_with fail
              obtain ⟨x0, x1, x2, x3, x4, x5, x6, x7, x8, x9, x10, x11⟩ := (HB0.out.later (Below.refl _ _)).tabG
              have a0 := cell_regrown ((below_next HBEL.out (Below.refl _ _)).cell (p := ad.add 0) (by rw [block_of_add]; exact had) |>.trans HA0.out)
              have a0' : ∀ d os, (Go.Sort.grow (redrawn _ d) os).cell? ad = some (.int .i64 a) := a0
              have b0 := cell_regrown ((below_next HBEL.out (Below.refl _ _)).cell (p := { block := ad.block, off := ad.off + 1, spot := none }) had |>.trans HA1.out)
              refine wp_region_quiet_below (by kernel_rfl) (by kernel_rfl) ?_
              repeat (go_big_quiet_step (first | (go_at_call 117; exact quiet_t (fun W hW => HEXQ.out W hW)) | (go_at_call 18; exact quiet_t (fun W hW => HCLW.out _ W hW)) | (go_at_call 105; exact quiet_t (fun W hW => HFB.out W hW))))
              refine wpQuiet_nil ?_
              rintro _ ⟨⟨dq, osq⟩, rfl⟩
              clear x0 x1 x2 x3 x4 x5 x6 x7 x8 x9 x10 x11 a0 a0' b0
              go_wp2_with fail
              go_ret
              rw [HRC.out, decide_eq_false HBN.out]
              exact ⟨by simp, below_next HBEL.out (below_regrown _ dq osq)⟩
          · have q2 : (T.classOf a != 0) = true := by rw [bne_iff_ne]; exact ha0
            have HAC := Lib.hid ha0
            clear ha0
            go_wp2_with fail
            obtain ⟨x0, x1, x2, x3, x4, x5, x6, x7, x8, x9, x10, x11⟩ := (HB0.out.later (Below.refl _ _)).tabG
            have a0 := cell_regrown ((below_next HBEL.out (Below.refl _ _)).cell (p := ad.add 0) (by rw [block_of_add]; exact had) |>.trans HA0.out)
            have a0' : ∀ d os, (Go.Sort.grow (redrawn _ d) os).cell? ad = some (.int .i64 a) := a0
            have b0 := cell_regrown ((below_next HBEL.out (Below.refl _ _)).cell (p := { block := ad.block, off := ad.off + 1, spot := none }) had |>.trans HA1.out)
            refine wp_region_quiet_below (by kernel_rfl) (by kernel_rfl) ?_
            repeat (go_big_quiet_step (first | (go_at_call 117; exact quiet_t (fun W hW => HEXQ.out W hW)) | (go_at_call 18; exact quiet_t (fun W hW => HCLW.out _ W hW)) | (go_at_call 105; exact quiet_t (fun W hW => HFB.out W hW))))
            refine wpQuiet_nil ?_
            rintro _ ⟨⟨dq, osq⟩, rfl⟩
            clear x0 x1 x2 x3 x4 x5 x6 x7 x8 x9 x10 x11 a0 a0' b0
            go_wp2_with fail
            go_ret
            rw [HRC.out, decide_eq_false HAC.out]
            exact ⟨by simp, below_next HBEL.out (below_regrown _ dq osq)⟩
        · have q1 : (T.classOf c != 0) = true := by rw [bne_iff_ne]; exact hc0
          have HC0 := Lib.hid hc0
          clear hc0
          go_wp2_with fail
          obtain ⟨x0, x1, x2, x3, x4, x5, x6, x7, x8, x9, x10, x11⟩ := (HB0.out.later (Below.refl _ _)).tabG
          have a0 := cell_regrown ((below_next HBEL.out (Below.refl _ _)).cell (p := ad.add 0) (by rw [block_of_add]; exact had) |>.trans HA0.out)
          have a0' : ∀ d os, (Go.Sort.grow (redrawn _ d) os).cell? ad = some (.int .i64 a) := a0
          have b0 := cell_regrown ((below_next HBEL.out (Below.refl _ _)).cell (p := { block := ad.block, off := ad.off + 1, spot := none }) had |>.trans HA1.out)
          refine wp_region_quiet_below (by kernel_rfl) (by kernel_rfl) ?_
          repeat (go_big_quiet_step (first | (go_at_call 117; exact quiet_t (fun W hW => HEXQ.out W hW)) | (go_at_call 18; exact quiet_t (fun W hW => HCLW.out _ W hW)) | (go_at_call 105; exact quiet_t (fun W hW => HFB.out W hW))))
          refine wpQuiet_nil ?_
          rintro _ ⟨⟨dq, osq⟩, rfl⟩
          clear x0 x1 x2 x3 x4 x5 x6 x7 x8 x9 x10 x11 a0 a0' b0
          go_wp2_with fail
          go_ret
          rw [HRC.out, decide_eq_false HC0.out]
          exact ⟨by simp, below_next HBEL.out (below_regrown _ dq osq)⟩
      · have HE := Lib.hid hex
        have HEXQ := Lib.hid (fun W (h : Below w0.heap.size w0 W) => HEXW.out c W h)
        rw [hex] at HEXQ
        clear hex
        go_wp2_with fail
        obtain ⟨x0, x1, x2, x3, x4, x5, x6, x7, x8, x9, x10, x11⟩ := (HB0.out.later (Below.refl _ _)).tabG
        have a0 := cell_regrown ((below_next HBEL.out (Below.refl _ _)).cell (p := ad.add 0) (by rw [block_of_add]; exact had) |>.trans HA0.out)
        have a0' : ∀ d os, (Go.Sort.grow (redrawn _ d) os).cell? ad = some (.int .i64 a) := a0
        have b0 := cell_regrown ((below_next HBEL.out (Below.refl _ _)).cell (p := { block := ad.block, off := ad.off + 1, spot := none }) had |>.trans HA1.out)
        refine wp_region_quiet_below (by kernel_rfl) (by kernel_rfl) ?_
        repeat (go_big_quiet_step (first | (go_at_call 117; exact quiet_t (fun W hW => HEXQ.out W hW)) | (go_at_call 18; exact quiet_t (fun W hW => HCLW.out _ W hW)) | (go_at_call 105; exact quiet_t (fun W hW => HFB.out W hW))))
        refine wpQuiet_nil ?_
        rintro _ ⟨⟨dq, osq⟩, rfl⟩
        clear x0 x1 x2 x3 x4 x5 x6 x7 x8 x9 x10 x11 a0 a0' b0
        go_wp2_with fail
        go_ret
        rw [HRC.out, HE.out]
        exact ⟨by simp, below_next HBEL.out (below_regrown _ dq osq)⟩
    · have hcm := comp_len (T := T) (f := f + 1) rfl hl
      rw [hcm]
      have p1 : (((findL T.decomps c).length : Int) != 2) = true := by rw [bne_iff_ne]; omega
      clear hl hcm
      go_enter Tryd.func106, Tryd.ntmps106
      go_wp2_with fail
      refine (HF.out _ ((Below.refl _ _).alloc (Nat.le_refl _) _)).mono ?_
      rintro e w0 ⟨rfl, b0⟩
      have HB0 := Lib.hid (HBB.out.later b0)
      have hbel := below_next ((Below.refl w.heap.size w).alloc (Nat.le_refl _) _) b0
      clear b0 HBB
      go_wp2_with fail
      obtain ⟨x0, x1, x2, x3, x4, x5, x6, x7, x8, x9, x10, x11⟩ := (HB0.out.later (Below.refl _ _)).tabG
      refine wp_region_quiet_below (by kernel_rfl) (by kernel_rfl) ?_
      repeat (go_big_quiet_step (fail))
      refine wpQuiet_nil ?_
      rintro _ ⟨⟨dq, osq⟩, rfl⟩
      clear x0 x1 x2 x3 x4 x5 x6 x7 x8 x9 x10 x11
      go_wp2_with fail
      go_ret
      exact ⟨rfl, below_next hbel (below_regrown _ dq osq)⟩
end Go.Proofs.YtneinkpfhkojgaaDoor
/-
  A map whose keys are pairs of integers and whose elements are true: looking up and adding.
-/
namespace Go.Proofs.YtneinkpfhkojgaaDoor
open Go.RowKit Go.ChangeMaps

def pairV (p : Int × Int) : Value := .agg #[.int .i64 p.1, .int .i64 p.2]
section
variable {P : Program} {K E : TypeId} {i : TypeInfo}
theorem run_equal_pair (hK : P.underlying K = some (.array 2 E)) (hE : P.underlying E = some (.int .i64)) (hi : P.info? E = some i) (hp : P.plainKey E = true) (hc : P.cellsOf E = 1) (w : World) (p q : Int × Int) :
    (Op.equal K (pairV p) (pairV q)).run P w = .ok (decide (p = q)) w := by
  have e1 : ∀ (d : Nat) (a b : Int) (w : World), (Op.equalIn (d + 1) E (.int .i64 a) (.int .i64 b)).run P w = .ok (a == b) w := fun d a b w => by
    simp [Op.equalIn, run_underlying hE]
  show (Op.equalIn (9999 + 1) K (.agg #[.int .i64 p.1, .int .i64 p.2]) (.agg #[.int .i64 q.1, .int .i64 q.2])).run P w = _
  rw [run_equalIn_array w 9999 _ _ hK hi, hc]
  have p0 : ∀ (w : World) (a b : Int), (part E #[.int .i64 a, .int .i64 b] 0).run P w = .ok (.int .i64 a) w := fun w a b => run_part_plain w hp rfl
  have p1 : ∀ (w : World) (a b : Int), (part E #[.int .i64 a, .int .i64 b] 1).run P w = .ok (.int .i64 b) w := fun w a b => run_part_plain w hp rfl
  have hr : List.range 2 = [0, 1] := rfl
  rw [hr]
  simp only [Op.eqItems, Sem.run_bind, Nat.zero_mul, Nat.one_mul, p0, Result.andThen_ok, e1 9998]
  obtain ⟨a, b⟩ := p
  obtain ⟨c, d⟩ := q
  simp only [Prod.mk.injEq]
  by_cases h1 : a = c
  · have hb1 : (a == c) = true := by rw [beq_iff_eq]; exact h1
    rw [hb1]
    by_cases h2 : b = d
    · have hb2 : (b == d) = true := by rw [beq_iff_eq]; exact h2
      subst h2
      have e2 : (Op.equalIn 9999 E (.int .i64 b) (.int .i64 b)).run P w = .ok (b == b) w := e1 9998 b b w
      rw [decide_eq_true ⟨h1, rfl⟩]
      simp [p1, e2]
    · have hb2 : (b == d) = false := by rw [beq_eq_false_iff_ne]; exact h2
      have e2 : (Op.equalIn 9999 E (.int .i64 b) (.int .i64 d)).run P w = .ok (b == d) w := e1 9998 b d w
      rw [decide_eq_false (fun h => h2 h.2)]
      simp [p1, e2, h2]
  · have hb1 : (a == c) = false := by rw [beq_eq_false_iff_ne]; exact h1
    rw [hb1, decide_eq_false (fun h => h1 h.1)]
    simp
theorem run_checkKey_pair (hK : P.underlying K = some (.array 2 E)) (hE : P.underlying E = some (.int .i64)) (hi : P.info? E = some i) (hp : P.plainKey E = true) (hc : P.cellsOf E = 1) (e : Bool) (w : World) (p : Int × Int) :
    (Instr.checkKey e 10000 K (pairV p)).run P w = .ok () w := by
  have e1 : ∀ (d : Nat) (a : Int) (w : World), (Instr.checkKey e (d + 1) E (.int .i64 a)).run P w = .ok () w := fun d a w => by
    simp [Instr.checkKey, run_underlying hE]
  have p0 : ∀ (w : World) (a b : Int), (part E #[.int .i64 a, .int .i64 b] 0).run P w = .ok (.int .i64 a) w := fun w a b => run_part_plain w hp rfl
  have p1 : ∀ (w : World) (a b : Int), (part E #[.int .i64 a, .int .i64 b] 1).run P w = .ok (.int .i64 b) w := fun w a b => run_part_plain w hp rfl
  have hr : List.range' 0 2 = [0, 1] := rfl
  show (Instr.checkKey e (9999 + 1) K (.agg #[.int .i64 p.1, .int .i64 p.2])).run P w = _
  unfold Instr.checkKey
  simp only [Sem.run_bind, run_underlying hK, Result.andThen_ok]
  simp only [Std.Legacy.Range.forIn_eq_forIn_range', Std.Legacy.Range.size, Nat.sub_zero, Nat.add_one_sub_one, Nat.div_one, hr, List.forIn_cons, List.forIn_nil, Sem.run_bind, run_sizeOf w hi, hc, Result.andThen_ok, Nat.zero_mul, Nat.one_mul, p0, p1, e1 9998, Sem.run_pure]

theorem run_findAsking (hK : P.underlying K = some (.array 2 E)) (hE : P.underlying E = some (.int .i64)) (hi : P.info? E = some i) (hp : P.plainKey E = true) (hc : P.cellsOf E = 1) (w : World) (p : Int × Int) : ∀ (es : List MapEntry) (qs : List (Int × Int)) (n : Nat), es.map (·.key) = qs.map pairV → (∀ e ∈ es, e.val = .bool true) →
    (p ∉ qs → (Instr.findAsking K (pairV p) es n).run P w = .ok none w) ∧ (p ∈ qs → ∃ j, (Instr.findAsking K (pairV p) es n).run P w = .ok (some (j, .bool true)) w) := by
  intro es
  induction es with
  | nil =>
    intro qs n h _
    obtain rfl : qs = [] := by cases qs with
      | nil => rfl
      | cons a r => cases h
    exact ⟨fun _ => rfl, fun h => by cases h⟩
  | cons e es ih =>
    intro qs n h hv
    cases qs with
    | nil => cases h
    | cons q qs =>
      simp only [List.map_cons, List.cons.injEq] at h
      obtain ⟨hk, hr⟩ := h
      obtain ⟨ih1, ih2⟩ := ih qs (n + 1) hr (fun x hx => hv x (List.mem_cons_of_mem _ hx))
      have he := run_equal_pair hK hE hi hp hc w p q
      by_cases hpq : p = q
      · refine ⟨fun hn => absurd (by rw [hpq]; exact List.mem_cons_self) hn, fun _ => ⟨n, ?_⟩⟩
        unfold Instr.findAsking
        rw [hk]
        simp only [Sem.run_bind, he, Result.andThen_ok, decide_eq_true hpq, if_true, hv e List.mem_cons_self, Sem.run_pure]
      · have hstep : (Instr.findAsking K (pairV p) (e :: es) n).run P w = (Instr.findAsking K (pairV p) es (n + 1)).run P w := by
          rw [Instr.findAsking.eq_def]
          simp only [hk, Sem.run_bind, he, Result.andThen_ok, decide_eq_false hpq, Bool.false_eq_true, if_false]
        rw [hstep]
        exact ⟨fun hn => ih1 (fun h => hn (List.mem_cons_of_mem _ h)), fun hm => ih2 ((List.mem_cons.1 hm).resolve_left hpq)⟩
theorem run_findKey_pair (hK : P.underlying K = some (.array 2 E)) (hE : P.underlying E = some (.int .i64)) (hi : P.info? E = some i) (hp : P.plainKey E = true) (hc : P.cellsOf E = 1) (w : World) (p : Int × Int) (es : List MapEntry) (qs : List (Int × Int)) (h : es.map (·.key) = qs.map pairV) (hv : ∀ e ∈ es, e.val = .bool true) :
    (p ∉ qs → (Instr.findKey K (pairV p) es).run P w = .ok none w) ∧ (p ∈ qs → ∃ j, (Instr.findKey K (pairV p) es).run P w = .ok (some (j, .bool true)) w) := by
  have hf := run_findAsking hK hE hi hp hc w p es qs 0 h hv
  cases es with
  | nil =>
    obtain rfl : qs = [] := by cases qs with
      | nil => rfl
      | cons a r => cases h
    refine ⟨fun _ => ?_, fun h => by cases h⟩
    simp [Instr.findKey, run_underlying hK, Instr.findNow]
  | cons e es =>
    have hn : Instr.findNow (.array 2 E) (pairV p) (e :: es) 0 = none := by
      unfold Instr.findNow Instr.sameNow
      rfl
    have he : (Instr.findKey K (pairV p) (e :: es)).run P w = (Instr.findAsking K (pairV p) (e :: es) 0).run P w := by
      simp only [Instr.findKey, Sem.run_bind, run_underlying hK, Result.andThen_ok, hn]
    rw [he]
    exact hf

/-- Block b is a map whose keys are the pairs qs, in the order in which they came, and whose elements are true. -/
def OwnsP (w : World) (b : Nat) (qs : List (Int × Int)) : Prop := ∃ es clock, w.heap[b]? = some (.map es clock) ∧ es.toList.map (·.key) = qs.map pairV ∧ ∀ e ∈ es.toList, e.val = .bool true
theorem OwnsP.lt {w : World} {b : Nat} {qs : List (Int × Int)} (h : OwnsP w b qs) : b < w.heap.size := by
  obtain ⟨es, c, h, _⟩ := h; exact (Array.getElem?_eq_some_iff.1 h).1
theorem OwnsP.later {w w' : World} {b : Nat} {qs : List (Int × Int)} (h : OwnsP w b qs) (hb : Below w.heap.size w w') : OwnsP w' b qs := by
  have hl := h.lt
  obtain ⟨es, c, h, r⟩ := h; exact ⟨es, c, (hb.block b hl).trans h, r⟩
theorem OwnsP.new (w : World) : OwnsP (w.alloc (.map #[] 0)) w.heap.size [] := ⟨#[], 0, heap_alloc_new w _, rfl, by simp⟩
theorem OwnsP.lookup {M : TypeId} {w : World} {b : Nat} {qs : List (Int × Int)} (h : OwnsP w b qs) {B : TypeId} (hM : P.underlying M = some (.map K B)) (hz : ∀ w, (zeroValue B).run P w = .ok (.bool false) w)
    (hK : P.underlying K = some (.array 2 E)) (hE : P.underlying E = some (.int .i64)) (hi : P.info? E = some i) (hp : P.plainKey E = true) (hc : P.cellsOf E = 1) (p : Int × Int) :
    (Instr.lookup M (.map (some b)) (pairV p) false).run P w = .ok (.bool (decide (p ∈ qs))) w := by
  obtain ⟨es, clock, hb, hk, hv⟩ := h
  obtain ⟨h1, h2⟩ := run_findKey_pair hK hE hi hp hc w p es.toList qs hk hv
  by_cases hm : p ∈ qs
  · obtain ⟨j, hj⟩ := h2 hm
    simp [Instr.lookup, run_underlying hM, MapKept.run_getObj_map hb, run_checkKey_pair hK hE hi hp hc, hj, Result.andThen, hm]
  · simp [Instr.lookup, run_underlying hM, MapKept.run_getObj_map hb, run_checkKey_pair hK hE hi hp hc, h1 hm, Result.andThen, hm, hz]
theorem OwnsP.update {M : TypeId} {w : World} {b : Nat} {qs : List (Int × Int)} (h : OwnsP w b qs) {B : TypeId} (hM : P.underlying M = some (.map K B))
    (hK : P.underlying K = some (.array 2 E)) (hE : P.underlying E = some (.int .i64)) (hi : P.info? E = some i) (hp : P.plainKey E = true) (hc : P.cellsOf E = 1) (p : Int × Int) (hm : p ∉ qs) :
    ∃ w', (Instr.mapUpdate M (.map (some b)) (pairV p) (.bool true)).run P w = .ok () w' ∧ OwnsP w' b (qs ++ [p]) ∧ w.grownBy w' (some b) := by
  obtain ⟨es, clock, hb, hk, hv⟩ := h
  obtain ⟨h1, _⟩ := run_findKey_pair hK hE hi hp hc w p es.toList qs hk hv
  have hl := (Array.getElem?_eq_some_iff.1 hb).1
  refine ⟨setBlock w b (.map (es.push ⟨pairV p, .bool true, clock⟩) (clock + 1)), ?_, ⟨es.push ⟨pairV p, .bool true, clock⟩, clock + 1, ?_, ?_, ?_⟩, ?_⟩
  · simp [Instr.mapUpdate, run_underlying hM, MapKept.run_getObj_map hb, run_checkKey_pair hK hE hi hp hc, h1 hm, MapKept.run_setObj_map _ hb, Result.andThen, setBlock]
  · simp [setBlock, hl]
  · simp [hk]
  · intro e he
    simp only [Array.toList_push, List.mem_append, List.mem_singleton] at he
    rcases he with he | rfl
    · exact hv e he
    · rfl
  · refine ⟨rfl, rfl, rfl, by simp [setBlock], fun k hk hne => ?_⟩
    have : k ≠ b := fun e => hne (by rw [e])
    simp [setBlock, Ne.symm this]
end
end Go.Proofs.YtneinkpfhkojgaaDoor
/-
  The walk through table.unique: rule 8.
-/
namespace Go.Proofs.YtneinkpfhkojgaaDoor
open Go.RowKit ND

/-- The sequences of the composable ones among the first j rows. -/
def pairsTo (T : Tab) (j : Nat) : List (List Int) := ((T.decomps.take j).filter (fun m => T.comp m.1)).map (·.2)
theorem pairsTo_sub (T : Tab) (j : Nat) : (pairsTo T j).Sublist T.pairs := ((List.take_sublist j _).filter _).map _
theorem pairsTo_all (T : Tab) : pairsTo T T.decomps.length = T.pairs := by unfold pairsTo Tab.pairs; rw [List.take_length]
theorem pairsTo_no {T : Tab} {j : Nat} {m : Mp} (hx : T.decomps[j]? = some m) (h : T.comp m.1 = false) : pairsTo T (j + 1) = pairsTo T j := by
  unfold pairsTo; rw [take_snoc' hx, List.filter_append, List.map_append]; simp [h]
theorem pairsTo_yes {T : Tab} {j : Nat} {m : Mp} (hx : T.decomps[j]? = some m) (h : T.comp m.1 = true) : pairsTo T (j + 1) = pairsTo T j ++ [m.2] := by
  unfold pairsTo; rw [take_snoc' hx, List.filter_append, List.map_append]; simp [h]
def twoL (q : Int × Int) : List Int := [q.1, q.2]
theorem comp_form {T : Tab} {c : Int} (h : T.comp c = true) : ∃ a b, findL T.decomps c = [a, b] := by
  unfold Tab.comp at h
  cases hl : T.decomps.length with
  | zero => rw [hl] at h; cases h
  | succ f =>
    rw [hl, Tab.compF] at h
    split at h
    · rename_i a b he; exact ⟨a, b, he⟩
    · cases h

set_option maxRecDepth 100000 in
set_option maxHeartbeats 4000000 in
theorem unique_any (t : Tv) (T : Tab) (hsh : Shape T) (hne : ∀ m ∈ T.decomps, m.2 ≠ [] ∧ m.2.length ≤ 1000) (hen : Ends T) (w : World) (ht : TabR w w.heap.size t T) :
    Calls Tryd.prog 75 #[t.val] w fun e w' => e = .returned (.bool T.rule8) ∧ Below w.heap.size w w' := by
  obtain ⟨tc, htc⟩ : ∃ tc, tc = t.cells := ⟨_, rfl⟩
  have hs := keysB_sort hsh.kd
  have HCO := Lib.hid (fun c tg sv W (h : TabR W W.heap.size t T) h2 h3 => composable_any t T hsh hne T.decomps.length c tg sv W h h2 h3 (hen c).1)
  have HT := Lib.hid (fun W (h : Below w.heap.size w W) => ht.later h)
  have hmp := ht.r9
  obtain ⟨A0, A1, A2, A3, A4, A5, A6, A7, A8, A9, A10, A11, k0, k1, k2, k3, k4, k5, k6, k7, k8, k9, k10, k11, rfl⟩ := ht.shape
  have HTC := Lib.hid htc
  obtain ⟨B, cq, hB, _, _, _, hcell2⟩ := hmp
  cases hB
  have HM := Lib.hid hcell2
  have HFK := Lib.hid (fun i m (h : T.decomps[i]? = some m) => (findL_at (fun k a hk ha => hs k i a m hk ha h) h rfl : findL T.decomps m.1 = m.2))
  have hlen := hsh.ld
  have hmm := @run_makeMap Tryd.prog
  obtain ⟨i0, hi, _, _, _⟩ := info_parts Tryd.infoInt'
  clear ht htc hne hcell2 hs hsh hen
  obtain ⟨R, hR⟩ : ∃ R, R = T.rule8 := ⟨_, rfl⟩
  rw [← hR]
  have HR : Hid (R = decide T.pairs.Nodup) := Lib.hid hR
  clear hR
  go_enter Tryd.func75, Tryd.ntmps75
  go_wp2_with fail
  clear hmm
  go_loopw [11] (fun i wr => ∃ (j : Nat) (qs : List (Int × Int)), j ≤ T.decomps.length ∧ i = .int .i64 j ∧ Hid (qs.map twoL = pairsTo T j ∧ qs.Nodup) ∧ Below w.heap.size w wr ∧ Hid (Blk wr w.heap.size 26 tc) ∧ Hid (OwnsP wr (w.heap.size + 1) qs)) (fun i _ => T.decomps.length - (intOf i).toNat)
  case atStart =>
    refine ⟨0, [], by omega, rfl, Lib.hid ⟨rfl, .nil⟩, ((Below.refl _ _).alloc (Nat.le_refl _) _).alloc (by simp) _, Lib.hid (by rw [HTC.out]; exact (Blk.new _ _ _).alloc _), Lib.hid ?_⟩
    have h := OwnsP.new (w.alloc (.cells tc 26))
    rw [show (w.alloc (.cells tc 26)).heap.size = w.heap.size + 1 by simp, HTC.out] at h
    exact h
  case round =>
    obtain ⟨j, qs, hj, rfl, HS, hbel, HB, HO⟩ := hrel
    by_cases hjl : j < T.decomps.length
    · obtain ⟨⟨cc, tg⟩, hxj, _⟩ := get_el hjl
      obtain ⟨aj, sv, rfl, ha, d0, d1, hto⟩ := HM.out j _ hxj
      simp only at d0 d1 hto
      have hto' := (hto.below hbel).more hbel.size
      obtain ⟨A', c', rfl, he1, he2, _, hcl⟩ := id hto
      obtain ⟨e0, e1⟩ := map_cells hbel ha d0 d1
      have HX := Lib.hid hxj
      have hfk := HFK.out j _ hxj
      simp only at hfk
      have hbelw := hbel.alloc hbel.size (.cells #[.int .i64 cc, .slice A' tg.length c'] 46)
      have HB' := Lib.hid (HB.out.alloc (.cells #[.int .i64 cc, .slice A' tg.length c'] 46))
      obtain ⟨x0, x1, x2, x3, x4, x5, x6, x7, x8, x9, x10, x11⟩ := (show Blk _ _ _ #[_, _, _, _, _, _, _, _, _, _, _, _] from by have h := HB'.out; rw [HTC.out] at h; exact h).tab
      have HCA := Lib.hid (HCO.out cc tg _ _ (HT.out _ hbelw) (hto'.later ((Below.refl _ _).alloc (Nat.le_refl _) (.cells #[.int .i64 cc, .slice A' tg.length c'] 46))) hfk)
      have HCL := Lib.hid hcl
      have HFD := Lib.hid hfk
      have hOb := HO.out.lt
      clear d0 d1 hxj hto hto' hcl hfk HB
      have r0 : (0 : Int) ≤ (j : Int) := by omega
      have r1 : (j : Int) < (T.decomps.length : Int) := by omega
      cases hco : T.compF T.decomps.length cc
      · rw [hco] at HCA
        have HN : Hid (qs.map twoL = pairsTo T (j + 1) ∧ qs.Nodup) := Lib.hid ⟨by rw [pairsTo_no HX.out hco]; exact HS.out.1, HS.out.2⟩
        have HO' := Lib.hid (HO.out.later ((Below.refl _ _).alloc (Nat.le_refl _) (.cells #[.int .i64 cc, .slice A' tg.length c'] 46)))
        clear hco
        go_wp2_with fail
        refine HCA.out.mono ?_
        rintro e w2 ⟨rfl, b2⟩
        have HB2 := Lib.hid (HB'.out.later b2)
        have HO2 := Lib.hid (HO'.out.later b2)
        clear x0 x1 x2 x3 x4 x5 x6 x7 x8 x9 x10 x11 e0 e1 HB'
        go_wp2_with fail
        go_roundw
        case rel => exact ⟨j + 1, qs, by omega, by go_num, HN, below_next hbelw b2, HB2, HO2⟩
        case measure => simp [intOf]; omega
      · rw [hco] at HCA
        have HO' := Lib.hid (HO.out.later ((Below.refl _ _).alloc (Nat.le_refl _) (.cells #[.int .i64 cc, .slice A' tg.length c'] 46)))
        obtain ⟨a, b, hab⟩ := comp_form (T := T) (c := cc) hco
        rw [HFD.out] at hab
        obtain ⟨ad, hA', had, h0⟩ := HCL.out 0 a (by rw [hab]; rfl)
        subst hA'
        obtain ⟨_, hA', _, h1⟩ := HCL.out 1 b (by rw [hab]; rfl)
        cases hA'
        have hl2 : tg.length = 2 := by rw [hab]; rfl
        have l0 : (0 : Int) < (tg.length : Int) := by omega
        have l1 : (1 : Int) < (tg.length : Int) := by omega
        have l0' : 0 < tg.length := by omega
        have l1' : 1 < tg.length := by omega
        have HAB := Lib.hid hab
        have HNX := Lib.hid (pairsTo_yes HX.out hco)
        have HD := Lib.hid (And.intro h0 (show w.cell? { block := ad.block, off := ad.off + 1, spot := none } = some (.int .i64 b) from h1))
        clear hco HCL h0 h1 hab hl2
        go_wp2_with fail
        refine HCA.out.mono ?_
        rintro e w2 ⟨rfl, b2⟩
        have hbel2 := below_next hbelw b2
        have HB2 := Lib.hid (HB'.out.later b2)
        have HO2 := Lib.hid (HO'.out.later b2)
        have m1 := ((Blk.new wr 46 #[.int .i64 cc, .slice (some ad) tg.length c']).later b2).at_ (i := 1) (u := .slice (some ad) tg.length c') rfl
        have a0 : w2.cell? ad = some (.int .i64 a) := (hbel2.cell (p := ad) had).trans HD.out.1
        have b0 := (hbel2.cell (p := { block := ad.block, off := ad.off + 1, spot := none }) had).trans HD.out.2
        clear x0 x1 x2 x3 x4 x5 x6 x7 x8 x9 x10 x11 e0 e1 HB'
        go_wp2_with fail
        have := World.new_ne w2 _ m1
        have := World.new_ne w2 _ a0
        have := World.new_ne w2 _ b0
        go_region_held3 (fun w' => w'.cell? ⟨wr.heap.size, 1, none⟩ = some (.slice (some ad) tg.length c') ∧ w'.cell? ad = some (.int .i64 a) ∧ w'.cell? { block := ad.block, off := ad.off + 1, spot := none } = some (.int .i64 b)) (go_keep) (fail)
        clear m1 a0 b0
        have hO6 : OwnsP (w2.alloc (.cells #[.int .i64 a, .int .i64 b] 99)).drew (w.heap.size + 1) qs := HO2.out.later ((Below.refl w2.heap.size w2).alloc (Nat.le_refl _) (.cells #[.int .i64 a, .int .i64 b] 99)).drew
        have hB6 : Blk (w2.alloc (.cells #[.int .i64 a, .int .i64 b] 99)).drew w.heap.size 26 tc := HB2.out.alloc _
        have hbel6 : Below w.heap.size w (w2.alloc (.cells #[.int .i64 a, .int .i64 b] 99)).drew := (hbel2.alloc hbel2.size _).drew
        have hlk : (Instr.lookup 97 (.map (some (w.heap.size + 1))) (.agg #[.int .i64 a, .int .i64 b]) false).run Tryd.prog (w2.alloc (.cells #[.int .i64 a, .int .i64 b] 99)).drew = .ok (.bool (decide ((a, b) ∈ qs))) (w2.alloc (.cells #[.int .i64 a, .int .i64 b] 99)).drew :=
          hO6.lookup Tryd.underlying97 (fun _ => by kernel_rfl) Tryd.underlying99 Tryd.underlying3 hi (by kernel_rfl) (by kernel_rfl) (a, b)
        have HO6 := Lib.hid hO6
        have HB6 := Lib.hid hB6
        have HT2 : Hid (twoL (a, b) = tg) := Lib.hid HAB.out.symm
        clear hO6 hB6
        by_cases hm : (a, b) ∈ qs
        · have HRF : Hid (R = false) := Lib.hid (by
            rw [HR.out, decide_eq_false_iff_not]
            intro hn
            have h1 := hn.sublist (pairsTo_sub T (j + 1))
            rw [HNX.out, ← HS.out.1, ← HT2.out, List.nodup_append] at h1
            exact h1.2.2 (twoL (a, b)) (List.mem_map_of_mem hm) (twoL (a, b)) (List.mem_singleton.2 rfl) rfl)
          rw [decide_eq_true hm] at hlk
          clear hm
          go_wp2_with fail
          go_ret
          rw [HRF.out]
          exact ⟨rfl, hbel6⟩
        · rw [decide_eq_false hm] at hlk
          obtain ⟨w7, hup, hO7, hg7⟩ := HO6.out.update Tryd.underlying97 Tryd.underlying99 Tryd.underlying3 hi (by kernel_rfl) (by kernel_rfl) (a, b) hm
          have hup' : (Instr.mapUpdate 97 (.map (some (w.heap.size + 1))) (.agg #[.int .i64 a, .int .i64 b]) (.bool true)).run Tryd.prog (w2.alloc (.cells #[.int .i64 a, .int .i64 b] 99)).drew = .ok () w7 := hup
          have HN : Hid ((qs ++ [(a, b)]).map twoL = pairsTo T (j + 1) ∧ (qs ++ [(a, b)]).Nodup) := Lib.hid ⟨by rw [HNX.out, List.map_append, HS.out.1, ← HT2.out]; rfl, by
            rw [List.nodup_append]
            exact ⟨HS.out.2, by simp, fun x hx y hy e => by rw [List.mem_singleton] at hy; subst hy; subst e; exact hm hx⟩⟩
          have HB7 := Lib.hid (HB6.out.grown hg7 (by intro e; injection e with e; omega))
          have hbel7 : Below w.heap.size w w7 := hbel6.grown hg7 hbel6.size (fun k hk => by cases hk; omega)
          have HO7 := Lib.hid hO7
          clear hm hup hg7 hO7
          go_wp2_with fail
          go_roundw
          case rel => exact ⟨j + 1, qs ++ [(a, b)], by omega, by go_num, HN, hbel7, HB7, HO7⟩
          case measure => simp [intOf]; omega
    · obtain rfl : j = T.decomps.length := by omega
      have HRT : Hid (R = true) := Lib.hid (by
        rw [HR.out, decide_eq_true_iff, ← pairsTo_all, ← HS.out.1]
        exact List.Pairwise.map _ (fun p q (h : p ≠ q) e => h (by obtain ⟨p1, p2⟩ := p; obtain ⟨q1, q2⟩ := q; unfold twoL at e; simp at e; rw [e.1, e.2])) HS.out.2)
      go_wp2_with fail
      go_ret
      rw [HRT.out]
      exact ⟨rfl, hbel⟩
end Go.Proofs.YtneinkpfhkojgaaDoor
/-
  The walk through one property of table.
-/
namespace Go.Proofs.YtneinkpfhkojgaaDoor
open Go.RowKit ND

set_option maxRecDepth 100000 in
set_option maxHeartbeats 400000 in
theorem ignorable_any (t : Tv) (T : Tab) (c lo hi : Int) (w : World) (ht : TabR w w.heap.size t T) (hs : okS lo hi (-1) T.ignorable = true) (hlen : T.ignorable.length ≤ 256) :
    Calls Tryd.prog 109 #[t.val, .int .i64 c] w fun e w' => e = .returned (.bool (T.ignB c)) ∧ Below w.heap.size w w' := by
  have HP := Lib.hid (fun W (h : Spans W W.heap.size t.c6 T.ignorable) => value_any t.c6 T.ignorable c lo hi W h hs hlen)
  have hr := ht.r6
  have HR := Lib.hid (fun o : Obj => hr.later ((Below.refl _ _).alloc (Nat.le_refl _) o))
  clear hr ht hs hlen
  go_enter Tryd.func109, Tryd.ntmps109
  go_wp2_with fail
  refine (HP.out _ (HR.out _)).mono ?_
  rintro e w1 ⟨rfl, b1⟩
  go_wp2_with fail
  go_ret
  exact ⟨rfl, below_next ((Below.refl _ _).alloc (Nat.le_refl _) _) b1⟩
end Go.Proofs.YtneinkpfhkojgaaDoor
/-
  The walks through table.outside and the reference's clean: a span contains no reserved code point.
-/
namespace Go.Proofs.YtneinkpfhkojgaaDoor
open Go.RowKit ND

set_option maxRecDepth 100000 in
set_option maxHeartbeats 400000 in
theorem outside_any (f t x : Int) (w : World) (hg : Glob w) :
    Calls Tryd.prog 89 #[.agg #[.int .i64 f, .int .i64 t, .int .i64 x]] w fun e w' => e = .returned (.bool (outB f t)) ∧ Below w.heap.size w w' := by
  obtain ⟨v, hv, A, c, rfl, _, _, _, hcell⟩ := hg
  have HC := Lib.hid hcell; clear hcell
  have hlen : blocksL.length = 6 := rfl
  rw [hlen] at hv
  clear hlen
  obtain ⟨R, hR⟩ : ∃ R, R = outB f t := ⟨_, rfl⟩
  rw [← hR]
  have HR : Hid (blocksL.all (fun b => apartB f t b.1 b.2.1) = R) := Lib.hid hR.symm
  clear hR
  have h0 : 0 < w.heap.size := World.block_lt_of_cell? _ _ hv
  have hv1 := fun o : Obj => (World.cell?_alloc_lt w o ⟨0, 0, none⟩ h0).trans hv
  have HV := Lib.hid hv
  clear hv
  go_enter Tryd.func89, Tryd.ntmps89
  go_wp2_with fail
  go_loopw [7] (fun i wr => ∃ k : Nat, k ≤ 6 ∧ i = .int .i64 k ∧ Hid ((blocksL.drop k).all (fun b => apartB f t b.1 b.2.1) = R) ∧ Below w.heap.size w wr ∧ Hid (Blk wr w.heap.size 44 #[.int .i64 f, .int .i64 t, .int .i64 x])) (fun i _ => 6 - (intOf i).toNat)
  case atStart => exact ⟨0, by omega, rfl, HR, (Below.refl _ _).alloc (Nat.le_refl _) _, Lib.hid (Blk.new _ _ _)⟩
  case round =>
    obtain ⟨k, hk, rfl, HS, hbel, HB⟩ := hrel
    clear hv1
    by_cases hlt : k < 6
    · obtain ⟨⟨lo, hi, y⟩, hxk, _⟩ := get_el (xs := blocksL) (k := k) hlt
      obtain ⟨ad, rfl, ha, d0, d1, d2⟩ := HC.out k _ hxk
      simp only at d0 d1 d2
      obtain ⟨e0, e1, e2⟩ := span_cells hbel ha d0 d1 d2
      have hb0 := HB.out.lt
      have g0 := fun o : Obj => (World.cell?_alloc_lt wr o ⟨w.heap.size, 0, none⟩ hb0).trans (HB.out.at_ (i := 0) (u := .int .i64 f) rfl)
      have g1 := fun o : Obj => (World.cell?_alloc_lt wr o ⟨w.heap.size, 1, none⟩ hb0).trans (HB.out.at_ (i := 1) (u := .int .i64 t) rfl)
      have HX := Lib.hid hxk
      have HB' := Lib.hid (HB.out.alloc (.cells #[.int .i64 lo, .int .i64 hi, .int .i64 y] 44))
      clear d0 d1 d2 hxk ha HB
      have k0 : (0 : Int) ≤ (k : Int) := by omega
      have k1 : (k : Int) < (6 : Int) := by omega
      rcases apart_ways f t lo hi with ⟨ho, q0⟩ | ⟨ho, q0, q1⟩ | ⟨ho, q0, q1⟩
      · have HN := Lib.hid (show (blocksL.drop (k + 1)).all (fun b => apartB f t b.1 b.2.1) = R by rw [← HS.out, drop_of_get HX.out, List.all_cons, ho, Bool.true_and])
        clear ho
        go_wp2_with fail
        go_roundw
        case rel => exact ⟨k + 1, by omega, by go_num, HN, hbel.alloc hbel.size _, HB'⟩
        case measure => simp [intOf]; omega
      · have HN := Lib.hid (show (blocksL.drop (k + 1)).all (fun b => apartB f t b.1 b.2.1) = R by rw [← HS.out, drop_of_get HX.out, List.all_cons, ho, Bool.true_and])
        clear ho
        go_wp2_with fail
        go_roundw
        case rel => exact ⟨k + 1, by omega, by go_num, HN, hbel.alloc hbel.size _, HB'⟩
        case measure => simp [intOf]; omega
      · have HN := Lib.hid (show R = false by rw [← HS.out, drop_of_get HX.out, List.all_cons, ho, Bool.false_and])
        clear ho
        go_wp2_with fail
        go_ret
        rw [HN.out]
        exact ⟨rfl, hbel.alloc hbel.size _⟩
    · have HN := Lib.hid (show R = true by rw [← HS.out, List.drop_eq_nil_of_le (by show 6 ≤ k; omega)]; rfl)
      go_wp2_with fail
      go_ret
      rw [HN.out]
      exact ⟨rfl, hbel⟩

set_option maxRecDepth 100000 in
set_option maxHeartbeats 1000000 in
theorem clean_any (f t x : Int) (w : World) :
    Calls Tryd.prog 113 #[.agg #[.int .i64 f, .int .i64 t, .int .i64 x]] w fun e w' => e = .returned (.bool (outB f t)) ∧ Below w.heap.size w w' := by
  obtain ⟨R, hR⟩ : ∃ R, R = outB f t := ⟨_, rfl⟩
  rw [← hR]
  have HR : Hid (refBlocks.all (fun b => apartB f t b.1 b.2) = R) := Lib.hid (by rw [outB_ref]; exact hR.symm)
  clear hR
  have i0 : ∀ w, (Instr.index 106 (.agg #[.int .i64 0, .int .i64 127, .int .i64 55296, .int .i64 57343, .int .i64 44032, .int .i64 55203, .int .i64 4352, .int .i64 4370, .int .i64 4449, .int .i64 4469, .int .i64 4520, .int .i64 4546]) (.int .i64 0)).run Tryd.prog w = .ok (.agg #[.int .i64 0, .int .i64 127]) w := fun _ => by kernel_rfl
  have i1 : ∀ w, (Instr.index 106 (.agg #[.int .i64 0, .int .i64 127, .int .i64 55296, .int .i64 57343, .int .i64 44032, .int .i64 55203, .int .i64 4352, .int .i64 4370, .int .i64 4449, .int .i64 4469, .int .i64 4520, .int .i64 4546]) (.int .i64 1)).run Tryd.prog w = .ok (.agg #[.int .i64 55296, .int .i64 57343]) w := fun _ => by kernel_rfl
  have i2 : ∀ w, (Instr.index 106 (.agg #[.int .i64 0, .int .i64 127, .int .i64 55296, .int .i64 57343, .int .i64 44032, .int .i64 55203, .int .i64 4352, .int .i64 4370, .int .i64 4449, .int .i64 4469, .int .i64 4520, .int .i64 4546]) (.int .i64 2)).run Tryd.prog w = .ok (.agg #[.int .i64 44032, .int .i64 55203]) w := fun _ => by kernel_rfl
  have i3 : ∀ w, (Instr.index 106 (.agg #[.int .i64 0, .int .i64 127, .int .i64 55296, .int .i64 57343, .int .i64 44032, .int .i64 55203, .int .i64 4352, .int .i64 4370, .int .i64 4449, .int .i64 4469, .int .i64 4520, .int .i64 4546]) (.int .i64 3)).run Tryd.prog w = .ok (.agg #[.int .i64 4352, .int .i64 4370]) w := fun _ => by kernel_rfl
  have i4 : ∀ w, (Instr.index 106 (.agg #[.int .i64 0, .int .i64 127, .int .i64 55296, .int .i64 57343, .int .i64 44032, .int .i64 55203, .int .i64 4352, .int .i64 4370, .int .i64 4449, .int .i64 4469, .int .i64 4520, .int .i64 4546]) (.int .i64 4)).run Tryd.prog w = .ok (.agg #[.int .i64 4449, .int .i64 4469]) w := fun _ => by kernel_rfl
  have i5 : ∀ w, (Instr.index 106 (.agg #[.int .i64 0, .int .i64 127, .int .i64 55296, .int .i64 57343, .int .i64 44032, .int .i64 55203, .int .i64 4352, .int .i64 4370, .int .i64 4449, .int .i64 4469, .int .i64 4520, .int .i64 4546]) (.int .i64 5)).run Tryd.prog w = .ok (.agg #[.int .i64 4520, .int .i64 4546]) w := fun _ => by kernel_rfl
  go_enter Tryd.func113, Tryd.ntmps113
  go_wp2_with fail
  go_loopw [12] (fun i wr => ∃ k : Nat, k ≤ 6 ∧ i = .int .i64 k ∧ Hid ((refBlocks.drop k).all (fun b => apartB f t b.1 b.2) = R) ∧ Below w.heap.size w wr ∧ Hid (Blk wr w.heap.size 44 #[.int .i64 f, .int .i64 t, .int .i64 x])) (fun i _ => 6 - (intOf i).toNat)
  case atStart => exact ⟨0, by omega, rfl, HR, (Below.refl _ _).alloc (Nat.le_refl _) _, Lib.hid (Blk.new _ _ _)⟩
  case round =>
    obtain ⟨k, hk, rfl, HS, hbel, HB⟩ := hrel
    by_cases hlt : k < 6
    · obtain ⟨⟨lo, hi⟩, hxk, _⟩ := get_el (xs := refBlocks) (k := k) hlt
      have hb0 := HB.out.lt
      have g0 := fun o : Obj => (World.cell?_alloc_lt wr o ⟨w.heap.size, 0, none⟩ hb0).trans (HB.out.at_ (i := 0) (u := .int .i64 f) rfl)
      have g1 := fun o : Obj => (World.cell?_alloc_lt wr o ⟨w.heap.size, 1, none⟩ hb0).trans (HB.out.at_ (i := 1) (u := .int .i64 t) rfl)
      have hidx : ∀ w, (Instr.index 106 (.agg #[.int .i64 0, .int .i64 127, .int .i64 55296, .int .i64 57343, .int .i64 44032, .int .i64 55203, .int .i64 4352, .int .i64 4370, .int .i64 4449, .int .i64 4469, .int .i64 4520, .int .i64 4546]) (.int .i64 k)).run Tryd.prog w = .ok (.agg #[.int .i64 lo, .int .i64 hi]) w := by
        have h6 : k = 0 ∨ k = 1 ∨ k = 2 ∨ k = 3 ∨ k = 4 ∨ k = 5 := by omega
        rcases h6 with rfl | rfl | rfl | rfl | rfl | rfl <;> cases hxk
        · exact i0
        · exact i1
        · exact i2
        · exact i3
        · exact i4
        · exact i5
      have HX := Lib.hid hxk
      have HB' := Lib.hid (HB.out.alloc (.cells #[.int .i64 lo, .int .i64 hi] 99))
      clear hxk HB
      have k0 : (0 : Int) ≤ (k : Int) := by omega
      have k1 : (k : Int) < (6 : Int) := by omega
      rcases apart_ways f t lo hi with ⟨ho, q0⟩ | ⟨ho, q0, q1⟩ | ⟨ho, q0, q1⟩
      · have HN := Lib.hid (show (refBlocks.drop (k + 1)).all (fun b => apartB f t b.1 b.2) = R by rw [← HS.out, drop_of_get HX.out, List.all_cons, ho, Bool.true_and])
        clear ho
        go_wp2_with fail
        go_roundw
        case rel => exact ⟨k + 1, by omega, by go_num, HN, hbel.alloc hbel.size _, HB'⟩
        case measure => simp [intOf]; omega
      · have HN := Lib.hid (show (refBlocks.drop (k + 1)).all (fun b => apartB f t b.1 b.2) = R by rw [← HS.out, drop_of_get HX.out, List.all_cons, ho, Bool.true_and])
        clear ho
        go_wp2_with fail
        go_roundw
        case rel => exact ⟨k + 1, by omega, by go_num, HN, hbel.alloc hbel.size _, HB'⟩
        case measure => simp [intOf]; omega
      · have HN := Lib.hid (show R = false by rw [← HS.out, drop_of_get HX.out, List.all_cons, ho, Bool.false_and])
        clear ho
        go_wp2_with fail
        go_ret
        rw [HN.out]
        exact ⟨rfl, hbel.alloc hbel.size _⟩
    · have HN := Lib.hid (show R = true by rw [← HS.out, List.drop_eq_nil_of_le (by show 6 ≤ k; omega)]; rfl)
      go_wp2_with fail
      go_ret
      rw [HN.out]
      exact ⟨rfl, hbel⟩
end Go.Proofs.YtneinkpfhkojgaaDoor
/-
  The walks through ranges.Check and the reference's Check and valid.
-/
namespace Go.Proofs.YtneinkpfhkojgaaDoor
open Go.RowKit ND



/-- What Check asks of a span behind a span that ends at last. -/
def okOne (lo hi last : Int) (s : Sp) : Bool := decide (last < s.1 ∧ s.1 ≤ s.2.1 ∧ s.2.1 ≤ 1114111 ∧ lo ≤ s.1 ∧ s.2.1 ≤ hi)
theorem okS_go {lo hi last : Int} {xs : List Sp} {k : Nat} {s : Sp} {R : Bool} (hx : xs[k]? = some s) (h : okS lo hi last (xs.drop k) = R) (h1 : okOne lo hi last s = true) : okS lo hi s.2.1 (xs.drop (k + 1)) = R := by
  rw [drop_of_get hx, okS] at h
  unfold okOne at h1
  rw [h1, Bool.true_and] at h
  exact h
theorem okS_no {lo hi last : Int} {xs : List Sp} {k : Nat} {s : Sp} {R : Bool} (hx : xs[k]? = some s) (h : okS lo hi last (xs.drop k) = R) (h1 : okOne lo hi last s = false) : R = false := by
  rw [drop_of_get hx, okS] at h
  unfold okOne at h1
  rw [h1, Bool.false_and] at h
  exact h.symm
theorem okS_end {lo hi last : Int} {xs : List Sp} {k : Nat} {R : Bool} (hk : xs.length ≤ k) (h : okS lo hi last (xs.drop k) = R) : R = true := by
  rw [List.drop_eq_nil_of_le hk] at h; exact h.symm

/-- The five ways through the tests of one span. -/
theorem okOne_ways {lo hi last f t v : Int} : (okOne lo hi last (f, t, v) = true ∧ decide (f ≤ last) = false ∧ decide (t < f) = false ∧ decide (1114111 < t) = false ∧ decide (f < lo) = false ∧ decide (hi < t) = false) ∨
    (okOne lo hi last (f, t, v) = false ∧ (decide (f ≤ last) = true ∨ decide (f ≤ last) = false ∧ decide (t < f) = true ∨ decide (f ≤ last) = false ∧ decide (t < f) = false ∧ decide (1114111 < t) = true ∨
      decide (f ≤ last) = false ∧ decide (t < f) = false ∧ decide (1114111 < t) = false ∧ decide (f < lo) = true ∨ decide (f ≤ last) = false ∧ decide (t < f) = false ∧ decide (1114111 < t) = false ∧ decide (f < lo) = false ∧ decide (hi < t) = true)) := by
  unfold okOne
  simp only [decide_eq_true_eq, decide_eq_false_iff_not]
  omega

set_option maxRecDepth 100000 in
set_option maxHeartbeats 1000000 in
theorem check_any (v : Value) (xs : List Sp) (lo hi : Int) (w : World) (hv : Spans w w.heap.size v xs) :
    Calls Tryd.prog 88 #[v, .int .i64 lo, .int .i64 hi] w fun e w' => e = .returned (.bool (checkS xs lo hi)) ∧ Below w.heap.size w w' := by
  obtain ⟨A, c, rfl, hc1, hc2, _, hcell⟩ := hv
  have HC := Lib.hid hcell; clear hcell
  have hl : xs.length ≤ 9223372036854775807 := by unfold maxLen at hc2; omega
  clear hc2 hc1
  obtain ⟨R, hR⟩ : ∃ R, R = okS lo hi (-1) xs := ⟨_, rfl⟩
  have hck : checkS xs lo hi = (R && decide (xs.length ≤ 256)) := by rw [hR]; rfl
  rw [hck]
  have HR : Hid (okS lo hi (-1) (xs.drop 0) = R) := Lib.hid hR.symm
  clear hR hck
  go_enter Tryd.func88, Tryd.ntmps88
  go_wp2_with fail
  go_loopw [7, 12] (fun l i wr => ∃ (k : Nat) (last : Int), k ≤ xs.length ∧ i = .int .i64 k ∧ l = .int .i64 last ∧ Hid (okS lo hi last (xs.drop k) = R) ∧ Below w.heap.size w wr) (fun _ i _ => xs.length - (intOf i).toNat)
  case atStart => exact ⟨0, -1, by omega, rfl, rfl, HR, Below.refl _ _⟩
  case round =>
    obtain ⟨k, last, hk, rfl, rfl, HS, hbel⟩ := hrel
    clear HR
    by_cases hlt : k < xs.length
    · obtain ⟨⟨f, t, x⟩, hxk, _⟩ := get_el hlt
      obtain ⟨ad, rfl, ha, d0, d1, d2⟩ := HC.out k _ hxk
      simp only at d0 d1 d2
      obtain ⟨e0, e1, e2⟩ := span_cells hbel ha d0 d1 d2
      have HX := Lib.hid hxk
      clear d0 d1 d2 hxk ha
      have k0 : (0 : Int) ≤ (k : Int) := by omega
      have k1 : (k : Int) < (xs.length : Int) := by omega
      rcases okOne_ways (lo := lo) (hi := hi) (last := last) (f := f) (t := t) (v := x) with ⟨ho, q0, q1, q2, q3, q4⟩ | ⟨ho, hw⟩
      · have HN := Lib.hid (okS_go HX.out HS.out ho)
        clear ho
        go_wp2_with fail
        go_roundw
        case rel => exact ⟨k + 1, t, by omega, by go_num, rfl, HN, hbel.alloc hbel.size _⟩
        case measure => simp [intOf]; omega
      · have HN := Lib.hid (okS_no HX.out HS.out ho)
        clear ho
        rcases hw with q0 | ⟨q0, q1⟩ | ⟨q0, q1, q2⟩ | ⟨q0, q1, q2, q3⟩ | ⟨q0, q1, q2, q3, q4⟩
        all_goals
          go_wp2_with fail
          go_ret
          rw [HN.out]
          exact ⟨rfl, hbel.alloc hbel.size _⟩
    · have HN := Lib.hid (okS_end (by omega) HS.out)
      go_wp2_with fail
      go_ret
      rw [HN.out]
      exact ⟨by simp; omega, hbel⟩

/-- The ways through the reference's tests of one span. -/
theorem refOne_ways {lo hi last f t v : Int} (hl : -1 ≤ last) : (okOne lo hi last (f, t, v) = true ∧ decide (f < 0) = false ∧ decide (t < f) = false ∧ decide (1114111 < t) = false ∧ decide (f < lo) = false ∧ decide (hi < t) = false ∧ decide (f ≤ last) = false) ∨
    (okOne lo hi last (f, t, v) = false ∧ (decide (f < 0) = true ∨ decide (f < 0) = false ∧ decide (t < f) = true ∨ decide (f < 0) = false ∧ decide (t < f) = false ∧ decide (1114111 < t) = true ∨
      decide (f < 0) = false ∧ decide (t < f) = false ∧ decide (1114111 < t) = false ∧ decide (f < lo) = true ∨ decide (f < 0) = false ∧ decide (t < f) = false ∧ decide (1114111 < t) = false ∧ decide (f < lo) = false ∧ decide (hi < t) = true ∨
      decide (f < 0) = false ∧ decide (t < f) = false ∧ decide (1114111 < t) = false ∧ decide (f < lo) = false ∧ decide (hi < t) = false ∧ decide (f ≤ last) = true)) := by
  unfold okOne
  simp only [decide_eq_true_eq, decide_eq_false_iff_not]
  omega

set_option maxRecDepth 100000 in
set_option maxHeartbeats 1000000 in
theorem refCheck_any (v : Value) (xs : List Sp) (lo hi : Int) (w : World) (hv : Spans w w.heap.size v xs) :
    Calls Tryd.prog 112 #[v, .int .i64 lo, .int .i64 hi] w fun e w' => e = .returned (.bool (checkS xs lo hi)) ∧ Below w.heap.size w w' := by
  obtain ⟨A, c, rfl, hc1, hc2, _, hcell⟩ := hv
  have HC := Lib.hid hcell; clear hcell
  have hl : xs.length ≤ 9223372036854775807 := by unfold maxLen at hc2; omega
  clear hc2 hc1
  obtain ⟨R, hR⟩ : ∃ R, R = okS lo hi (-1) xs := ⟨_, rfl⟩
  have hck : checkS xs lo hi = (R && decide (xs.length ≤ 256)) := by rw [hR]; rfl
  rw [hck]
  have HR : Hid (okS lo hi (-1) (xs.drop 0) = R) := Lib.hid hR.symm
  clear hR hck
  by_cases hbig : 256 < xs.length
  · have hf : decide (xs.length ≤ 256) = false := by rw [decide_eq_false_iff_not]; omega
    rw [hf, Bool.and_false]
    clear hf HR HC
    go_enter Tryd.func112, Tryd.ntmps112
    go_wp2_with fail
    go_ret
    exact ⟨rfl, Below.refl _ _⟩
  · have hf : decide (xs.length ≤ 256) = true := by rw [decide_eq_true_iff]; omega
    rw [hf, Bool.and_true]
    clear hf
    go_enter Tryd.func112, Tryd.ntmps112
    go_wp2_with fail
    go_loopw [14] (fun i wr => ∃ (k : Nat) (last : Int), k ≤ xs.length ∧ i = .int .i64 k ∧ -1 ≤ last ∧ Hid (okS lo hi last (xs.drop k) = R) ∧ Hid ((0 < k → ∃ s, xs[k - 1]? = some s ∧ s.2.1 = last) ∧ (k = 0 → last = -1)) ∧ Below w.heap.size w wr) (fun i _ => xs.length - (intOf i).toNat)
    case atStart => exact ⟨0, -1, by omega, rfl, by omega, HR, Lib.hid ⟨fun h => absurd h (by omega), fun _ => rfl⟩, Below.refl _ _⟩
    case round =>
      obtain ⟨k, last, hk, rfl, hlast, HS, HP, hbel⟩ := hrel
      clear HR
      by_cases hlt : k < xs.length
      · obtain ⟨⟨f, t, x⟩, hxk, _⟩ := get_el hlt
        obtain ⟨ad, rfl, ha, d0, d1, d2⟩ := HC.out k _ hxk
        simp only at d0 d1 d2
        obtain ⟨e0, e1, e2⟩ := span_cells hbel ha d0 d1 d2
        have HX := Lib.hid hxk
        clear d0 d1 d2 hxk
        have k0 : (0 : Int) ≤ (k : Int) := by omega
        have k1 : (k : Int) < (xs.length : Int) := by omega
        have hways := refOne_ways (lo := lo) (hi := hi) (last := last) (f := f) (t := t) (v := x) hlast
        by_cases hk0 : 0 < k
        · obtain ⟨⟨f', t', x'⟩, hj, hjl⟩ := HP.out.1 hk0
          simp only at hjl
          subst hjl
          obtain ⟨ad', h', _, d0, d1, d2⟩ := HC.out _ _ hj
          cases h'
          simp only at d0 d1 d2
          obtain ⟨g0, g1, g2⟩ := span_cells hbel ha d0 d1 d2
          clear d0 d1 d2 hj g0 g2
          obtain ⟨j, rfl⟩ : ∃ j, k = j + 1 := ⟨k - 1, by omega⟩
          rw [Nat.add_sub_cancel] at g1
          have g1' := fun o : Obj => (World.cell?_alloc_lt wr o { block := (ad.add (j * 3)).block, off := (ad.add (j * 3)).off + 1, spot := none } (by have := hbel.size; simp only [block_of_add]; omega)).trans g1
          clear g1
          have hw : IntKind.i64.wrap ((j : Int) + 1 - 1) = (j : Int) := by rw [IntWalk.i64_in _ (by omega)]; omega
          have hwj : IntKind.i64.wrap (j : Int) = (j : Int) := IntWalk.i64_in _ (by omega)
          have j0 : (0 : Int) ≤ (j : Int) := by omega
          have j1 : (j : Int) < (xs.length : Int) := by omega
          have j2 : j < xs.length := by omega
          rcases hways with ⟨ho, q0, q1, q2, q3, q4, q5⟩ | ⟨ho, hw'⟩
          · have ht : -1 ≤ t := by simp only [okOne, decide_eq_true_eq] at ho; omega
            have HN := Lib.hid (okS_go HX.out HS.out ho)
            clear ho
            go_wp2_with fail
            go_quiet (fail)
            go_wp2_with fail
            go_roundw
            case rel => exact ⟨(j + 1) + 1, t, by omega, by go_num, ht, HN, Lib.hid ⟨fun _ => ⟨(f, t, x), by simpa using HX.out, rfl⟩, fun h => absurd h (by omega)⟩, below_drewN (hbel.alloc hbel.size _) nq⟩
            case measure => simp [intOf]; omega
          · have HN := Lib.hid (okS_no HX.out HS.out ho)
            clear ho
            rcases hw' with q0 | ⟨q0, q1⟩ | ⟨q0, q1, q2⟩ | ⟨q0, q1, q2, q3⟩ | ⟨q0, q1, q2, q3, q4⟩ | ⟨q0, q1, q2, q3, q4, q5⟩
            all_goals
              go_wp2_with fail
              go_quiet (fail)
              go_wp2_with fail
              go_ret
              rw [HN.out]
              exact ⟨rfl, below_drewN (hbel.alloc hbel.size _) nq⟩
        · have hl1 := HP.out.2 (by omega)
          subst hl1
          have hz : decide ((0 : Int) < (k : Int)) = false := by rw [decide_eq_false_iff_not]; omega
          clear HP
          rcases hways with ⟨ho, q0, q1, q2, q3, q4, q5⟩ | ⟨ho, hw'⟩
          · have ht : -1 ≤ t := by simp only [okOne, decide_eq_true_eq] at ho; omega
            have HN := Lib.hid (okS_go HX.out HS.out ho)
            clear ho
            go_wp2_with fail
            go_quiet (fail)
            go_wp2_with fail
            go_roundw
            case rel => exact ⟨k + 1, t, by omega, by go_num, ht, HN, Lib.hid ⟨fun _ => ⟨(f, t, x), by simpa using HX.out, rfl⟩, fun h => absurd h (by omega)⟩, below_drewN (hbel.alloc hbel.size _) nq⟩
            case measure => simp [intOf]; omega
          · rw [show (decide (f ≤ -1) = true) = (decide (f < 0) = true) from by simp; omega] at hw'
            have HN := Lib.hid (okS_no HX.out HS.out ho)
            clear ho
            rcases hw' with q0 | ⟨q0, q1⟩ | ⟨q0, q1, q2⟩ | ⟨q0, q1, q2, q3⟩ | ⟨q0, q1, q2, q3, q4⟩ | ⟨q0, _, _, _, _, q5⟩
            rotate_left 5
            · rw [q0] at q5; cases q5
            all_goals
              go_wp2_with fail
              go_quiet (fail)
              go_wp2_with fail
              go_ret
              rw [HN.out]
              exact ⟨rfl, below_drewN (hbel.alloc hbel.size _) nq⟩
      · have HN := Lib.hid (okS_end (by omega) HS.out)
        go_wp2_with fail
        go_ret
        rw [HN.out]
        exact ⟨by simp, hbel⟩
end Go.Proofs.YtneinkpfhkojgaaDoor
/-
  The walk through table.shape: rule 2.
-/
namespace Go.Proofs.YtneinkpfhkojgaaDoor
open Go.RowKit ND

def colShape (c : List Sp × Int × Int) : Bool := colOk c.1
def spOut (s : Sp) : Bool := outB s.1 s.2.1
def mpKeys (p : List Mp × Nat) : Bool := keysB (p.2 == 3) (-1) (keysOf p.1)
theorem rule2_parts (T : Tab) : T.rule2 = (T.cols.all colShape && (T.mps.zipIdx.all mpKeys && keysB false (-1) T.excluded)) := by
  unfold Tab.rule2 Tab.rule2m Tab.mps
  simp only [List.zipIdx_cons, List.zipIdx_nil, List.all_cons, List.all_nil, Bool.and_true]
  rfl
theorem zip_at {T : Tab} {k : Nat} {p : List Mp × Nat} (h : T.mps.zipIdx[k]? = some p) : p.2 = k ∧ T.mps[k]? = some p.1 := by
  rw [List.getElem?_zipIdx] at h
  cases hm : T.mps[k]? with
  | none => rw [hm] at h; cases h
  | some m => rw [hm] at h; cases h; exact ⟨by simp, rfl⟩
theorem keys_go {p : Bool} {last c : Int} {xs : List Int} {k : Nat} {R : Bool} (hx : xs[k]? = some c) (h : keysB p last (xs.drop k) = R) (h1 : keyOk p last c = true) : keysB p c (xs.drop (k + 1)) = R := by
  rw [drop_of_get hx, keysB, h1, Bool.true_and] at h; exact h
theorem keys_no {p : Bool} {last c : Int} {xs : List Int} {k : Nat} {R : Bool} (hx : xs[k]? = some c) (h : keysB p last (xs.drop k) = R) (h1 : keyOk p last c = false) : R = false := by
  rw [drop_of_get hx, keysB, h1, Bool.false_and] at h; exact h.symm
theorem keys_end {p : Bool} {last : Int} {xs : List Int} {k : Nat} {R : Bool} (hk : xs.length ≤ k) (h : keysB p last (xs.drop k) = R) : R = true := by
  rw [List.drop_eq_nil_of_le hk] at h; exact h.symm
theorem keys_get {l : List Mp} {k : Nat} {m : Mp} (h : l[k]? = some m) : (keysOf l)[k]? = some m.1 := by unfold keysOf; rw [List.getElem?_map, h]; rfl

/-- The ways through the test of a key. -/
theorem key_ways (last c : Int) (k : Nat) : (keyOk (k == 3) last c = true ∧ pointB last c = true) ∨ (keyOk (k == 3) last c = false ∧ pointB last c = false ∧ ((k : Int) != 3) = true) ∨
    (keyOk (k == 3) last c = false ∧ pointB last c = false ∧ ((k : Int) != 3) = false ∧ decide (c ≤ last) = true) ∨ (keyOk (k == 3) last c = false ∧ pointB last c = false ∧ ((k : Int) != 3) = false ∧ decide (c ≤ last) = false ∧ nameB c = false) ∨
    (keyOk (k == 3) last c = true ∧ pointB last c = false ∧ ((k : Int) != 3) = false ∧ decide (c ≤ last) = false ∧ nameB c = true) := by
  have hn : nameB c = true → c ≤ 1114111 := fun h => by rw [nameB_iff] at h; omega
  unfold keyOk pointB
  by_cases h3 : k = 3
  · subst h3
    have e : (((3 : Nat) : Int) != 3) = false := by decide
    rw [e]
    by_cases h1 : last < c
    · have e1 : decide (c ≤ last) = false := by rw [decide_eq_false_iff_not]; omega
      rw [e1]
      by_cases h2 : c ≤ 1114111
      · rw [decide_eq_true (And.intro h1 h2)]
        cases resB c <;> cases nameB c <;> simp
      · rw [decide_eq_false (fun h => h2 h.2)]
        have : nameB c = false := by
          cases hh : nameB c
          · rfl
          · exact absurd (hn hh) h2
        rw [this]; simp
    · have e1 : decide (c ≤ last) = true := by rw [decide_eq_true_iff]; omega
      rw [e1, decide_eq_false (fun h : last < c ∧ c ≤ 1114111 => h1 h.1)]; simp
  · have e : ((k : Int) != 3) = true := by rw [bne_iff_ne]; omega
    have e2 : (k == 3) = false := by rw [beq_eq_false_iff_ne]; exact h3
    rw [e, e2]
    cases decide (last < c ∧ c ≤ 1114111) <;> cases resB c <;> simp
theorem keyOk_false (last c : Int) : keyOk false last c = pointB last c := by unfold keyOk pointB; simp

set_option maxRecDepth 100000 in
set_option maxHeartbeats 4000000 in
theorem shape_any (t : Tv) (T : Tab) (w : World) (ht : TabR w w.heap.size t T) (hg : Glob w) :
    Calls Tryd.prog 69 #[t.val] w fun e w' => e = .returned (.bool T.rule2) ∧ Below w.heap.size w w' := by
  obtain ⟨A0, A1, A2, A3, A4, A5, A6, A7, A8, A9, A10, A11, k0, k1, k2, k3, k4, k5, k6, k7, k8, k9, k10, k11, rfl⟩ := ht.shape
  have HR := Lib.hid (fun o : Obj => ht.later ((Below.refl _ _).alloc (Nat.le_refl _) o))
  have HG0 := Lib.hid (fun o : Obj => hg.later ((Below.refl _ _).alloc (Nat.le_refl _) o))
  clear ht hg
  obtain ⟨R, hR⟩ : ∃ R, R = T.rule2 := ⟨_, rfl⟩
  rw [← hR]
  obtain ⟨R1, hR1⟩ : ∃ R1, R1 = T.cols.all colShape := ⟨_, rfl⟩
  obtain ⟨R2, hR2⟩ : ∃ R2, R2 = T.mps.zipIdx.all mpKeys := ⟨_, rfl⟩
  obtain ⟨R3, hR3⟩ : ∃ R3, R3 = keysB false (-1) T.excluded := ⟨_, rfl⟩
  have HR1 : Hid ((T.cols.drop 0).all colShape = R1) := Lib.hid hR1.symm
  have HR2 : Hid ((T.mps.zipIdx.drop 0).all mpKeys = R2) := Lib.hid hR2.symm
  have HR3 : Hid (keysB false (-1) (T.excluded.drop 0) = R3) := Lib.hid hR3.symm
  have HRR : Hid (R = (R1 && (R2 && R3))) := Lib.hid (by rw [hR, hR1, hR2, hR3, rule2_parts])
  clear hR hR1 hR2 hR3
  go_enter Tryd.func69, Tryd.ntmps69
  go_wp2_with fail
  refine (columns_any _ T _ (HR.out _)).mono ?_
  rintro e w1 ⟨ad, rfl, hc, b1⟩
  have HC := Lib.hid hc.2
  have hca := hc.1
  have HB := Lib.hid ((Blk.new w 26 _).later b1)
  have HT := Lib.hid ((HR.out _).later b1)
  have HG := Lib.hid ((HG0.out _).later b1)
  have hbel1 := below_next ((Below.refl _ _).alloc (Nat.le_refl _) _) b1
  clear hc b1 HR HG0
  go_wp2_with fail
  go_loopw [18] (fun i wr => ∃ (k : Nat), k ≤ 7 ∧ i = .int .i64 k ∧ Hid ((T.cols.drop k).all colShape = R1) ∧ Below w1.heap.size w1 wr) (fun i _ => 7 - (intOf i).toNat)
  case atStart => exact ⟨0, by omega, rfl, HR1, Below.refl _ _⟩
  case round =>
    obtain ⟨k, hk, rfl, HS, hbel⟩ := hrel
    clear HR1
    by_cases hlt : k < 7
    · obtain ⟨⟨l, lo, hi⟩, hxk, _⟩ := get_el (xs := T.cols) (k := k) hlt
      obtain ⟨v, d0, d1, d2, hv⟩ := HC.out k _ hxk
      simp only at d0 d1 d2 hv
      obtain ⟨A, c, rfl, hc1, hc2, _, hcell⟩ := id hv
      have HCE := Lib.hid hcell
      have hlm : l.length ≤ 9223372036854775807 := by unfold maxLen at hc2; omega
      have HV := Lib.hid (fun o => (hv.later hbel).later ((Below.refl _ _).alloc (Nat.le_refl _) o))
      obtain ⟨e0, e1, e2⟩ := span_cells hbel hca d0 d1 d2
      have HX := Lib.hid hxk
      clear d0 d1 d2 hxk hcell hv hc1 hc2
      have q0 : (0 : Int) ≤ (k : Int) := by omega
      have q1 : (k : Int) < (7 : Int) := by omega
      have HK := Lib.hid (fun W h => check_any (.slice A l.length c) l 0 1114111 W h)
      cases hck : checkS l 0 1114111
      · rw [hck] at HK
        have HN := Lib.hid (each_no HX.out HS.out (by unfold colShape colOk; rw [hck]; rfl))
        clear hck
        go_wp2_with fail
        refine (HK.out _ (HV.out _)).mono ?_
        rintro e w2 ⟨rfl, b2⟩
        go_wp2_with fail
        go_ret
        rw [HRR.out, HN.out]
        exact ⟨by simp, below_next hbel1 (below_next (hbel.alloc hbel.size _) b2)⟩
      · rw [hck] at HK
        obtain ⟨Ro, hRo⟩ : ∃ Ro, Ro = l.all spOut := ⟨_, rfl⟩
        have HO : Hid ((l.drop 0).all spOut = Ro) := Lib.hid hRo.symm
        have HCO : Hid (colShape (l, lo, hi) = Ro) := Lib.hid (by rw [hRo]; unfold colShape colOk; rw [hck]; rfl)
        clear hck hRo
        go_wp2_with fail
        refine (HK.out _ (HV.out _)).mono ?_
        rintro e w2 ⟨rfl, b2⟩
        have d0 := ((Blk.new wr 89 #[.slice A l.length c, .int .i64 lo, .int .i64 hi]).later b2).at_ (i := 0) rfl
        have hbel2 : Below w1.heap.size w1 w2 := below_next (hbel.alloc hbel.size _) b2
        clear HK HV b2 e0 e1 e2 hbel
        go_wp2_with fail
        clear d0
        go_loopw [29] (fun i wr => ∃ (j : Nat), j ≤ l.length ∧ i = .int .i64 j ∧ Hid ((l.drop j).all spOut = Ro) ∧ Below w1.heap.size w1 wr) (fun i _ => l.length - (intOf i).toNat)
        case atStart => exact ⟨0, by omega, rfl, HO, hbel2⟩
        case round =>
          obtain ⟨j, hj, rfl, HSj, hbelj⟩ := hrel
          clear HO hbel2
          by_cases hjl : j < l.length
          · obtain ⟨⟨f, t, x⟩, hxj, _⟩ := get_el hjl
            obtain ⟨aj, rfl, ha, d0, d1, d2⟩ := HCE.out j _ hxj
            simp only at d0 d1 d2
            obtain ⟨e0, e1, e2⟩ := span_cells hbelj ha d0 d1 d2
            have HXj := Lib.hid hxj
            have HGj := Lib.hid (fun o => (HG.out.later hbelj).later ((Below.refl _ _).alloc (Nat.le_refl _) o))
            clear d0 d1 d2 hxj ha
            have r0 : (0 : Int) ≤ (j : Int) := by omega
            have r1 : (j : Int) < (l.length : Int) := by omega
            have HOU := Lib.hid (fun W h => outside_any f t x W h)
            cases ho : outB f t
            · rw [ho] at HOU
              have HN := Lib.hid (each_no HXj.out HSj.out ho)
              clear ho
              go_wp2_with fail
              refine (HOU.out _ (HGj.out _)).mono ?_
              rintro e w3 ⟨rfl, b3⟩
              go_wp2_with fail
              go_ret
              rw [HRR.out, each_no HX.out HS.out (HCO.out.trans HN.out)]
              exact ⟨by simp, below_next hbel1 (below_next (hbelj.alloc hbelj.size _) b3)⟩
            · rw [ho] at HOU
              have HN := Lib.hid (each_go HXj.out HSj.out ho)
              clear ho
              go_wp2_with fail
              refine (HOU.out _ (HGj.out _)).mono ?_
              rintro e w3 ⟨rfl, b3⟩
              go_wp2_with fail
              go_roundw
              case rel => exact ⟨j + 1, by omega, by go_num, HN, below_next (hbelj.alloc hbelj.size _) b3⟩
              case measure => simp [intOf]; omega
          · have HN := Lib.hid (each_go HX.out HS.out (HCO.out.trans (each_end (by omega) HSj.out)))
            go_wp2_with fail
            go_roundw
            case rel => exact ⟨k + 1, by omega, by go_num, HN, hbelj⟩
            case measure => simp [intOf]; omega
    · have HN := Lib.hid (each_end (by show 7 ≤ k; omega) HS.out)
      obtain ⟨x0, x1, x2, x3, x4, x5, x6, x7, x8, x9, x10, x11⟩ := (HB.out.later hbel).tab
      have HT2 := Lib.hid (HT.out.later hbel)
      clear HC hca HS
      go_wp2_with fail
      refine (mappings_any _ T _ HT2.out).mono ?_
      rintro e w2 ⟨am, rfl, hm, b2⟩
      have HM := Lib.hid hm.2
      have hma := hm.1
      have HB2 := Lib.hid ((HB.out.later hbel).later b2)
      have HX10 := Lib.hid (HT2.out.r10.later b2)
      have hbel2 := below_next hbel1 (below_next hbel b2)
      clear hm HT2 hbel hbel1 b2 x0 x1 x2 x3 x4 x5 x6 x7 x8 x9 x10 x11 HB HT HG
      go_wp2_with fail
      go_loopw [41] (fun i wr => ∃ (k : Nat), k ≤ 4 ∧ i = .int .i64 k ∧ Hid ((T.mps.zipIdx.drop k).all mpKeys = R2) ∧ Below w2.heap.size w2 wr) (fun i _ => 4 - (intOf i).toNat)
      case atStart => exact ⟨0, by omega, rfl, HR2, Below.refl _ _⟩
      case round =>
        obtain ⟨k, hk, rfl, HS, hbel⟩ := hrel
        clear HR2
        by_cases hlt : k < 4
        · obtain ⟨⟨l, k'⟩, hxk, _⟩ := get_el (xs := T.mps.zipIdx) (k := k) hlt
          obtain ⟨hk', hxm⟩ := zip_at hxk
          simp only at hk' hxm
          subst hk'
          obtain ⟨v, d0, hv⟩ := HM.out k' _ hxm
          obtain ⟨A, c, rfl, hc1, hc2, _, hcell⟩ := id hv
          have HCE := Lib.hid hcell
          have hlm : l.length ≤ 9223372036854775807 := by unfold maxLen at hc2; omega
          have e0 := (hbel.cell (p := am.add k') (by rw [block_of_add]; exact hma)).trans d0
          have HX := Lib.hid hxk
          obtain ⟨Ro, hRo⟩ : ∃ Ro, Ro = mpKeys (l, k') := ⟨_, rfl⟩
          have HO : Hid (keysB (k' == 3) (-1) ((keysOf l).drop 0) = Ro) := Lib.hid hRo.symm
          have HCO : Hid (mpKeys (l, k') = Ro) := Lib.hid hRo.symm
          clear d0 hxk hxm hcell hv hc1 hc2 hRo
          have q0 : (0 : Int) ≤ (k' : Int) := by omega
          have q1 : (k' : Int) < (4 : Int) := by omega
          go_wp2_with fail
          clear e0
          go_loopw [9, 48] (fun la i wr => ∃ (j : Nat) (last : Int), j ≤ l.length ∧ i = .int .i64 j ∧ la = .int .i64 last ∧ Hid (keysB (k' == 3) last ((keysOf l).drop j) = Ro) ∧ Below w2.heap.size w2 wr) (fun _ i _ => l.length - (intOf i).toNat)
          case atStart => exact ⟨0, -1, by omega, rfl, rfl, HO, hbel⟩
          case round =>
            obtain ⟨j, last, hj, rfl, rfl, HSj, hbelj⟩ := hrel
            clear HO hbel
            by_cases hjl : j < l.length
            · obtain ⟨⟨cc, tg⟩, hxj, _⟩ := get_el hjl
              obtain ⟨aj, sv, rfl, ha, d0, d1, A', c', rfl, _⟩ := HCE.out j _ hxj
              simp only at d0 d1
              obtain ⟨e0, e1⟩ := map_cells hbelj ha d0 d1
              have HXj := Lib.hid (keys_get hxj)
              simp only at HXj
              clear d0 d1 hxj ha
              have r0 : (0 : Int) ≤ (j : Int) := by omega
              have r1 : (j : Int) < (l.length : Int) := by omega
              have HP := Lib.hid (fun W => point_any last cc W)
              have HNA := Lib.hid (fun W => name_any cc W)
              rcases key_ways last cc k' with ⟨ho, p0⟩ | ⟨ho, p0, p1⟩ | ⟨ho, p0, p1, p2⟩ | ⟨ho, p0, p1, p2, p3⟩ | ⟨ho, p0, p1, p2, p3⟩
              · have HN := Lib.hid (keys_go HXj.out HSj.out ho)
                rw [p0] at HP
                clear ho p0 HNA
                go_wp2_with fail
                refine (HP.out _).mono ?_
                rintro e w' ⟨rfl, rfl⟩
                go_wp2_with fail
                go_roundw
                case rel => exact ⟨j + 1, cc, by omega, by go_num, rfl, HN, hbelj.alloc hbelj.size _⟩
                case measure => simp [intOf]; omega
              · have HN := Lib.hid (keys_no HXj.out HSj.out ho)
                rw [p0] at HP
                clear ho p0 HNA
                go_wp2_with fail
                refine (HP.out _).mono ?_
                rintro e w' ⟨rfl, rfl⟩
                go_wp2_with fail
                go_ret
                rw [HRR.out, each_no HX.out HS.out (HCO.out.trans HN.out)]
                exact ⟨by simp, below_next hbel2 (hbelj.alloc hbelj.size _)⟩
              · have HN := Lib.hid (keys_no HXj.out HSj.out ho)
                rw [p0] at HP
                clear ho p0 HNA
                go_wp2_with fail
                refine (HP.out _).mono ?_
                rintro e w' ⟨rfl, rfl⟩
                go_wp2_with fail
                go_ret
                rw [HRR.out, each_no HX.out HS.out (HCO.out.trans HN.out)]
                exact ⟨by simp, below_next hbel2 (hbelj.alloc hbelj.size _)⟩
              · have HN := Lib.hid (keys_no HXj.out HSj.out ho)
                rw [p0] at HP
                rw [p3] at HNA
                clear ho p0 p3
                go_wp2_with fail
                refine (HP.out _).mono ?_
                rintro e w' ⟨rfl, rfl⟩
                go_wp2_with fail
                refine (HNA.out _).mono ?_
                rintro e w' ⟨rfl, rfl⟩
                go_wp2_with fail
                go_ret
                rw [HRR.out, each_no HX.out HS.out (HCO.out.trans HN.out)]
                exact ⟨by simp, below_next hbel2 (hbelj.alloc hbelj.size _)⟩
              · have HN := Lib.hid (keys_go HXj.out HSj.out ho)
                rw [p0] at HP
                rw [p3] at HNA
                clear ho p0 p3
                go_wp2_with fail
                refine (HP.out _).mono ?_
                rintro e w' ⟨rfl, rfl⟩
                go_wp2_with fail
                refine (HNA.out _).mono ?_
                rintro e w' ⟨rfl, rfl⟩
                go_wp2_with fail
                go_roundw
                case rel => exact ⟨j + 1, cc, by omega, by go_num, rfl, HN, hbelj.alloc hbelj.size _⟩
                case measure => simp [intOf]; omega
            · have HN := Lib.hid (each_go HX.out HS.out (HCO.out.trans (keys_end (by unfold keysOf; rw [List.length_map]; omega) HSj.out)))
              go_wp2_with fail
              go_roundw
              case rel => exact ⟨k' + 1, by omega, by go_num, HN, hbelj⟩
              case measure => simp [intOf]; omega
        · have HN2 := Lib.hid (each_end (by show 4 ≤ k; omega) HS.out)
          obtain ⟨A, c, hA, hc1, hc2, _, hcell⟩ := HX10.out
          cases hA
          have HCE := Lib.hid hcell
          have hlm : T.excluded.length ≤ 9223372036854775807 := by unfold maxLen at hc2; omega
          have x10 := (HB2.out.later hbel).at_ (i := 10) rfl
          clear HM hma HS HX10 hcell hc1 hc2 HB2
          go_wp2_with fail
          go_loop [12, 80] (fun la i => ∃ (j : Nat) (last : Int), j ≤ T.excluded.length ∧ i = .int .i64 j ∧ la = .int .i64 last ∧ Hid (keysB false last (T.excluded.drop j) = R3)) (fun _ i => T.excluded.length - (intOf i).toNat)
          case atStart => exact ⟨0, -1, by omega, rfl, rfl, HR3⟩
          case round =>
            obtain ⟨j, last, hj, rfl, rfl, HSj⟩ := hrel
            clear HR3
            by_cases hjl : j < T.excluded.length
            · obtain ⟨cc, hxj, _⟩ := get_el hjl
              obtain ⟨aj, rfl, ha, d0⟩ := HCE.out j _ hxj
              have e0 := (hbel.cell (p := aj.add j) (by rw [block_of_add]; exact ha)).trans d0
              have HXj := Lib.hid hxj
              clear d0 hxj ha
              have r0 : (0 : Int) ≤ (j : Int) := by omega
              have r1 : (j : Int) < (T.excluded.length : Int) := by omega
              have HP := Lib.hid (fun W => point_any last cc W)
              cases ho : pointB last cc
              · have HN3 := Lib.hid (keys_no HXj.out HSj.out ((keyOk_false _ _).trans ho))
                rw [ho] at HP
                clear ho
                go_wp2_with fail
                refine (HP.out _).mono ?_
                rintro e w' ⟨rfl, rfl⟩
                go_wp2_with fail
                go_ret
                rw [HRR.out, HN3.out]
                exact ⟨by simp, below_next hbel2 hbel⟩
              · have HN3 := Lib.hid (keys_go HXj.out HSj.out ((keyOk_false _ _).trans ho))
                rw [ho] at HP
                clear ho
                go_wp2_with fail
                refine (HP.out _).mono ?_
                rintro e w' ⟨rfl, rfl⟩
                go_wp2_with fail
                go_round
                case rel => exact ⟨j + 1, cc, by omega, by go_num, rfl, HN3⟩
                case measure => simp [intOf]; omega
            · have HN3 := Lib.hid (keys_end (by omega) HSj.out)
              go_wp2_with fail
              go_ret
              rw [HRR.out, HN.out, HN2.out, HN3.out]
              exact ⟨by simp, below_next hbel2 hbel⟩
end Go.Proofs.YtneinkpfhkojgaaDoor
/-
  The walks through table.values and the reference's ranged: rule 3.
-/
namespace Go.Proofs.YtneinkpfhkojgaaDoor
open Go.RowKit ND

def spVal (lo hi : Int) (s : Sp) : Bool := decide (lo ≤ s.2.2 ∧ s.2.2 ≤ hi)
theorem valsOk_eq (l : List Sp) (lo hi : Int) : valsOk (l, lo, hi) = l.all (spVal lo hi) := rfl
theorem val_ways (lo hi v : Int) : (decide (lo ≤ v ∧ v ≤ hi) = true ∧ decide (v < lo) = false ∧ decide (hi < v) = false) ∨ (decide (lo ≤ v ∧ v ≤ hi) = false ∧ decide (v < lo) = true) ∨
    (decide (lo ≤ v ∧ v ≤ hi) = false ∧ decide (v < lo) = false ∧ decide (hi < v) = true) := by
  simp only [decide_eq_true_eq, decide_eq_false_iff_not]; omega

set_option maxRecDepth 100000 in
set_option maxHeartbeats 2000000 in
theorem values_any (t : Tv) (T : Tab) (w : World) (ht : TabR w w.heap.size t T) :
    Calls Tryd.prog 70 #[t.val] w fun e w' => e = .returned (.bool T.rule3) ∧ Below w.heap.size w w' := by
  obtain ⟨A0, A1, A2, A3, A4, A5, A6, A7, A8, A9, A10, A11, k0, k1, k2, k3, k4, k5, k6, k7, k8, k9, k10, k11, rfl⟩ := ht.shape
  have HR := Lib.hid (fun o : Obj => ht.later ((Below.refl _ _).alloc (Nat.le_refl _) o))
  clear ht
  obtain ⟨R, hR⟩ : ∃ R, R = T.rule3 := ⟨_, rfl⟩
  rw [← hR]
  have HR1 : Hid ((T.cols.drop 0).all valsOk = R) := Lib.hid hR.symm
  clear hR
  go_enter Tryd.func70, Tryd.ntmps70
  go_wp2_with fail
  refine (columns_any _ T _ (HR.out _)).mono ?_
  rintro e w1 ⟨ad, rfl, hc, b1⟩
  have HC := Lib.hid hc.2
  have hca := hc.1
  have hbel1 := below_next ((Below.refl _ _).alloc (Nat.le_refl _) _) b1
  clear hc b1 HR
  go_wp2_with fail
  go_loopw [10] (fun i wr => ∃ (k : Nat), k ≤ 7 ∧ i = .int .i64 k ∧ Hid ((T.cols.drop k).all valsOk = R) ∧ Below w1.heap.size w1 wr) (fun i _ => 7 - (intOf i).toNat)
  case atStart => exact ⟨0, by omega, rfl, HR1, Below.refl _ _⟩
  case round =>
    obtain ⟨k, hk, rfl, HS, hbel⟩ := hrel
    clear HR1
    by_cases hlt : k < 7
    · obtain ⟨⟨l, lo, hi⟩, hxk, _⟩ := get_el (xs := T.cols) (k := k) hlt
      obtain ⟨v, d0, d1, d2, hv⟩ := HC.out k _ hxk
      simp only at d0 d1 d2 hv
      obtain ⟨A, c, rfl, hc1, hc2, _, hcell⟩ := id hv
      have HCE := Lib.hid hcell
      have hlm : l.length ≤ 9223372036854775807 := by unfold maxLen at hc2; omega
      obtain ⟨e0, e1, e2⟩ := span_cells hbel hca d0 d1 d2
      have HX := Lib.hid hxk
      clear d0 d1 d2 hxk hcell hv hc1 hc2
      have q0 : (0 : Int) ≤ (k : Int) := by omega
      have q1 : (k : Int) < (7 : Int) := by omega
      obtain ⟨Ro, hRo⟩ : ∃ Ro, Ro = l.all (spVal lo hi) := ⟨_, rfl⟩
      have HO : Hid ((l.drop 0).all (spVal lo hi) = Ro) := Lib.hid hRo.symm
      have HCO : Hid (valsOk (l, lo, hi) = Ro) := Lib.hid hRo.symm
      clear hRo
      go_wp2_with fail
      have hbw := hbel.alloc hbel.size (.cells #[.slice A l.length c, .int .i64 lo, .int .i64 hi] 89)
      have HBC := Lib.hid (Blk.new wr 89 #[.slice A l.length c, .int .i64 lo, .int .i64 hi])
      generalize wr.alloc (.cells #[.slice A l.length c, .int .i64 lo, .int .i64 hi] 89) = wo at *
      clear e0 e1 e2 hbel
      go_loopw [17] (fun i wj => ∃ (j : Nat), j ≤ l.length ∧ i = .int .i64 j ∧ Hid ((l.drop j).all (spVal lo hi) = Ro) ∧ Below wo.heap.size wo wj) (fun i _ => l.length - (intOf i).toNat)
      case atStart => exact ⟨0, by omega, rfl, HO, Below.refl _ _⟩
      case round =>
        obtain ⟨j, hj, rfl, HSj, hbelj⟩ := hrel
        clear HO
        by_cases hjl : j < l.length
        · obtain ⟨⟨f, t, x⟩, hxj, _⟩ := get_el hjl
          obtain ⟨aj, rfl, ha, d0, d1, d2⟩ := HCE.out j _ hxj
          simp only at d0 d1 d2
          obtain ⟨e0, e1, e2⟩ := span_cells (below_next hbw hbelj) ha d0 d1 d2
          have HXj := Lib.hid hxj
          have hbc := (HBC.out.later hbelj).alloc (.cells #[.int .i64 f, .int .i64 t, .int .i64 x] 44)
          have c1 := hbc.at_ (i := 1) (u := .int .i64 lo) rfl
          have c2 := hbc.at_ (i := 2) (u := .int .i64 hi) rfl
          clear d0 d1 d2 hxj ha hbc
          have r0 : (0 : Int) ≤ (j : Int) := by omega
          have r1 : (j : Int) < (l.length : Int) := by omega
          rcases val_ways lo hi x with ⟨ho, p0, p1⟩ | ⟨ho, p0⟩ | ⟨ho, p0, p1⟩
          · have HN := Lib.hid (each_go HXj.out HSj.out ho)
            clear ho
            go_wp2_with fail
            go_roundw
            case rel => exact ⟨j + 1, by omega, by go_num, HN, hbelj.alloc hbelj.size _⟩
            case measure => simp [intOf]; omega
          · have HN := Lib.hid (each_no HXj.out HSj.out ho)
            clear ho
            go_wp2_with fail
            go_ret
            rw [each_no HX.out HS.out (HCO.out.trans HN.out)]
            exact ⟨rfl, below_next hbel1 (below_next hbw (hbelj.alloc hbelj.size _))⟩
          · have HN := Lib.hid (each_no HXj.out HSj.out ho)
            clear ho
            go_wp2_with fail
            go_ret
            rw [each_no HX.out HS.out (HCO.out.trans HN.out)]
            exact ⟨rfl, below_next hbel1 (below_next hbw (hbelj.alloc hbelj.size _))⟩
        · have HN := Lib.hid (each_go HX.out HS.out (HCO.out.trans (each_end (by omega) HSj.out)))
          go_wp2_with fail
          go_roundw
          case rel => exact ⟨k + 1, by omega, by go_num, HN, below_next hbw hbelj⟩
          case measure => simp [intOf]; omega
    · have HN := Lib.hid (each_end (by show 7 ≤ k; omega) HS.out)
      go_wp2_with fail
      go_ret
      rw [HN.out]
      exact ⟨rfl, below_next hbel1 hbel⟩

theorem cols_most {T : Tab} {k : Nat} {l : List Sp} {lo hi : Int} (h : T.cols[k]? = some (l, lo, hi)) : mostL[k]? = some hi ∧ (lo = 1 ∧ (k = 1 ∨ k = 6) ∨ lo = 0 ∧ k ≠ 1 ∧ k ≠ 6) := by
  have hk7 : k < 7 := (List.getElem?_eq_some_iff.1 h).1
  have h7 : k = 0 ∨ k = 1 ∨ k = 2 ∨ k = 3 ∨ k = 4 ∨ k = 5 ∨ k = 6 := by omega
  rcases h7 with rfl | rfl | rfl | rfl | rfl | rfl | rfl <;> cases h
  · exact ⟨rfl, .inr ⟨rfl, by decide, by decide⟩⟩
  · exact ⟨rfl, .inl ⟨rfl, .inl rfl⟩⟩
  · exact ⟨rfl, .inr ⟨rfl, by decide, by decide⟩⟩
  · exact ⟨rfl, .inr ⟨rfl, by decide, by decide⟩⟩
  · exact ⟨rfl, .inr ⟨rfl, by decide, by decide⟩⟩
  · exact ⟨rfl, .inr ⟨rfl, by decide, by decide⟩⟩
  · exact ⟨rfl, .inl ⟨rfl, .inr rfl⟩⟩
theorem rng_ways {lo hi x : Int} {k : Nat} (h : lo = 1 ∧ (k = 1 ∨ k = 6) ∨ lo = 0 ∧ k ≠ 1 ∧ k ≠ 6) :
    (decide (lo ≤ x ∧ x ≤ hi) = false ∧ decide (x < 0) = true) ∨ (decide (lo ≤ x ∧ x ≤ hi) = false ∧ decide (x < 0) = false ∧ decide (hi < x) = true) ∨
    (decide (lo ≤ x ∧ x ≤ hi) = true ∧ decide (x < 0) = false ∧ decide (hi < x) = false ∧ (x == 0) = false) ∨
    (decide (lo ≤ x ∧ x ≤ hi) = false ∧ decide (x < 0) = false ∧ decide (hi < x) = false ∧ (x == 0) = true ∧ ((k : Int) == 1) = true) ∨
    (decide (lo ≤ x ∧ x ≤ hi) = false ∧ decide (x < 0) = false ∧ decide (hi < x) = false ∧ (x == 0) = true ∧ ((k : Int) == 1) = false ∧ ((k : Int) == 6) = true) ∨
    (decide (lo ≤ x ∧ x ≤ hi) = true ∧ decide (x < 0) = false ∧ decide (hi < x) = false ∧ (x == 0) = true ∧ ((k : Int) == 1) = false ∧ ((k : Int) == 6) = false) := by
  simp only [decide_eq_true_eq, decide_eq_false_iff_not, beq_iff_eq, beq_eq_false_iff_ne, ne_eq]
  omega

set_option maxRecDepth 100000 in
set_option maxHeartbeats 4000000 in
theorem ranged_any (t : Tv) (T : Tab) (w : World) (ht : TabR w w.heap.size t T) :
    Calls Tryd.prog 101 #[t.val] w fun e w' => e = .returned (.bool T.rule3) ∧ Below w.heap.size w w' := by
  obtain ⟨A0, A1, A2, A3, A4, A5, A6, A7, A8, A9, A10, A11, k0, k1, k2, k3, k4, k5, k6, k7, k8, k9, k10, k11, rfl⟩ := ht.shape
  have HR := Lib.hid (fun o : Obj => ht.later ((Below.refl _ _).alloc (Nat.le_refl _) o))
  clear ht
  obtain ⟨R, hR⟩ : ∃ R, R = T.rule3 := ⟨_, rfl⟩
  rw [← hR]
  have HR1 : Hid ((T.cols.drop 0).all valsOk = R) := Lib.hid hR.symm
  clear hR
  go_enter Tryd.func101, Tryd.ntmps101
  go_wp2_with fail
  refine (refSpans_any _ T _ (HR.out _)).mono ?_
  rintro e w1 ⟨ad, am, rfl, hc, hm, b1⟩
  have HC := Lib.hid hc.2
  have hca := hc.1
  have HM := Lib.hid hm.2
  have hma := hm.1
  have hbel1 := below_next ((Below.refl _ _).alloc (Nat.le_refl _) _) b1
  clear hc hm b1 HR
  go_wp2_with fail
  go_loopw [16] (fun i wr => ∃ (k : Nat), k ≤ 7 ∧ i = .int .i64 k ∧ Hid ((T.cols.drop k).all valsOk = R) ∧ Below w1.heap.size w1 wr) (fun i _ => 7 - (intOf i).toNat)
  case atStart => exact ⟨0, by omega, rfl, HR1, Below.refl _ _⟩
  case round =>
    obtain ⟨k, hk, rfl, HS, hbel⟩ := hrel
    clear HR1
    by_cases hlt : k < 7
    · obtain ⟨⟨l, lo, hi⟩, hxk, _⟩ := get_el (xs := T.cols) (k := k) hlt
      obtain ⟨v, d0, hv⟩ := HC.out k _ hxk
      simp only at d0 hv
      obtain ⟨A, c, rfl, hc1, hc2, _, hcell⟩ := id hv
      have HCE := Lib.hid hcell
      have hlm : l.length ≤ 9223372036854775807 := by unfold maxLen at hc2; omega
      obtain ⟨hmo, hlo⟩ := cols_most hxk
      have m0 := HM.out k hi hmo
      have HLO := Lib.hid hlo
      have e0 := (hbel.cell (p := ad.add k) (by rw [block_of_add]; exact hca)).trans d0
      have HX := Lib.hid hxk
      have HM0 := Lib.hid m0
      clear d0 hxk hcell hv hc1 hc2 hmo hlo m0
      have q0 : (0 : Int) ≤ (k : Int) := by omega
      have q1 : (k : Int) < (7 : Int) := by omega
      obtain ⟨Ro, hRo⟩ : ∃ Ro, Ro = l.all (spVal lo hi) := ⟨_, rfl⟩
      have HO : Hid ((l.drop 0).all (spVal lo hi) = Ro) := Lib.hid hRo.symm
      have HCO : Hid (valsOk (l, lo, hi) = Ro) := Lib.hid hRo.symm
      clear hRo
      go_wp2_with fail
      clear e0
      go_loopw [23] (fun i wj => ∃ (j : Nat), j ≤ l.length ∧ i = .int .i64 j ∧ Hid ((l.drop j).all (spVal lo hi) = Ro) ∧ Below w1.heap.size w1 wj) (fun i _ => l.length - (intOf i).toNat)
      case atStart => exact ⟨0, by omega, rfl, HO, hbel⟩
      case round =>
        obtain ⟨j, hj, rfl, HSj, hbelj⟩ := hrel
        clear HO hbel
        by_cases hjl : j < l.length
        · obtain ⟨⟨f, t, x⟩, hxj, _⟩ := get_el hjl
          obtain ⟨aj, rfl, ha, d0, d1, d2⟩ := HCE.out j _ hxj
          simp only at d0 d1 d2
          obtain ⟨e0, e1, e2⟩ := span_cells hbelj ha d0 d1 d2
          have HXj := Lib.hid hxj
          have f0 := (hbelj.cell (p := am.add k) (by rw [block_of_add]; exact hma)).trans HM0.out
          have g0 := fun o : Obj => (World.cell?_alloc_lt _ o (am.add k) (World.block_lt_of_cell? _ _ f0)).trans f0
          clear d0 d1 d2 hxj ha f0
          have r0 : (0 : Int) ≤ (j : Int) := by omega
          have r1 : (j : Int) < (l.length : Int) := by omega
          rcases rng_ways (x := x) (hi := hi) HLO.out with ⟨ho, p0⟩ | ⟨ho, p0, p1⟩ | ⟨ho, p0, p1, p2⟩ | ⟨ho, p0, p1, p2, p3⟩ | ⟨ho, p0, p1, p2, p3, p4⟩ | ⟨ho, p0, p1, p2, p3, p4⟩
          · have HN := Lib.hid (each_no HXj.out HSj.out ho)
            clear ho
            go_wp2_with fail
            go_quiet (fail)
            go_wp2_with fail
            go_ret
            rw [each_no HX.out HS.out (HCO.out.trans HN.out)]
            exact ⟨rfl, below_next hbel1 (below_drewN (hbelj.alloc hbelj.size _) nq)⟩
          · have HN := Lib.hid (each_no HXj.out HSj.out ho)
            clear ho
            go_wp2_with fail
            go_quiet (fail)
            go_wp2_with fail
            go_ret
            rw [each_no HX.out HS.out (HCO.out.trans HN.out)]
            exact ⟨rfl, below_next hbel1 (below_drewN (hbelj.alloc hbelj.size _) nq)⟩
          · have HN := Lib.hid (each_go HXj.out HSj.out ho)
            clear ho
            go_wp2_with fail
            go_quiet (fail)
            go_wp2_with fail
            go_roundw
            case rel => exact ⟨j + 1, by omega, by go_num, HN, below_drewN (hbelj.alloc hbelj.size _) nq⟩
            case measure => simp [intOf]; omega
          · have HN := Lib.hid (each_no HXj.out HSj.out ho)
            clear ho
            go_wp2_with fail
            go_quiet (fail)
            go_wp2_with fail
            go_ret
            rw [each_no HX.out HS.out (HCO.out.trans HN.out)]
            exact ⟨rfl, below_next hbel1 (below_drewN (hbelj.alloc hbelj.size _) nq)⟩
          · have HN := Lib.hid (each_no HXj.out HSj.out ho)
            clear ho
            go_wp2_with fail
            go_quiet (fail)
            go_wp2_with fail
            go_ret
            rw [each_no HX.out HS.out (HCO.out.trans HN.out)]
            exact ⟨rfl, below_next hbel1 (below_drewN (hbelj.alloc hbelj.size _) nq)⟩
          · have HN := Lib.hid (each_go HXj.out HSj.out ho)
            clear ho
            go_wp2_with fail
            go_quiet (fail)
            go_wp2_with fail
            go_roundw
            case rel => exact ⟨j + 1, by omega, by go_num, HN, below_drewN (hbelj.alloc hbelj.size _) nq⟩
            case measure => simp [intOf]; omega
        · have HN := Lib.hid (each_go HX.out HS.out (HCO.out.trans (each_end (by omega) HSj.out)))
          go_wp2_with fail
          go_roundw
          case rel => exact ⟨k + 1, by omega, by go_num, HN, hbelj⟩
          case measure => simp [intOf]; omega
    · have HN := Lib.hid (each_end (by show 7 ≤ k; omega) HS.out)
      go_wp2_with fail
      go_ret
      rw [HN.out]
      exact ⟨rfl, below_next hbel1 hbel⟩
end Go.Proofs.YtneinkpfhkojgaaDoor
/-
  The walk through the reference's Scalar.
-/
namespace Go.Proofs.YtneinkpfhkojgaaDoor
open Go.RowKit ND

set_option maxHeartbeats 400000 in
theorem refScalar_any (c : Int) (w : World) : Calls Tryd.prog 85 #[.int .i64 c] w fun e w' => e = .returned (.bool (scalarB c)) ∧ w = w' := by
  go_enter Tryd.func85, Tryd.ntmps85
  go_wp2
  all_goals go_ret
  all_goals refine ⟨ret_bool (bool_eq ?_), rfl⟩
  all_goals rw [scalarB_iff]
  all_goals simp
  all_goals omega
end Go.Proofs.YtneinkpfhkojgaaDoor
