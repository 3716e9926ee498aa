/-
  Merged texts: lemmas and walks that the last text of this claim leans on.
-/
import Derived.Test.YtecpbicfiaifdaaGreatDoorMgB711
import Derived.Test.YtecpbicfiaifdaaGreatDoorMgB716
import Derived.Deep.RegionHeld3
import Derived.Test.YtecpbicfiaifdaaGreatDoorMgB71
import Derived.ChangeKeysEq
import Derived.Maps.Own
/-
  The walk through the reference's Composable.
-/
namespace Go.Proofs.YtecpbicfiaifdaaGreatDoor
open Go.RowKit ND

/-- Every full decomposition ends and is short. -/
def Ends (T : Tab) : Prop := ∀ c, fin T.decomps T.decomps.length c = true ∧ fullF T.decomps 257 [c] = some (expF T.decomps T.decomps.length c) ∧ (expF T.decomps T.decomps.length c).length ≤ 18
theorem Ends.of {T : Tab} (hl : T.decomps.length ≤ 256) (h : T.rule6 = true) : Ends T := by
  intro c
  unfold Tab.rule6 at h
  rw [Bool.and_eq_true, List.all_eq_true, List.all_eq_true] at h
  have hs : sizeF T.decomps (T.decomps.length + 1) c ≤ 18 := by
    by_cases hn : findL T.decomps c = []
    · rw [sizeF_none hn]; omega
    · have := h.2 _ (findL_mem hn)
      unfold Tab.szOk at this
      simpa using this
  rcases full_size hl c with ⟨_, h1, h2, h3⟩ | ⟨h1, _⟩
  · exact ⟨h2, h1, h3⟩
  · exact absurd hs h1
theorem lastF_same {D : List Mp} {f g : Nat} {c : Int} (hf : fin D f c = true) (hg : fin D g c = true) : lastF D f c = lastF D g c := by
  unfold lastF
  rcases Nat.le_total f g with h | h
  · rw [(fin_up hf g h).2]
  · rw [(fin_up hg f h).2]

set_option maxRecDepth 100000 in
set_option maxHeartbeats 8000000 in
theorem refComposable_any (t : Tv) (T : Tab) (hsh : Shape T) (hne : ∀ m ∈ T.decomps, m.2 ≠ [] ∧ m.2.length ≤ 1000) (hen : Ends T) : ∀ (f : Nat) (c : Int) (w : World), TabR w w.heap.size t T → fin T.decomps f c = true →
    Calls Tryz.prog 74 #[t.val, .int .i64 c] w fun e w' => e = .returned (.bool (T.compF f c)) ∧ Below w.heap.size w w' := by
  intro f
  induction f with
  | zero =>
    intro c w ht hfin
    have hn : findL T.decomps c = [] := by rw [fin_zero, decide_eq_true_eq] at hfin; exact hfin
    obtain ⟨uc, huc, hucn, hfc⟩ := refFind_v t.c9 T.decomps c w ht.r9 (keysB_sort hsh.kd)
    have HF := Lib.hid hfc
    obtain ⟨A0, A1, A2, A3, A4, A5, A6, A7, A8, A9, A10, A11, k0, k1, k2, k3, k4, k5, k6, k7, k8, k9, k10, k11, rfl⟩ := ht.shape
    obtain ⟨Au, ku, rfl⟩ := hucn hn
    have HB := Lib.hid (show Blk (w.alloc (.cells #[.slice A0 T.category.length k0, .slice A1 T.cls.length k1, .slice A2 T.joining.length k2, .slice A3 T.bidi.length k3, .slice A4 T.script.length k4, .slice A5 T.status.length k5, .slice A6 T.ignorable.length k6, .slice A7 T.extensions.length k7, .slice A8 T.maps.length k8, .slice A9 T.decomps.length k9, .slice A10 T.excluded.length k10, .slice A11 T.prototypes.length k11] 26)) w.heap.size 26 #[.slice A0 T.category.length k0, .slice A1 T.cls.length k1, .slice A2 T.joining.length k2, .slice A3 T.bidi.length k3, .slice A4 T.script.length k4, .slice A5 T.status.length k5, .slice A6 T.ignorable.length k6, .slice A7 T.extensions.length k7, .slice A8 T.maps.length k8, .slice A9 T.decomps.length k9, .slice A10 T.excluded.length k10, .slice A11 T.prototypes.length k11] from Blk.new _ _ _)
    have p1 : ((0 : Int) != 2) = true := by decide
    clear hfc huc hucn hn ht hfin
    show Calls _ _ _ _ fun e w' => e = .returned (.bool false) ∧ _
    go_enter Tryz.func74, Tryz.ntmps74
    go_wp2_with fail
    refine (HF.out _ ((Below.refl _ _).alloc (Nat.le_refl _) _)).mono ?_
    rintro e w0 ⟨rfl, b0⟩
    have HB0 := Lib.hid (HB.out.later b0)
    have hbel := below_next ((Below.refl w.heap.size w).alloc (Nat.le_refl _) _) b0
    clear b0 HB
    go_wp2_with fail
    obtain ⟨x0, x1, x2, x3, x4, x5, x6, x7, x8, x9, x10, x11⟩ := (HB0.out.later (Below.refl _ _)).tabG
    refine wp_region_quiet_below (by kernel_rfl) (by kernel_rfl) ?_
    repeat (go_big_quiet_step (fail))
    refine wpQuiet_nil ?_
    rintro _ ⟨⟨dq, osq⟩, rfl⟩
    clear x0 x1 x2 x3 x4 x5 x6 x7 x8 x9 x10 x11
    go_wp2_with fail
    go_ret
    exact ⟨rfl, below_next hbel (below_regrown _ dq osq)⟩
  | succ f ih =>
    intro c w ht hfin
    have HT := Lib.hid (fun W (h : Below w.heap.size w W) => ht.later h)
    have hs := keysB_sort hsh.kd
    have HEX := Lib.hid (fun x W h => refExcluded_any t T x W h)
    have HCL := Lib.hid (fun x W h => refClass_any t T x W h)
    have HFU := Lib.hid (fun x W h => full_any t T x W h hne)
    have HEN := Lib.hid hen
    have HIH := Lib.hid ih
    have HFV := Lib.hid (fun x W (h : TabR W W.heap.size t T) => refFind_v t.c9 T.decomps x W h.r9 hs)
    obtain ⟨uc, huc, hucn, hfc⟩ := refFind_v t.c9 T.decomps c w ht.r9 hs
    have HF := Lib.hid hfc
    obtain ⟨A0, A1, A2, A3, A4, A5, A6, A7, A8, A9, A10, A11, k0, k1, k2, k3, k4, k5, k6, k7, k8, k9, k10, k11, rfl⟩ := ht.shape
    obtain ⟨As, cs, rfl, hcs1, hcs2, _, hcell⟩ := huc
    have hlt : (findL T.decomps c).length ≤ 9223372036854775807 := by unfold maxLen at hcs2; omega
    have HCE := Lib.hid hcell
    have HFN := Lib.hid hfin
    have HBB := Lib.hid (show Blk (w.alloc (.cells #[.slice A0 T.category.length k0, .slice A1 T.cls.length k1, .slice A2 T.joining.length k2, .slice A3 T.bidi.length k3, .slice A4 T.script.length k4, .slice A5 T.status.length k5, .slice A6 T.ignorable.length k6, .slice A7 T.extensions.length k7, .slice A8 T.maps.length k8, .slice A9 T.decomps.length k9, .slice A10 T.excluded.length k10, .slice A11 T.prototypes.length k11] 26)) w.heap.size 26 #[.slice A0 T.category.length k0, .slice A1 T.cls.length k1, .slice A2 T.joining.length k2, .slice A3 T.bidi.length k3, .slice A4 T.script.length k4, .slice A5 T.status.length k5, .slice A6 T.ignorable.length k6, .slice A7 T.extensions.length k7, .slice A8 T.maps.length k8, .slice A9 T.decomps.length k9, .slice A10 T.excluded.length k10, .slice A11 T.prototypes.length k11] from Blk.new _ _ _)
    clear ht ih hcell hcs1 hcs2 hfin hs hfc hucn
    by_cases hl : (findL T.decomps c).length = 2
    · obtain ⟨a, b, hfd⟩ : ∃ a b, findL T.decomps c = [a, b] := by
        match findL T.decomps c, hl with
        | [a, b], _ => exact ⟨a, b, rfl⟩
      obtain ⟨R, hR⟩ : ∃ R, R = T.compF (f + 1) c := ⟨_, rfl⟩
      rw [← hR]
      have HRC := Lib.hid (hR.trans (comp_two (T := T) (f := f) hfd))
      have hffa : fin T.decomps f a = true := by
        have h := HFN.out
        rw [fin_succ (by rw [hfd]; intro h; cases h), hfd] at h
        simp only [List.all_cons, Bool.and_eq_true] at h
        exact h.1
      have HFA := Lib.hid hffa
      rw [hfd] at HCE HF hlt
      obtain ⟨ad, hAs, had, h0⟩ := HCE.out 0 a rfl
      subst hAs
      obtain ⟨_, hAs, _, h1⟩ := HCE.out 1 b rfl
      cases hAs
      have HA0 := Lib.hid h0
      have HA1 := Lib.hid (show w.cell? { block := ad.block, off := ad.off + 1, spot := none } = some (.int .i64 b) from h1)
      have p1 : ((2 : Int) != 2) = false := by decide
      clear hR hl h0 h1 hffa hlt HFN HCE hfd hen
      go_enter Tryz.func74, Tryz.ntmps74
      go_wp2_with fail
      refine (HF.out _ ((Below.refl _ _).alloc (Nat.le_refl _) _)).mono ?_
      rintro e w0 ⟨rfl, b0⟩
      have HB0 := Lib.hid (HBB.out.later b0)
      have HBEL := Lib.hid (below_next ((Below.refl w.heap.size w).alloc (Nat.le_refl _) _) b0)
      clear b0 HBB
      have HTW := Lib.hid (fun W (h : Below w0.heap.size w0 W) => HT.out W (below_next HBEL.out h))
      have HEXW := Lib.hid (fun x W (h : Below w0.heap.size w0 W) => HEX.out x W (HTW.out W h))
      have HCLW := Lib.hid (fun x W (h : Below w0.heap.size w0 W) => HCL.out x W (HTW.out W h))
      have HFUW := Lib.hid (fun x W (h : Below w0.heap.size w0 W) => HFU.out x W (HTW.out W h))
      obtain ⟨ub, hub, hubn, hfb⟩ := HFV.out b w0 (HTW.out w0 (Below.refl _ _))
      have HFB := Lib.hid hfb
      obtain ⟨ua, hua, huan, hfa⟩ := HFV.out a w0 (HTW.out w0 (Below.refl _ _))
      have HFAF := Lib.hid hfa
      obtain ⟨Ab, kb, rfl, _⟩ := hub
      obtain ⟨Aa, ka, rfl, _⟩ := hua
      clear hfb hfa HT HEX HCL HFV hubn huan HFU
      cases hex : T.excB c
      · have HE := Lib.hid hex
        have HEXQ := Lib.hid (fun W (h : Below w0.heap.size w0 W) => HEXW.out c W h)
        rw [hex] at HEXQ
        clear hex
        by_cases hc0 : T.classOf c = 0
        · have q1 : (T.classOf c != 0) = false := by rw [bne_eq_false_iff_eq]; exact hc0
          have HC0 := Lib.hid hc0
          clear hc0
          by_cases ha0 : T.classOf a = 0
          · have q2 : (T.classOf a != 0) = false := by rw [bne_eq_false_iff_eq]; exact ha0
            have HAC := Lib.hid ha0
            clear ha0
            by_cases hbn : findL T.decomps b = []
            · have HBN := Lib.hid hbn
              have HRC2 : Hid (R = ((decide (findL T.decomps a = []) || T.compF f a) && (decide (T.classOf b = 0) || decide (T.classOf (lastF T.decomps f a) ≤ T.classOf b)))) := Lib.hid (by
                rw [HRC.out, HE.out, decide_eq_true HC0.out, decide_eq_true HAC.out, decide_eq_true HBN.out]; rfl)
              rw [hbn] at HFB
              have q3 : ([] : List Int).length = 0 := rfl
              clear hbn
              go_wp2_with fail
              obtain ⟨x0, x1, x2, x3, x4, x5, x6, x7, x8, x9, x10, x11⟩ := (HB0.out.later (Below.refl _ _)).tabG
              have a0 := cell_regrown ((below_next HBEL.out (Below.refl _ _)).cell (p := ad.add 0) (by rw [block_of_add]; exact had) |>.trans HA0.out)
              have a0' : ∀ d os, (Go.Sort.grow (redrawn _ d) os).cell? ad = some (.int .i64 a) := a0
              have b0 := cell_regrown ((below_next HBEL.out (Below.refl _ _)).cell (p := { block := ad.block, off := ad.off + 1, spot := none }) had |>.trans HA1.out)
              refine wp_region_quiet_below (by kernel_rfl) (by kernel_rfl) ?_
              repeat (go_big_quiet_step (first | (go_at_call 95; exact quiet_t (fun W hW => HEXQ.out W hW)) | (go_at_call 23; exact quiet_t (fun W hW => HCLW.out _ W hW)) | (go_at_call 56; exact quiet_t (fun W hW => HFB.out W hW))))
              refine wpQuiet_nil ?_
              rintro _ ⟨⟨dq, osq⟩, rfl⟩
              clear x0 x1 x2 x3 x4 x5 x6 x7 x8 x9 x10 x11 a0 a0' b0
              clear q3
              have hb1 := below_regrown w0 dq osq
              generalize Go.Sort.grow (redrawn w0 dq) osq = w1 at *
              by_cases han : findL T.decomps a = []
              · have HRC3 : Hid (R = (decide (T.classOf b = 0) || decide (T.classOf (lastF T.decomps f a) ≤ T.classOf b))) := Lib.hid (by rw [HRC2.out, decide_eq_true han]; rfl)
                rw [han] at HFAF
                have q3 : ([] : List Int).length = 0 := rfl
                clear han
                go_wp2_with fail
                obtain ⟨x0, x1, x2, x3, x4, x5, x6, x7, x8, x9, x10, x11⟩ := (HB0.out.later hb1).tabG
                have a0 := cell_regrown ((below_next HBEL.out hb1).cell (p := ad.add 0) (by rw [block_of_add]; exact had) |>.trans HA0.out)
                have a0' : ∀ d os, (Go.Sort.grow (redrawn _ d) os).cell? ad = some (.int .i64 a) := a0
                have b0 := cell_regrown ((below_next HBEL.out hb1).cell (p := { block := ad.block, off := ad.off + 1, spot := none }) had |>.trans HA1.out)
                refine wp_region_quiet_below (by kernel_rfl) (by kernel_rfl) ?_
                repeat (go_big_quiet_step ((go_at_call 56; exact quiet_t (fun W hW => HFAF.out W (below_next hb1 hW)))))
                refine wpQuiet_nil ?_
                rintro _ ⟨⟨dq, osq⟩, rfl⟩
                clear x0 x1 x2 x3 x4 x5 x6 x7 x8 x9 x10 x11 a0 a0' b0
                have hb3 := below_next hb1 (below_regrown w1 dq osq)
                generalize Go.Sort.grow (redrawn w1 dq) osq = w3 at *
                clear hb1 q3
                obtain ⟨hea, hfua, hela⟩ := HEN.out a
                have HXL := Lib.hid (lastF_same hea HFA.out)
                have HFX := Lib.hid (HFUW.out a)
                rw [hfua] at HFX
                obtain ⟨n, hn⟩ : ∃ n, (expF T.decomps T.decomps.length a).length = n + 1 := ⟨(expF T.decomps T.decomps.length a).length - 1, by have := length_pos_ne (expF_ne T.decomps T.decomps.length a); omega⟩
                have HNN := Lib.hid hn
                clear hea hfua hn
                go_wp2_with fail
                obtain ⟨x0, x1, x2, x3, x4, x5, x6, x7, x8, x9, x10, x11⟩ := (HB0.out.later hb3).tab
                have a0 := ((below_next HBEL.out hb3).cell (p := ad.add 0) (by rw [block_of_add]; exact had)).trans HA0.out
                have a0' : w3.cell? ad = some (.int .i64 a) := a0
                go_region_held3 (fun w' => w'.cell? ⟨w.heap.size, 0, none⟩ = some (.slice A0 T.category.length k0) ∧ w'.cell? ⟨w.heap.size, 1, none⟩ = some (.slice A1 T.cls.length k1) ∧ w'.cell? ⟨w.heap.size, 2, none⟩ = some (.slice A2 T.joining.length k2) ∧ w'.cell? ⟨w.heap.size, 3, none⟩ = some (.slice A3 T.bidi.length k3) ∧ w'.cell? ⟨w.heap.size, 4, none⟩ = some (.slice A4 T.script.length k4) ∧ w'.cell? ⟨w.heap.size, 5, none⟩ = some (.slice A5 T.status.length k5) ∧ w'.cell? ⟨w.heap.size, 6, none⟩ = some (.slice A6 T.ignorable.length k6) ∧ w'.cell? ⟨w.heap.size, 7, none⟩ = some (.slice A7 T.extensions.length k7) ∧ w'.cell? ⟨w.heap.size, 8, none⟩ = some (.slice A8 T.maps.length k8) ∧ w'.cell? ⟨w.heap.size, 9, none⟩ = some (.slice A9 T.decomps.length k9) ∧ w'.cell? ⟨w.heap.size, 10, none⟩ = some (.slice A10 T.excluded.length k10) ∧ w'.cell? ⟨w.heap.size, 11, none⟩ = some (.slice A11 T.prototypes.length k11) ∧ w'.cell? ad = some (.int .i64 a)) (go_keep)
                  ((go_at_call 72; refine (HFX.out _ (show Below w0.heap.size w0 (World.drew w3) from hb3.drew)).mono ?_; rintro e w4 ⟨ux, rfl, hux, b4⟩; obtain ⟨x0, x1, x2, x3, x4, x5, x6, x7, x8, x9, x10, x11⟩ := ((HB0.out.later (show Below w0.heap.size w0 (World.drew w3) from hb3.drew)).later b4).tab; have a0 := (b4.cell (p := ad) (by have := (below_next HBEL.out hb3).size; simp; omega)).trans a0'))
                clear x0 x1 x2 x3 x4 x5 x6 x7 x8 x9 x10 x11 a0 a0'
                have hb4 := below_next (show Below w0.heap.size w0 (World.drew w3) from hb3.drew) b4
                have HUX := Lib.hid hux
                clear b4 hux hb3
                have HLN := Lib.hid HNN.out
                simp only [Option.getD_some] at HUX
                obtain ⟨adx, cx, hux, hax, _, _, hcx⟩ := HUX.out.some_ (expF_ne T.decomps T.decomps.length a)
                subst hux
                obtain ⟨_, z, hxz, hz⟩ := snoc_of HNN.out
                have HZL : Hid (lastF T.decomps f a = z) := Lib.hid (by rw [← HXL.out]; unfold lastF; rw [hxz, getLastD_app (by simp)]; rfl)
                have HZ := Lib.hid (hcx n z hz)
                have hw2 : IntKind.i64.wrap (((expF T.decomps T.decomps.length a).length : Int) - 1) = n := by rw [IntWalk.i64_in _ (by have := HNN.out; have := (HEN.out a).2.2; omega)]; have := HNN.out; omega
                have s0 : (0 : Int) ≤ (n : Int) := by omega
                have s1 : (n : Int) < ((expF T.decomps T.decomps.length a).length : Int) := by have := HNN.out; omega
                generalize (expF T.decomps T.decomps.length a).length = ln at *
                clear hcx hxz hz HUX
                by_cases hk0 : T.classOf b = 0
                · have q5 : (T.classOf b == 0) = true := by rw [beq_iff_eq]; exact hk0
                  have HK := Lib.hid hk0
                  clear hk0
                  go_wp2_with fail
                  obtain ⟨x0, x1, x2, x3, x4, x5, x6, x7, x8, x9, x10, x11⟩ := (HB0.out.later hb4).tabG
                  have a0 := cell_regrown ((below_next HBEL.out hb4).cell (p := ad.add 0) (by rw [block_of_add]; exact had) |>.trans HA0.out)
                  have a0' : ∀ d os, (Go.Sort.grow (redrawn _ d) os).cell? ad = some (.int .i64 a) := a0
                  have b0 := cell_regrown ((below_next HBEL.out hb4).cell (p := { block := ad.block, off := ad.off + 1, spot := none }) had |>.trans HA1.out)
                  refine wp_region_quiet_below (by kernel_rfl) (by kernel_rfl) ?_
                  repeat (go_big_quiet_step ((go_at_call 23; exact quiet_t (fun W hW => HCLW.out _ W (below_next hb4 hW)))))
                  refine wpQuiet_nil ?_
                  rintro _ ⟨⟨dq, osq⟩, rfl⟩
                  clear x0 x1 x2 x3 x4 x5 x6 x7 x8 x9 x10 x11 a0 a0' b0
                  go_wp2_with fail
                  go_ret
                  rw [HRC3.out, decide_eq_true HK.out]
                  exact ⟨by simp, below_next HBEL.out (below_next hb4 (below_regrown _ dq osq))⟩
                · have q5 : (T.classOf b == 0) = false := by rw [beq_eq_false_iff_ne]; exact hk0
                  have HK := Lib.hid hk0
                  clear hk0
                  go_wp2_with fail
                  obtain ⟨x0, x1, x2, x3, x4, x5, x6, x7, x8, x9, x10, x11⟩ := (HB0.out.later hb4).tabG
                  have a0 := cell_regrown ((below_next HBEL.out hb4).cell (p := ad.add 0) (by rw [block_of_add]; exact had) |>.trans HA0.out)
                  have a0' : ∀ d os, (Go.Sort.grow (redrawn _ d) os).cell? ad = some (.int .i64 a) := a0
                  have b0 := cell_regrown ((below_next HBEL.out hb4).cell (p := { block := ad.block, off := ad.off + 1, spot := none }) had |>.trans HA1.out)
                  have z0 := cell_regrown HZ.out
                  refine wp_region_quiet_below (by kernel_rfl) (by kernel_rfl) ?_
                  repeat (go_big_quiet_step ((go_at_call 23; exact quiet_t (fun W hW => HCLW.out _ W (below_next hb4 hW)))))
                  refine wpQuiet_nil ?_
                  rintro _ ⟨⟨dq, osq⟩, rfl⟩
                  clear x0 x1 x2 x3 x4 x5 x6 x7 x8 x9 x10 x11 a0 a0' b0
                  clear z0
                  go_wp2_with fail
                  go_ret
                  rw [HRC3.out, decide_eq_false HK.out, HZL.out]
                  exact ⟨by simp, below_next HBEL.out (below_next hb4 (below_regrown _ dq osq))⟩
              · have HCO := Lib.hid (fun W (h : Below w1.heap.size w1 W) => HIH.out a W (HTW.out W (below_next hb1 h)) HFA.out)
                have HAN := Lib.hid han
                have q5 : (0 : Int) < ((findL T.decomps a).length : Int) := by have := length_pos_ne han; omega
                have q6 : 0 < (findL T.decomps a).length := length_pos_ne han
                clear han
                cases hco : T.compF f a
                · rw [hco] at HCO
                  have HRC3 : Hid (R = false) := Lib.hid (by rw [HRC2.out, decide_eq_false HAN.out, hco]; rfl)
                  clear hco
                  go_wp2_with fail
                  obtain ⟨x0, x1, x2, x3, x4, x5, x6, x7, x8, x9, x10, x11⟩ := (HB0.out.later hb1).tabG
                  have a0 := cell_regrown ((below_next HBEL.out hb1).cell (p := ad.add 0) (by rw [block_of_add]; exact had) |>.trans HA0.out)
                  have a0' : ∀ d os, (Go.Sort.grow (redrawn _ d) os).cell? ad = some (.int .i64 a) := a0
                  have b0 := cell_regrown ((below_next HBEL.out hb1).cell (p := { block := ad.block, off := ad.off + 1, spot := none }) had |>.trans HA1.out)
                  refine wp_region_quiet_below (by kernel_rfl) (by kernel_rfl) ?_
                  repeat (go_big_quiet_step (first | (go_at_call 56; exact quiet_t (fun W hW => HFAF.out W (below_next hb1 hW))) | (go_at_call 74; exact quiet_t (fun W hW => HCO.out W hW))))
                  refine wpQuiet_nil ?_
                  rintro _ ⟨⟨dq, osq⟩, rfl⟩
                  clear x0 x1 x2 x3 x4 x5 x6 x7 x8 x9 x10 x11 a0 a0' b0
                  go_wp2_with fail
                  go_ret
                  rw [HRC3.out]
                  exact ⟨rfl, below_next HBEL.out (below_next hb1 (below_regrown _ dq osq))⟩
                · rw [hco] at HCO
                  have HRC3 : Hid (R = (decide (T.classOf b = 0) || decide (T.classOf (lastF T.decomps f a) ≤ T.classOf b))) := Lib.hid (by rw [HRC2.out, hco, Bool.or_true, Bool.true_and])
                  clear hco
                  go_wp2_with fail
                  obtain ⟨x0, x1, x2, x3, x4, x5, x6, x7, x8, x9, x10, x11⟩ := (HB0.out.later hb1).tabG
                  have a0 := cell_regrown ((below_next HBEL.out hb1).cell (p := ad.add 0) (by rw [block_of_add]; exact had) |>.trans HA0.out)
                  have a0' : ∀ d os, (Go.Sort.grow (redrawn _ d) os).cell? ad = some (.int .i64 a) := a0
                  have b0 := cell_regrown ((below_next HBEL.out hb1).cell (p := { block := ad.block, off := ad.off + 1, spot := none }) had |>.trans HA1.out)
                  refine wp_region_quiet_below (by kernel_rfl) (by kernel_rfl) ?_
                  repeat (go_big_quiet_step (first | (go_at_call 56; exact quiet_t (fun W hW => HFAF.out W (below_next hb1 hW))) | (go_at_call 74; exact quiet_t (fun W hW => HCO.out W hW))))
                  refine wpQuiet_nil ?_
                  rintro _ ⟨⟨dq, osq⟩, rfl⟩
                  clear x0 x1 x2 x3 x4 x5 x6 x7 x8 x9 x10 x11 a0 a0' b0
                  have hb3 := below_next hb1 (below_regrown w1 dq osq)
                  generalize Go.Sort.grow (redrawn w1 dq) osq = w3 at *
                  clear hb1 q5 q6
                  obtain ⟨hea, hfua, hela⟩ := HEN.out a
                  have HXL := Lib.hid (lastF_same hea HFA.out)
                  have HFX := Lib.hid (HFUW.out a)
                  rw [hfua] at HFX
                  obtain ⟨n, hn⟩ : ∃ n, (expF T.decomps T.decomps.length a).length = n + 1 := ⟨(expF T.decomps T.decomps.length a).length - 1, by have := length_pos_ne (expF_ne T.decomps T.decomps.length a); omega⟩
                  have HNN := Lib.hid hn
                  clear hea hfua hn
                  go_wp2_with fail
                  obtain ⟨x0, x1, x2, x3, x4, x5, x6, x7, x8, x9, x10, x11⟩ := (HB0.out.later hb3).tab
                  have a0 := ((below_next HBEL.out hb3).cell (p := ad.add 0) (by rw [block_of_add]; exact had)).trans HA0.out
                  have a0' : w3.cell? ad = some (.int .i64 a) := a0
                  go_region_held3 (fun w' => w'.cell? ⟨w.heap.size, 0, none⟩ = some (.slice A0 T.category.length k0) ∧ w'.cell? ⟨w.heap.size, 1, none⟩ = some (.slice A1 T.cls.length k1) ∧ w'.cell? ⟨w.heap.size, 2, none⟩ = some (.slice A2 T.joining.length k2) ∧ w'.cell? ⟨w.heap.size, 3, none⟩ = some (.slice A3 T.bidi.length k3) ∧ w'.cell? ⟨w.heap.size, 4, none⟩ = some (.slice A4 T.script.length k4) ∧ w'.cell? ⟨w.heap.size, 5, none⟩ = some (.slice A5 T.status.length k5) ∧ w'.cell? ⟨w.heap.size, 6, none⟩ = some (.slice A6 T.ignorable.length k6) ∧ w'.cell? ⟨w.heap.size, 7, none⟩ = some (.slice A7 T.extensions.length k7) ∧ w'.cell? ⟨w.heap.size, 8, none⟩ = some (.slice A8 T.maps.length k8) ∧ w'.cell? ⟨w.heap.size, 9, none⟩ = some (.slice A9 T.decomps.length k9) ∧ w'.cell? ⟨w.heap.size, 10, none⟩ = some (.slice A10 T.excluded.length k10) ∧ w'.cell? ⟨w.heap.size, 11, none⟩ = some (.slice A11 T.prototypes.length k11) ∧ w'.cell? ad = some (.int .i64 a)) (go_keep)
                    ((go_at_call 72; refine (HFX.out _ (show Below w0.heap.size w0 (World.drew w3) from hb3.drew)).mono ?_; rintro e w4 ⟨ux, rfl, hux, b4⟩; obtain ⟨x0, x1, x2, x3, x4, x5, x6, x7, x8, x9, x10, x11⟩ := ((HB0.out.later (show Below w0.heap.size w0 (World.drew w3) from hb3.drew)).later b4).tab; have a0 := (b4.cell (p := ad) (by have := (below_next HBEL.out hb3).size; simp; omega)).trans a0'))
                  clear x0 x1 x2 x3 x4 x5 x6 x7 x8 x9 x10 x11 a0 a0'
                  have hb4 := below_next (show Below w0.heap.size w0 (World.drew w3) from hb3.drew) b4
                  have HUX := Lib.hid hux
                  clear b4 hux hb3
                  have HLN := Lib.hid HNN.out
                  simp only [Option.getD_some] at HUX
                  obtain ⟨adx, cx, hux, hax, _, _, hcx⟩ := HUX.out.some_ (expF_ne T.decomps T.decomps.length a)
                  subst hux
                  obtain ⟨_, z, hxz, hz⟩ := snoc_of HNN.out
                  have HZL : Hid (lastF T.decomps f a = z) := Lib.hid (by rw [← HXL.out]; unfold lastF; rw [hxz, getLastD_app (by simp)]; rfl)
                  have HZ := Lib.hid (hcx n z hz)
                  have hw2 : IntKind.i64.wrap (((expF T.decomps T.decomps.length a).length : Int) - 1) = n := by rw [IntWalk.i64_in _ (by have := HNN.out; have := (HEN.out a).2.2; omega)]; have := HNN.out; omega
                  have s0 : (0 : Int) ≤ (n : Int) := by omega
                  have s1 : (n : Int) < ((expF T.decomps T.decomps.length a).length : Int) := by have := HNN.out; omega
                  generalize (expF T.decomps T.decomps.length a).length = ln at *
                  clear hcx hxz hz HUX
                  by_cases hk0 : T.classOf b = 0
                  · have q5 : (T.classOf b == 0) = true := by rw [beq_iff_eq]; exact hk0
                    have HK := Lib.hid hk0
                    clear hk0
                    go_wp2_with fail
                    obtain ⟨x0, x1, x2, x3, x4, x5, x6, x7, x8, x9, x10, x11⟩ := (HB0.out.later hb4).tabG
                    have a0 := cell_regrown ((below_next HBEL.out hb4).cell (p := ad.add 0) (by rw [block_of_add]; exact had) |>.trans HA0.out)
                    have a0' : ∀ d os, (Go.Sort.grow (redrawn _ d) os).cell? ad = some (.int .i64 a) := a0
                    have b0 := cell_regrown ((below_next HBEL.out hb4).cell (p := { block := ad.block, off := ad.off + 1, spot := none }) had |>.trans HA1.out)
                    refine wp_region_quiet_below (by kernel_rfl) (by kernel_rfl) ?_
                    repeat (go_big_quiet_step ((go_at_call 23; exact quiet_t (fun W hW => HCLW.out _ W (below_next hb4 hW)))))
                    refine wpQuiet_nil ?_
                    rintro _ ⟨⟨dq, osq⟩, rfl⟩
                    clear x0 x1 x2 x3 x4 x5 x6 x7 x8 x9 x10 x11 a0 a0' b0
                    go_wp2_with fail
                    go_ret
                    rw [HRC3.out, decide_eq_true HK.out]
                    exact ⟨by simp, below_next HBEL.out (below_next hb4 (below_regrown _ dq osq))⟩
                  · have q5 : (T.classOf b == 0) = false := by rw [beq_eq_false_iff_ne]; exact hk0
                    have HK := Lib.hid hk0
                    clear hk0
                    go_wp2_with fail
                    obtain ⟨x0, x1, x2, x3, x4, x5, x6, x7, x8, x9, x10, x11⟩ := (HB0.out.later hb4).tabG
                    have a0 := cell_regrown ((below_next HBEL.out hb4).cell (p := ad.add 0) (by rw [block_of_add]; exact had) |>.trans HA0.out)
                    have a0' : ∀ d os, (Go.Sort.grow (redrawn _ d) os).cell? ad = some (.int .i64 a) := a0
                    have b0 := cell_regrown ((below_next HBEL.out hb4).cell (p := { block := ad.block, off := ad.off + 1, spot := none }) had |>.trans HA1.out)
                    have z0 := cell_regrown HZ.out
                    refine wp_region_quiet_below (by kernel_rfl) (by kernel_rfl) ?_
                    repeat (go_big_quiet_step ((go_at_call 23; exact quiet_t (fun W hW => HCLW.out _ W (below_next hb4 hW)))))
                    refine wpQuiet_nil ?_
                    rintro _ ⟨⟨dq, osq⟩, rfl⟩
                    clear x0 x1 x2 x3 x4 x5 x6 x7 x8 x9 x10 x11 a0 a0' b0
                    clear z0
                    go_wp2_with fail
                    go_ret
                    rw [HRC3.out, decide_eq_false HK.out, HZL.out]
                    exact ⟨by simp, below_next HBEL.out (below_next hb4 (below_regrown _ dq osq))⟩
            · have HBN := Lib.hid hbn
              have q3 : (0 : Int) < ((findL T.decomps b).length : Int) := by have := length_pos_ne hbn; omega
              have q4 : 0 < (findL T.decomps b).length := length_pos_ne hbn
              clear hbn
              go_wp2_with fail
              obtain ⟨x0, x1, x2, x3, x4, x5, x6, x7, x8, x9, x10, x11⟩ := (HB0.out.later (Below.refl _ _)).tabG
              have a0 := cell_regrown ((below_next HBEL.out (Below.refl _ _)).cell (p := ad.add 0) (by rw [block_of_add]; exact had) |>.trans HA0.out)
              have a0' : ∀ d os, (Go.Sort.grow (redrawn _ d) os).cell? ad = some (.int .i64 a) := a0
              have b0 := cell_regrown ((below_next HBEL.out (Below.refl _ _)).cell (p := { block := ad.block, off := ad.off + 1, spot := none }) had |>.trans HA1.out)
              refine wp_region_quiet_below (by kernel_rfl) (by kernel_rfl) ?_
              repeat (go_big_quiet_step (first | (go_at_call 95; exact quiet_t (fun W hW => HEXQ.out W hW)) | (go_at_call 23; exact quiet_t (fun W hW => HCLW.out _ W hW)) | (go_at_call 56; exact quiet_t (fun W hW => HFB.out W hW))))
              refine wpQuiet_nil ?_
              rintro _ ⟨⟨dq, osq⟩, rfl⟩
              clear x0 x1 x2 x3 x4 x5 x6 x7 x8 x9 x10 x11 a0 a0' b0
              go_wp2_with fail
              go_ret
              rw [HRC.out, decide_eq_false HBN.out]
              exact ⟨by simp, below_next HBEL.out (below_regrown _ dq osq)⟩
          · have q2 : (T.classOf a != 0) = true := by rw [bne_iff_ne]; exact ha0
            have HAC := Lib.hid ha0
            clear ha0
            go_wp2_with fail
            obtain ⟨x0, x1, x2, x3, x4, x5, x6, x7, x8, x9, x10, x11⟩ := (HB0.out.later (Below.refl _ _)).tabG
            have a0 := cell_regrown ((below_next HBEL.out (Below.refl _ _)).cell (p := ad.add 0) (by rw [block_of_add]; exact had) |>.trans HA0.out)
            have a0' : ∀ d os, (Go.Sort.grow (redrawn _ d) os).cell? ad = some (.int .i64 a) := a0
            have b0 := cell_regrown ((below_next HBEL.out (Below.refl _ _)).cell (p := { block := ad.block, off := ad.off + 1, spot := none }) had |>.trans HA1.out)
            refine wp_region_quiet_below (by kernel_rfl) (by kernel_rfl) ?_
            repeat (go_big_quiet_step (first | (go_at_call 95; exact quiet_t (fun W hW => HEXQ.out W hW)) | (go_at_call 23; exact quiet_t (fun W hW => HCLW.out _ W hW)) | (go_at_call 56; exact quiet_t (fun W hW => HFB.out W hW))))
            refine wpQuiet_nil ?_
            rintro _ ⟨⟨dq, osq⟩, rfl⟩
            clear x0 x1 x2 x3 x4 x5 x6 x7 x8 x9 x10 x11 a0 a0' b0
            go_wp2_with fail
            go_ret
            rw [HRC.out, decide_eq_false HAC.out]
            exact ⟨by simp, below_next HBEL.out (below_regrown _ dq osq)⟩
        · have q1 : (T.classOf c != 0) = true := by rw [bne_iff_ne]; exact hc0
          have HC0 := Lib.hid hc0
          clear hc0
          go_wp2_with fail
          obtain ⟨x0, x1, x2, x3, x4, x5, x6, x7, x8, x9, x10, x11⟩ := (HB0.out.later (Below.refl _ _)).tabG
          have a0 := cell_regrown ((below_next HBEL.out (Below.refl _ _)).cell (p := ad.add 0) (by rw [block_of_add]; exact had) |>.trans HA0.out)
          have a0' : ∀ d os, (Go.Sort.grow (redrawn _ d) os).cell? ad = some (.int .i64 a) := a0
          have b0 := cell_regrown ((below_next HBEL.out (Below.refl _ _)).cell (p := { block := ad.block, off := ad.off + 1, spot := none }) had |>.trans HA1.out)
          refine wp_region_quiet_below (by kernel_rfl) (by kernel_rfl) ?_
          repeat (go_big_quiet_step (first | (go_at_call 95; exact quiet_t (fun W hW => HEXQ.out W hW)) | (go_at_call 23; exact quiet_t (fun W hW => HCLW.out _ W hW)) | (go_at_call 56; exact quiet_t (fun W hW => HFB.out W hW))))
          refine wpQuiet_nil ?_
          rintro _ ⟨⟨dq, osq⟩, rfl⟩
          clear x0 x1 x2 x3 x4 x5 x6 x7 x8 x9 x10 x11 a0 a0' b0
          go_wp2_with fail
          go_ret
          rw [HRC.out, decide_eq_false HC0.out]
          exact ⟨by simp, below_next HBEL.out (below_regrown _ dq osq)⟩
      · have HE := Lib.hid hex
        have HEXQ := Lib.hid (fun W (h : Below w0.heap.size w0 W) => HEXW.out c W h)
        rw [hex] at HEXQ
        clear hex
        go_wp2_with fail
        obtain ⟨x0, x1, x2, x3, x4, x5, x6, x7, x8, x9, x10, x11⟩ := (HB0.out.later (Below.refl _ _)).tabG
        have a0 := cell_regrown ((below_next HBEL.out (Below.refl _ _)).cell (p := ad.add 0) (by rw [block_of_add]; exact had) |>.trans HA0.out)
        have a0' : ∀ d os, (Go.Sort.grow (redrawn _ d) os).cell? ad = some (.int .i64 a) := a0
        have b0 := cell_regrown ((below_next HBEL.out (Below.refl _ _)).cell (p := { block := ad.block, off := ad.off + 1, spot := none }) had |>.trans HA1.out)
        refine wp_region_quiet_below (by kernel_rfl) (by kernel_rfl) ?_
        repeat (go_big_quiet_step (first | (go_at_call 95; exact quiet_t (fun W hW => HEXQ.out W hW)) | (go_at_call 23; exact quiet_t (fun W hW => HCLW.out _ W hW)) | (go_at_call 56; exact quiet_t (fun W hW => HFB.out W hW))))
        refine wpQuiet_nil ?_
        rintro _ ⟨⟨dq, osq⟩, rfl⟩
        clear x0 x1 x2 x3 x4 x5 x6 x7 x8 x9 x10 x11 a0 a0' b0
        go_wp2_with fail
        go_ret
        rw [HRC.out, HE.out]
        exact ⟨by simp, below_next HBEL.out (below_regrown _ dq osq)⟩
    · have hcm := comp_len (T := T) (f := f + 1) rfl hl
      rw [hcm]
      have p1 : (((findL T.decomps c).length : Int) != 2) = true := by rw [bne_iff_ne]; omega
      clear hl hcm
      go_enter Tryz.func74, Tryz.ntmps74
      go_wp2_with fail
      refine (HF.out _ ((Below.refl _ _).alloc (Nat.le_refl _) _)).mono ?_
      rintro e w0 ⟨rfl, b0⟩
      have HB0 := Lib.hid (HBB.out.later b0)
      have hbel := below_next ((Below.refl w.heap.size w).alloc (Nat.le_refl _) _) b0
      clear b0 HBB
      go_wp2_with fail
      obtain ⟨x0, x1, x2, x3, x4, x5, x6, x7, x8, x9, x10, x11⟩ := (HB0.out.later (Below.refl _ _)).tabG
      refine wp_region_quiet_below (by kernel_rfl) (by kernel_rfl) ?_
      repeat (go_big_quiet_step (fail))
      refine wpQuiet_nil ?_
      rintro _ ⟨⟨dq, osq⟩, rfl⟩
      clear x0 x1 x2 x3 x4 x5 x6 x7 x8 x9 x10 x11
      go_wp2_with fail
      go_ret
      exact ⟨rfl, below_next hbel (below_regrown _ dq osq)⟩
end Go.Proofs.YtecpbicfiaifdaaGreatDoor
/-
  A map whose keys are pairs of integers and whose elements are true: looking up and adding.
-/
namespace Go.Proofs.YtecpbicfiaifdaaGreatDoor
open Go.RowKit Go.ChangeMaps

def pairV (p : Int × Int) : Value := .agg #[.int .i64 p.1, .int .i64 p.2]
section
variable {P : Program} {K E : TypeId} {i : TypeInfo}
theorem run_equal_pair (hK : P.underlying K = some (.array 2 E)) (hE : P.underlying E = some (.int .i64)) (hi : P.info? E = some i) (hp : P.plainKey E = true) (hc : P.cellsOf E = 1) (w : World) (p q : Int × Int) :
    (Op.equal K (pairV p) (pairV q)).run P w = .ok (decide (p = q)) w := by
  have e1 : ∀ (d : Nat) (a b : Int) (w : World), (Op.equalIn (d + 1) E (.int .i64 a) (.int .i64 b)).run P w = .ok (a == b) w := fun d a b w => by
    simp [Op.equalIn, run_underlying hE]
  show (Op.equalIn (9999 + 1) K (.agg #[.int .i64 p.1, .int .i64 p.2]) (.agg #[.int .i64 q.1, .int .i64 q.2])).run P w = _
  rw [run_equalIn_array w 9999 _ _ hK hi, hc]
  have p0 : ∀ (w : World) (a b : Int), (part E #[.int .i64 a, .int .i64 b] 0).run P w = .ok (.int .i64 a) w := fun w a b => run_part_plain w hp rfl
  have p1 : ∀ (w : World) (a b : Int), (part E #[.int .i64 a, .int .i64 b] 1).run P w = .ok (.int .i64 b) w := fun w a b => run_part_plain w hp rfl
  have hr : List.range 2 = [0, 1] := rfl
  rw [hr]
  simp only [Op.eqItems, Sem.run_bind, Nat.zero_mul, Nat.one_mul, p0, Result.andThen_ok, e1 9998]
  obtain ⟨a, b⟩ := p
  obtain ⟨c, d⟩ := q
  simp only [Prod.mk.injEq]
  by_cases h1 : a = c
  · have hb1 : (a == c) = true := by rw [beq_iff_eq]; exact h1
    rw [hb1]
    by_cases h2 : b = d
    · have hb2 : (b == d) = true := by rw [beq_iff_eq]; exact h2
      subst h2
      have e2 : (Op.equalIn 9999 E (.int .i64 b) (.int .i64 b)).run P w = .ok (b == b) w := e1 9998 b b w
      rw [decide_eq_true ⟨h1, rfl⟩]
      simp [p1, e2]
    · have hb2 : (b == d) = false := by rw [beq_eq_false_iff_ne]; exact h2
      have e2 : (Op.equalIn 9999 E (.int .i64 b) (.int .i64 d)).run P w = .ok (b == d) w := e1 9998 b d w
      rw [decide_eq_false (fun h => h2 h.2)]
      simp [p1, e2, h2]
  · have hb1 : (a == c) = false := by rw [beq_eq_false_iff_ne]; exact h1
    rw [hb1, decide_eq_false (fun h => h1 h.1)]
    simp
theorem run_checkKey_pair (hK : P.underlying K = some (.array 2 E)) (hE : P.underlying E = some (.int .i64)) (hi : P.info? E = some i) (hp : P.plainKey E = true) (hc : P.cellsOf E = 1) (e : Bool) (w : World) (p : Int × Int) :
    (Instr.checkKey e 10000 K (pairV p)).run P w = .ok () w := by
  have e1 : ∀ (d : Nat) (a : Int) (w : World), (Instr.checkKey e (d + 1) E (.int .i64 a)).run P w = .ok () w := fun d a w => by
    simp [Instr.checkKey, run_underlying hE]
  have p0 : ∀ (w : World) (a b : Int), (part E #[.int .i64 a, .int .i64 b] 0).run P w = .ok (.int .i64 a) w := fun w a b => run_part_plain w hp rfl
  have p1 : ∀ (w : World) (a b : Int), (part E #[.int .i64 a, .int .i64 b] 1).run P w = .ok (.int .i64 b) w := fun w a b => run_part_plain w hp rfl
  have hr : List.range' 0 2 = [0, 1] := rfl
  show (Instr.checkKey e (9999 + 1) K (.agg #[.int .i64 p.1, .int .i64 p.2])).run P w = _
  unfold Instr.checkKey
  simp only [Sem.run_bind, run_underlying hK, Result.andThen_ok]
  simp only [Std.Legacy.Range.forIn_eq_forIn_range', Std.Legacy.Range.size, Nat.sub_zero, Nat.add_one_sub_one, Nat.div_one, hr, List.forIn_cons, List.forIn_nil, Sem.run_bind, run_sizeOf w hi, hc, Result.andThen_ok, Nat.zero_mul, Nat.one_mul, p0, p1, e1 9998, Sem.run_pure]

theorem run_findAsking (hK : P.underlying K = some (.array 2 E)) (hE : P.underlying E = some (.int .i64)) (hi : P.info? E = some i) (hp : P.plainKey E = true) (hc : P.cellsOf E = 1) (w : World) (p : Int × Int) : ∀ (es : List MapEntry) (qs : List (Int × Int)) (n : Nat), es.map (·.key) = qs.map pairV → (∀ e ∈ es, e.val = .bool true) →
    (p ∉ qs → (Instr.findAsking K (pairV p) es n).run P w = .ok none w) ∧ (p ∈ qs → ∃ j, (Instr.findAsking K (pairV p) es n).run P w = .ok (some (j, .bool true)) w) := by
  intro es
  induction es with
  | nil =>
    intro qs n h _
    obtain rfl : qs = [] := by cases qs with
      | nil => rfl
      | cons a r => cases h
    exact ⟨fun _ => rfl, fun h => by cases h⟩
  | cons e es ih =>
    intro qs n h hv
    cases qs with
    | nil => cases h
    | cons q qs =>
      simp only [List.map_cons, List.cons.injEq] at h
      obtain ⟨hk, hr⟩ := h
      obtain ⟨ih1, ih2⟩ := ih qs (n + 1) hr (fun x hx => hv x (List.mem_cons_of_mem _ hx))
      have he := run_equal_pair hK hE hi hp hc w p q
      by_cases hpq : p = q
      · refine ⟨fun hn => absurd (by rw [hpq]; exact List.mem_cons_self) hn, fun _ => ⟨n, ?_⟩⟩
        unfold Instr.findAsking
        rw [hk]
        simp only [Sem.run_bind, he, Result.andThen_ok, decide_eq_true hpq, if_true, hv e List.mem_cons_self, Sem.run_pure]
      · have hstep : (Instr.findAsking K (pairV p) (e :: es) n).run P w = (Instr.findAsking K (pairV p) es (n + 1)).run P w := by
          rw [Instr.findAsking.eq_def]
          simp only [hk, Sem.run_bind, he, Result.andThen_ok, decide_eq_false hpq, Bool.false_eq_true, if_false]
        rw [hstep]
        exact ⟨fun hn => ih1 (fun h => hn (List.mem_cons_of_mem _ h)), fun hm => ih2 ((List.mem_cons.1 hm).resolve_left hpq)⟩
theorem run_findKey_pair (hK : P.underlying K = some (.array 2 E)) (hE : P.underlying E = some (.int .i64)) (hi : P.info? E = some i) (hp : P.plainKey E = true) (hc : P.cellsOf E = 1) (w : World) (p : Int × Int) (es : List MapEntry) (qs : List (Int × Int)) (h : es.map (·.key) = qs.map pairV) (hv : ∀ e ∈ es, e.val = .bool true) :
    (p ∉ qs → (Instr.findKey K (pairV p) es).run P w = .ok none w) ∧ (p ∈ qs → ∃ j, (Instr.findKey K (pairV p) es).run P w = .ok (some (j, .bool true)) w) := by
  have hf := run_findAsking hK hE hi hp hc w p es qs 0 h hv
  cases es with
  | nil =>
    obtain rfl : qs = [] := by cases qs with
      | nil => rfl
      | cons a r => cases h
    refine ⟨fun _ => ?_, fun h => by cases h⟩
    simp [Instr.findKey, run_underlying hK, Instr.findNow]
  | cons e es =>
    have hn : Instr.findNow (.array 2 E) (pairV p) (e :: es) 0 = none := by
      unfold Instr.findNow Instr.sameNow
      rfl
    have he : (Instr.findKey K (pairV p) (e :: es)).run P w = (Instr.findAsking K (pairV p) (e :: es) 0).run P w := by
      simp only [Instr.findKey, Sem.run_bind, run_underlying hK, Result.andThen_ok, hn]
    rw [he]
    exact hf

/-- Block b is a map whose keys are the pairs qs, in the order in which they came, and whose elements are true. -/
def OwnsP (w : World) (b : Nat) (qs : List (Int × Int)) : Prop := ∃ es clock, w.heap[b]? = some (.map es clock) ∧ es.toList.map (·.key) = qs.map pairV ∧ ∀ e ∈ es.toList, e.val = .bool true
theorem OwnsP.lt {w : World} {b : Nat} {qs : List (Int × Int)} (h : OwnsP w b qs) : b < w.heap.size := by
  obtain ⟨es, c, h, _⟩ := h; exact (Array.getElem?_eq_some_iff.1 h).1
theorem OwnsP.later {w w' : World} {b : Nat} {qs : List (Int × Int)} (h : OwnsP w b qs) (hb : Below w.heap.size w w') : OwnsP w' b qs := by
  have hl := h.lt
  obtain ⟨es, c, h, r⟩ := h; exact ⟨es, c, (hb.block b hl).trans h, r⟩
theorem OwnsP.new (w : World) : OwnsP (w.alloc (.map #[] 0)) w.heap.size [] := ⟨#[], 0, heap_alloc_new w _, rfl, by simp⟩
theorem OwnsP.lookup {M : TypeId} {w : World} {b : Nat} {qs : List (Int × Int)} (h : OwnsP w b qs) {B : TypeId} (hM : P.underlying M = some (.map K B)) (hz : ∀ w, (zeroValue B).run P w = .ok (.bool false) w)
    (hK : P.underlying K = some (.array 2 E)) (hE : P.underlying E = some (.int .i64)) (hi : P.info? E = some i) (hp : P.plainKey E = true) (hc : P.cellsOf E = 1) (p : Int × Int) :
    (Instr.lookup M (.map (some b)) (pairV p) false).run P w = .ok (.bool (decide (p ∈ qs))) w := by
  obtain ⟨es, clock, hb, hk, hv⟩ := h
  obtain ⟨h1, h2⟩ := run_findKey_pair hK hE hi hp hc w p es.toList qs hk hv
  by_cases hm : p ∈ qs
  · obtain ⟨j, hj⟩ := h2 hm
    simp [Instr.lookup, run_underlying hM, MapKept.run_getObj_map hb, run_checkKey_pair hK hE hi hp hc, hj, Result.andThen, hm]
  · simp [Instr.lookup, run_underlying hM, MapKept.run_getObj_map hb, run_checkKey_pair hK hE hi hp hc, h1 hm, Result.andThen, hm, hz]
theorem OwnsP.update {M : TypeId} {w : World} {b : Nat} {qs : List (Int × Int)} (h : OwnsP w b qs) {B : TypeId} (hM : P.underlying M = some (.map K B))
    (hK : P.underlying K = some (.array 2 E)) (hE : P.underlying E = some (.int .i64)) (hi : P.info? E = some i) (hp : P.plainKey E = true) (hc : P.cellsOf E = 1) (p : Int × Int) (hm : p ∉ qs) :
    ∃ w', (Instr.mapUpdate M (.map (some b)) (pairV p) (.bool true)).run P w = .ok () w' ∧ OwnsP w' b (qs ++ [p]) ∧ w.grownBy w' (some b) := by
  obtain ⟨es, clock, hb, hk, hv⟩ := h
  obtain ⟨h1, _⟩ := run_findKey_pair hK hE hi hp hc w p es.toList qs hk hv
  have hl := (Array.getElem?_eq_some_iff.1 hb).1
  refine ⟨setBlock w b (.map (es.push ⟨pairV p, .bool true, clock⟩) (clock + 1)), ?_, ⟨es.push ⟨pairV p, .bool true, clock⟩, clock + 1, ?_, ?_, ?_⟩, ?_⟩
  · simp [Instr.mapUpdate, run_underlying hM, MapKept.run_getObj_map hb, run_checkKey_pair hK hE hi hp hc, h1 hm, MapKept.run_setObj_map _ hb, Result.andThen, setBlock]
  · simp [setBlock, hl]
  · simp [hk]
  · intro e he
    simp only [Array.toList_push, List.mem_append, List.mem_singleton] at he
    rcases he with he | rfl
    · exact hv e he
    · rfl
  · refine ⟨rfl, rfl, rfl, by simp [setBlock], fun k hk hne => ?_⟩
    have : k ≠ b := fun e => hne (by rw [e])
    simp [setBlock, Ne.symm this]
end
end Go.Proofs.YtecpbicfiaifdaaGreatDoor
