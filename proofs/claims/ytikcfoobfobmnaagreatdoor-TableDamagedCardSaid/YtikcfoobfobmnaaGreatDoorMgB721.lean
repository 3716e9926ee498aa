/-
  Merged texts: lemmas and walks that the last text of this claim leans on.
-/
import Derived.Test.YtikcfoobfobmnaaGreatDoorMgB73
import Derived.Test.YtikcfoobfobmnaaGreatDoorMgB74
import Derived.Test.YtikcfoobfobmnaaGreatDoorMgB716
import Derived.Test.YtikcfoobfobmnaaGreatDoorMgB78
import Derived.Test.YtikcfoobfobmnaaGreatDoorMgB711
import Derived.Deep.RegionHeld3
/-
  Tables that are well-formed are short.
-/
namespace Go.Proofs.YtikcfoobfobmnaaGreatDoor
open Go.RowKit ND

theorem short_wf {T : Tab} (h : Shape T) : ShortT 256 T := ⟨h.c0.2.1, h.c1.2.1, h.c2.2.1, h.c3.2.1, h.c4.2.1, h.c5.2.1, h.c6.2.1, h.lx, h.lm, h.ld, h.lenX, h.lp⟩
end Go.Proofs.YtikcfoobfobmnaaGreatDoor
/-
  The reference's find hands back a value that is known ahead of the call.
-/
namespace Go.Proofs.YtikcfoobfobmnaaGreatDoor
open Go.RowKit ND

/-- What the reference's find hands back in whatever later world. -/
def RefFindsIn (w : World) (v : Value) (c : Int) (u : Value) : Prop := ∀ W, Below w.heap.size w W → Calls Tryz.prog 49 #[v, .int .i64 c] W fun e W' => e = .returned u ∧ Below W.heap.size W W'

set_option maxRecDepth 100000 in
set_option maxHeartbeats 1000000 in
theorem refFind_v (v : Value) (xs : List Mp) (c : Int) (w : World) (hv : Mapps w w.heap.size v xs) (hs : sortM xs) :
    ∃ u, Ints w w.heap.size .i64 u (findL xs c) ∧ (findL xs c = [] → ∃ A k, u = .slice A 0 k) ∧ RefFindsIn w v c u := by
  obtain ⟨A, cap, rfl, hc1, hc2, _, hcell⟩ := hv
  have hlm : xs.length ≤ 9223372036854775807 := by unfold maxLen at hc2; omega
  clear hc1 hc2
  by_cases hk : ∃ (k0 : Nat) (a : Mp), xs[k0]? = some a ∧ a.1 = c
  · obtain ⟨k0, ⟨f, ys⟩, hx0, hfc⟩ := hk
    simp only at hfc
    subst hfc
    obtain ⟨ad, sv, rfl, ha, d0, d1, hsv⟩ := hcell k0 _ hx0
    simp only at d0 d1 hsv
    have hlow0 : ∀ i a, i < k0 → xs[i]? = some a → a.1 < f := fun i a hi hxi => hs i k0 a (f, ys) hi hxi hx0
    have hfind : findL xs f = ys := findL_at hlow0 hx0 rfl
    rw [hfind]
    obtain ⟨A', c', rfl, _⟩ := id hsv
    refine ⟨_, hsv, fun e => ⟨A', c', by rw [e]; rfl⟩, fun W hW => ?_⟩
    have hk0 : k0 < xs.length := (List.getElem?_eq_some_iff.1 hx0).1
    have HC := Lib.hid hcell
    have HLO := Lib.hid hlow0
    have HD := Lib.hid (And.intro d0 d1)
    clear hcell hsv d0 d1 hfind hx0 hlow0 hs
    go_enter Tryz.func49, Tryz.ntmps49
    go_wp2_with fail
    go_loopw [9] (fun i wr => ∃ (j : Nat), j ≤ k0 ∧ i = .int .i64 j ∧ Below W.heap.size W wr) (fun i _ => k0 + 1 - (intOf i).toNat)
    case atStart => exact ⟨0, by omega, rfl, Below.refl _ _⟩
    case round =>
      obtain ⟨j, hj, rfl, hbel⟩ := hrel
      have hbw : Below w.heap.size w wr := below_next hW hbel
      by_cases hjl : j < k0
      · obtain ⟨⟨g, tg⟩, hxj, _⟩ := get_el (xs := xs) (k := j) (by omega)
        obtain ⟨aj, sv, hA, haj, d0, d1, hto⟩ := HC.out j _ hxj
        cases hA
        simp only at d0 d1 hto
        obtain ⟨Aj, cj, rfl, _⟩ := hto
        obtain ⟨e0, e1⟩ := map_cells hbw ha d0 d1
        have hne := HLO.out j _ hjl hxj
        simp only at hne
        have p1 : (g == f) = false := by rw [beq_eq_false_iff_ne]; omega
        clear d0 d1 hxj hne haj
        have r0 : (0 : Int) ≤ (j : Int) := by omega
        have r1 : (j : Int) < (xs.length : Int) := by omega
        go_wp2_with fail
        go_roundw
        case rel => exact ⟨j + 1, by omega, by go_num, hbel.alloc hbel.size _⟩
        case measure => simp [intOf]; omega
      · obtain rfl : j = k0 := by omega
        obtain ⟨e0, e1⟩ := map_cells hbw ha HD.out.1 HD.out.2
        have r0 : (0 : Int) ≤ (j : Int) := by omega
        have r1 : (j : Int) < (xs.length : Int) := by omega
        go_wp2_with fail
        go_ret
        exact ⟨rfl, hbel.alloc hbel.size _⟩
  · have hno : ∀ (i : Nat) (a : Mp), xs[i]? = some a → a.1 ≠ c := fun i a hi e => hk ⟨i, a, hi, e⟩
    have hfind : findL xs c = [] := findL_no hno
    rw [hfind]
    refine ⟨.slice none 0 0, Ints.none_, fun _ => ⟨_, _, rfl⟩, fun W hW => ?_⟩
    have HC := Lib.hid hcell
    have HNO := Lib.hid hno
    clear hcell hno hfind hk hs
    go_enter Tryz.func49, Tryz.ntmps49
    go_wp2_with fail
    go_loopw [9] (fun i wr => ∃ (j : Nat), j ≤ xs.length ∧ i = .int .i64 j ∧ Below W.heap.size W wr) (fun i _ => xs.length - (intOf i).toNat)
    case atStart => exact ⟨0, by omega, rfl, Below.refl _ _⟩
    case round =>
      obtain ⟨j, hj, rfl, hbel⟩ := hrel
      have hbw : Below w.heap.size w wr := below_next hW hbel
      by_cases hjl : j < xs.length
      · obtain ⟨⟨g, tg⟩, hxj, _⟩ := get_el hjl
        obtain ⟨aj, sv, rfl, haj, d0, d1, hto⟩ := HC.out j _ hxj
        simp only at d0 d1 hto
        obtain ⟨Aj, cj, rfl, _⟩ := hto
        obtain ⟨e0, e1⟩ := map_cells hbw haj d0 d1
        have hne := HNO.out j _ hxj
        simp only at hne
        have p1 : (g == c) = false := by rw [beq_eq_false_iff_ne]; exact hne
        clear d0 d1 hxj hne haj
        have r0 : (0 : Int) ≤ (j : Int) := by omega
        have r1 : (j : Int) < (xs.length : Int) := by omega
        go_wp2_with fail
        go_roundw
        case rel => exact ⟨j + 1, by omega, by go_num, hbel.alloc hbel.size _⟩
        case measure => simp [intOf]; omega
      · go_wp2_with fail
        go_ret
        exact ⟨rfl, hbel⟩
end Go.Proofs.YtikcfoobfobmnaaGreatDoor
/-
  The walk through the reference's Composable.
-/
namespace Go.Proofs.YtikcfoobfobmnaaGreatDoor
open Go.RowKit ND

/-- Every full decomposition ends and is short. -/
def Ends (T : Tab) : Prop := ∀ c, fin T.decomps T.decomps.length c = true ∧ fullF T.decomps 257 [c] = some (expF T.decomps T.decomps.length c) ∧ (expF T.decomps T.decomps.length c).length ≤ 18
theorem Ends.of {T : Tab} (hl : T.decomps.length ≤ 256) (h : T.rule6 = true) : Ends T := by
  intro c
  unfold Tab.rule6 at h
  rw [Bool.and_eq_true, List.all_eq_true, List.all_eq_true] at h
  have hs : sizeF T.decomps (T.decomps.length + 1) c ≤ 18 := by
    by_cases hn : findL T.decomps c = []
    · rw [sizeF_none hn]; omega
    · have := h.2 _ (findL_mem hn)
      unfold Tab.szOk at this
      simpa using this
  rcases full_size hl c with ⟨_, h1, h2, h3⟩ | ⟨h1, _⟩
  · exact ⟨h2, h1, h3⟩
  · exact absurd hs h1
theorem lastF_same {D : List Mp} {f g : Nat} {c : Int} (hf : fin D f c = true) (hg : fin D g c = true) : lastF D f c = lastF D g c := by
  unfold lastF
  rcases Nat.le_total f g with h | h
  · rw [(fin_up hf g h).2]
  · rw [(fin_up hg f h).2]

set_option maxRecDepth 100000 in
set_option maxHeartbeats 8000000 in
theorem refComposable_any (t : Tv) (T : Tab) (hsh : Shape T) (hne : ∀ m ∈ T.decomps, m.2 ≠ [] ∧ m.2.length ≤ 1000) (hen : Ends T) : ∀ (f : Nat) (c : Int) (w : World), TabR w w.heap.size t T → fin T.decomps f c = true →
    Calls Tryz.prog 50 #[t.val, .int .i64 c] w fun e w' => e = .returned (.bool (T.compF f c)) ∧ Below w.heap.size w w' := by
  intro f
  induction f with
  | zero =>
    intro c w ht hfin
    have hn : findL T.decomps c = [] := by rw [fin_zero, decide_eq_true_eq] at hfin; exact hfin
    obtain ⟨uc, huc, hucn, hfc⟩ := refFind_v t.c9 T.decomps c w ht.r9 (keysB_sort hsh.kd)
    have HF := Lib.hid hfc
    obtain ⟨A0, A1, A2, A3, A4, A5, A6, A7, A8, A9, A10, A11, k0, k1, k2, k3, k4, k5, k6, k7, k8, k9, k10, k11, rfl⟩ := ht.shape
    obtain ⟨Au, ku, rfl⟩ := hucn hn
    have HB := Lib.hid (show Blk (w.alloc (.cells #[.slice A0 T.category.length k0, .slice A1 T.cls.length k1, .slice A2 T.joining.length k2, .slice A3 T.bidi.length k3, .slice A4 T.script.length k4, .slice A5 T.status.length k5, .slice A6 T.ignorable.length k6, .slice A7 T.extensions.length k7, .slice A8 T.maps.length k8, .slice A9 T.decomps.length k9, .slice A10 T.excluded.length k10, .slice A11 T.prototypes.length k11] 29)) w.heap.size 29 #[.slice A0 T.category.length k0, .slice A1 T.cls.length k1, .slice A2 T.joining.length k2, .slice A3 T.bidi.length k3, .slice A4 T.script.length k4, .slice A5 T.status.length k5, .slice A6 T.ignorable.length k6, .slice A7 T.extensions.length k7, .slice A8 T.maps.length k8, .slice A9 T.decomps.length k9, .slice A10 T.excluded.length k10, .slice A11 T.prototypes.length k11] from Blk.new _ _ _)
    have p1 : ((0 : Int) != 2) = true := by decide
    clear hfc huc hucn hn ht hfin
    show Calls _ _ _ _ fun e w' => e = .returned (.bool false) ∧ _
    go_enter Tryz.func50, Tryz.ntmps50
    go_wp2_with fail
    refine (HF.out _ ((Below.refl _ _).alloc (Nat.le_refl _) _)).mono ?_
    rintro e w0 ⟨rfl, b0⟩
    have HB0 := Lib.hid (HB.out.later b0)
    have hbel := below_next ((Below.refl w.heap.size w).alloc (Nat.le_refl _) _) b0
    clear b0 HB
    go_wp2_with fail
    obtain ⟨x0, x1, x2, x3, x4, x5, x6, x7, x8, x9, x10, x11⟩ := (HB0.out.later (Below.refl _ _)).tabG
    refine wp_region_quiet_below (by kernel_rfl) (by kernel_rfl) ?_
    repeat (go_big_quiet_step (fail))
    refine wpQuiet_nil ?_
    rintro _ ⟨⟨dq, osq⟩, rfl⟩
    clear x0 x1 x2 x3 x4 x5 x6 x7 x8 x9 x10 x11
    go_wp2_with fail
    go_ret
    exact ⟨rfl, below_next hbel (below_regrown _ dq osq)⟩
  | succ f ih =>
    intro c w ht hfin
    have HT := Lib.hid (fun W (h : Below w.heap.size w W) => ht.later h)
    have hs := keysB_sort hsh.kd
    have HEX := Lib.hid (fun x W h => refExcluded_any t T x W h)
    have HCL := Lib.hid (fun x W h => refClass_any t T x W h)
    have HFU := Lib.hid (fun x W h => full_any t T x W h hne)
    have HEN := Lib.hid hen
    have HIH := Lib.hid ih
    have HFV := Lib.hid (fun x W (h : TabR W W.heap.size t T) => refFind_v t.c9 T.decomps x W h.r9 hs)
    obtain ⟨uc, huc, hucn, hfc⟩ := refFind_v t.c9 T.decomps c w ht.r9 hs
    have HF := Lib.hid hfc
    obtain ⟨A0, A1, A2, A3, A4, A5, A6, A7, A8, A9, A10, A11, k0, k1, k2, k3, k4, k5, k6, k7, k8, k9, k10, k11, rfl⟩ := ht.shape
    obtain ⟨As, cs, rfl, hcs1, hcs2, _, hcell⟩ := huc
    have hlt : (findL T.decomps c).length ≤ 9223372036854775807 := by unfold maxLen at hcs2; omega
    have HCE := Lib.hid hcell
    have HFN := Lib.hid hfin
    have HBB := Lib.hid (show Blk (w.alloc (.cells #[.slice A0 T.category.length k0, .slice A1 T.cls.length k1, .slice A2 T.joining.length k2, .slice A3 T.bidi.length k3, .slice A4 T.script.length k4, .slice A5 T.status.length k5, .slice A6 T.ignorable.length k6, .slice A7 T.extensions.length k7, .slice A8 T.maps.length k8, .slice A9 T.decomps.length k9, .slice A10 T.excluded.length k10, .slice A11 T.prototypes.length k11] 29)) w.heap.size 29 #[.slice A0 T.category.length k0, .slice A1 T.cls.length k1, .slice A2 T.joining.length k2, .slice A3 T.bidi.length k3, .slice A4 T.script.length k4, .slice A5 T.status.length k5, .slice A6 T.ignorable.length k6, .slice A7 T.extensions.length k7, .slice A8 T.maps.length k8, .slice A9 T.decomps.length k9, .slice A10 T.excluded.length k10, .slice A11 T.prototypes.length k11] from Blk.new _ _ _)
    clear ht ih hcell hcs1 hcs2 hfin hs hfc hucn
    by_cases hl : (findL T.decomps c).length = 2
    · obtain ⟨a, b, hfd⟩ : ∃ a b, findL T.decomps c = [a, b] := by
        match findL T.decomps c, hl with
        | [a, b], _ => exact ⟨a, b, rfl⟩
      obtain ⟨R, hR⟩ : ∃ R, R = T.compF (f + 1) c := ⟨_, rfl⟩
      rw [← hR]
      have HRC := Lib.hid (hR.trans (comp_two (T := T) (f := f) hfd))
      have hffa : fin T.decomps f a = true := by
        have h := HFN.out
        rw [fin_succ (by rw [hfd]; intro h; cases h), hfd] at h
        simp only [List.all_cons, Bool.and_eq_true] at h
        exact h.1
      have HFA := Lib.hid hffa
      rw [hfd] at HCE HF hlt
      obtain ⟨ad, hAs, had, h0⟩ := HCE.out 0 a rfl
      subst hAs
      obtain ⟨_, hAs, _, h1⟩ := HCE.out 1 b rfl
      cases hAs
      have HA0 := Lib.hid h0
      have HA1 := Lib.hid (show w.cell? { block := ad.block, off := ad.off + 1, spot := none } = some (.int .i64 b) from h1)
      have p1 : ((2 : Int) != 2) = false := by decide
      clear hR hl h0 h1 hffa hlt HFN HCE hfd hen
      go_enter Tryz.func50, Tryz.ntmps50
      go_wp2_with fail
      refine (HF.out _ ((Below.refl _ _).alloc (Nat.le_refl _) _)).mono ?_
      rintro e w0 ⟨rfl, b0⟩
      have HB0 := Lib.hid (HBB.out.later b0)
      have HBEL := Lib.hid (below_next ((Below.refl w.heap.size w).alloc (Nat.le_refl _) _) b0)
      clear b0 HBB
      have HTW := Lib.hid (fun W (h : Below w0.heap.size w0 W) => HT.out W (below_next HBEL.out h))
      have HEXW := Lib.hid (fun x W (h : Below w0.heap.size w0 W) => HEX.out x W (HTW.out W h))
      have HCLW := Lib.hid (fun x W (h : Below w0.heap.size w0 W) => HCL.out x W (HTW.out W h))
      have HFUW := Lib.hid (fun x W (h : Below w0.heap.size w0 W) => HFU.out x W (HTW.out W h))
      obtain ⟨ub, hub, hubn, hfb⟩ := HFV.out b w0 (HTW.out w0 (Below.refl _ _))
      have HFB := Lib.hid hfb
      obtain ⟨ua, hua, huan, hfa⟩ := HFV.out a w0 (HTW.out w0 (Below.refl _ _))
      have HFAF := Lib.hid hfa
      obtain ⟨Ab, kb, rfl, _⟩ := hub
      obtain ⟨Aa, ka, rfl, _⟩ := hua
      clear hfb hfa HT HEX HCL HFV hubn huan HFU
      cases hex : T.excB c
      · have HE := Lib.hid hex
        have HEXQ := Lib.hid (fun W (h : Below w0.heap.size w0 W) => HEXW.out c W h)
        rw [hex] at HEXQ
        clear hex
        by_cases hc0 : T.classOf c = 0
        · have q1 : (T.classOf c != 0) = false := by rw [bne_eq_false_iff_eq]; exact hc0
          have HC0 := Lib.hid hc0
          clear hc0
          by_cases ha0 : T.classOf a = 0
          · have q2 : (T.classOf a != 0) = false := by rw [bne_eq_false_iff_eq]; exact ha0
            have HAC := Lib.hid ha0
            clear ha0
            by_cases hbn : findL T.decomps b = []
            · have HBN := Lib.hid hbn
              have HRC2 : Hid (R = ((decide (findL T.decomps a = []) || T.compF f a) && (decide (T.classOf b = 0) || decide (T.classOf (lastF T.decomps f a) ≤ T.classOf b)))) := Lib.hid (by
                rw [HRC.out, HE.out, decide_eq_true HC0.out, decide_eq_true HAC.out, decide_eq_true HBN.out]; rfl)
              rw [hbn] at HFB
              have q3 : ([] : List Int).length = 0 := rfl
              clear hbn
              go_wp2_with fail
              obtain ⟨x0, x1, x2, x3, x4, x5, x6, x7, x8, x9, x10, x11⟩ := (HB0.out.later (Below.refl _ _)).tabG
              have a0 := cell_regrown ((below_next HBEL.out (Below.refl _ _)).cell (p := ad.add 0) (by rw [block_of_add]; exact had) |>.trans HA0.out)
              have a0' : ∀ d os, (Go.Sort.grow (redrawn _ d) os).cell? ad = some (.int .i64 a) := a0
              have b0 := cell_regrown ((below_next HBEL.out (Below.refl _ _)).cell (p := { block := ad.block, off := ad.off + 1, spot := none }) had |>.trans HA1.out)
              refine wp_region_quiet_below (by kernel_rfl) (by kernel_rfl) ?_
              repeat (go_big_quiet_step (first | (go_at_call 85; exact quiet_t (fun W hW => HEXQ.out W hW)) | (go_at_call 86; exact quiet_t (fun W hW => HCLW.out _ W hW)) | (go_at_call 49; exact quiet_t (fun W hW => HFB.out W hW))))
              refine wpQuiet_nil ?_
              rintro _ ⟨⟨dq, osq⟩, rfl⟩
              clear x0 x1 x2 x3 x4 x5 x6 x7 x8 x9 x10 x11 a0 a0' b0
              clear q3
              have hb1 := below_regrown w0 dq osq
              generalize Go.Sort.grow (redrawn w0 dq) osq = w1 at *
              by_cases han : findL T.decomps a = []
              · have HRC3 : Hid (R = (decide (T.classOf b = 0) || decide (T.classOf (lastF T.decomps f a) ≤ T.classOf b))) := Lib.hid (by rw [HRC2.out, decide_eq_true han]; rfl)
                rw [han] at HFAF
                have q3 : ([] : List Int).length = 0 := rfl
                clear han
                go_wp2_with fail
                obtain ⟨x0, x1, x2, x3, x4, x5, x6, x7, x8, x9, x10, x11⟩ := (HB0.out.later hb1).tabG
                have a0 := cell_regrown ((below_next HBEL.out hb1).cell (p := ad.add 0) (by rw [block_of_add]; exact had) |>.trans HA0.out)
                have a0' : ∀ d os, (Go.Sort.grow (redrawn _ d) os).cell? ad = some (.int .i64 a) := a0
                have b0 := cell_regrown ((below_next HBEL.out hb1).cell (p := { block := ad.block, off := ad.off + 1, spot := none }) had |>.trans HA1.out)
                refine wp_region_quiet_below (by kernel_rfl) (by kernel_rfl) ?_
                repeat (go_big_quiet_step ((go_at_call 49; exact quiet_t (fun W hW => HFAF.out W (below_next hb1 hW)))))
                refine wpQuiet_nil ?_
                rintro _ ⟨⟨dq, osq⟩, rfl⟩
                clear x0 x1 x2 x3 x4 x5 x6 x7 x8 x9 x10 x11 a0 a0' b0
                have hb3 := below_next hb1 (below_regrown w1 dq osq)
                generalize Go.Sort.grow (redrawn w1 dq) osq = w3 at *
                clear hb1 q3
                obtain ⟨hea, hfua, hela⟩ := HEN.out a
                have HXL := Lib.hid (lastF_same hea HFA.out)
                have HFX := Lib.hid (HFUW.out a)
                rw [hfua] at HFX
                obtain ⟨n, hn⟩ : ∃ n, (expF T.decomps T.decomps.length a).length = n + 1 := ⟨(expF T.decomps T.decomps.length a).length - 1, by have := length_pos_ne (expF_ne T.decomps T.decomps.length a); omega⟩
                have HNN := Lib.hid hn
                clear hea hfua hn
                go_wp2_with fail
                obtain ⟨x0, x1, x2, x3, x4, x5, x6, x7, x8, x9, x10, x11⟩ := (HB0.out.later hb3).tab
                have a0 := ((below_next HBEL.out hb3).cell (p := ad.add 0) (by rw [block_of_add]; exact had)).trans HA0.out
                have a0' : w3.cell? ad = some (.int .i64 a) := a0
                go_region_held3 (fun w' => w'.cell? ⟨w.heap.size, 0, none⟩ = some (.slice A0 T.category.length k0) ∧ w'.cell? ⟨w.heap.size, 1, none⟩ = some (.slice A1 T.cls.length k1) ∧ w'.cell? ⟨w.heap.size, 2, none⟩ = some (.slice A2 T.joining.length k2) ∧ w'.cell? ⟨w.heap.size, 3, none⟩ = some (.slice A3 T.bidi.length k3) ∧ w'.cell? ⟨w.heap.size, 4, none⟩ = some (.slice A4 T.script.length k4) ∧ w'.cell? ⟨w.heap.size, 5, none⟩ = some (.slice A5 T.status.length k5) ∧ w'.cell? ⟨w.heap.size, 6, none⟩ = some (.slice A6 T.ignorable.length k6) ∧ w'.cell? ⟨w.heap.size, 7, none⟩ = some (.slice A7 T.extensions.length k7) ∧ w'.cell? ⟨w.heap.size, 8, none⟩ = some (.slice A8 T.maps.length k8) ∧ w'.cell? ⟨w.heap.size, 9, none⟩ = some (.slice A9 T.decomps.length k9) ∧ w'.cell? ⟨w.heap.size, 10, none⟩ = some (.slice A10 T.excluded.length k10) ∧ w'.cell? ⟨w.heap.size, 11, none⟩ = some (.slice A11 T.prototypes.length k11) ∧ w'.cell? ad = some (.int .i64 a)) (go_keep)
                  ((go_at_call 84; refine (HFX.out _ (show Below w0.heap.size w0 (World.drew w3) from hb3.drew)).mono ?_; rintro e w4 ⟨ux, rfl, hux, b4⟩; obtain ⟨x0, x1, x2, x3, x4, x5, x6, x7, x8, x9, x10, x11⟩ := ((HB0.out.later (show Below w0.heap.size w0 (World.drew w3) from hb3.drew)).later b4).tab; have a0 := (b4.cell (p := ad) (by have := (below_next HBEL.out hb3).size; simp; omega)).trans a0'))
                clear x0 x1 x2 x3 x4 x5 x6 x7 x8 x9 x10 x11 a0 a0'
                have hb4 := below_next (show Below w0.heap.size w0 (World.drew w3) from hb3.drew) b4
                have HUX := Lib.hid hux
                clear b4 hux hb3
                have HLN := Lib.hid HNN.out
                simp only [Option.getD_some] at HUX
                obtain ⟨adx, cx, hux, hax, _, _, hcx⟩ := HUX.out.some_ (expF_ne T.decomps T.decomps.length a)
                subst hux
                obtain ⟨_, z, hxz, hz⟩ := snoc_of HNN.out
                have HZL : Hid (lastF T.decomps f a = z) := Lib.hid (by rw [← HXL.out]; unfold lastF; rw [hxz, getLastD_app (by simp)]; rfl)
                have HZ := Lib.hid (hcx n z hz)
                have hw2 : IntKind.i64.wrap (((expF T.decomps T.decomps.length a).length : Int) - 1) = n := by rw [IntWalk.i64_in _ (by have := HNN.out; have := (HEN.out a).2.2; omega)]; have := HNN.out; omega
                have s0 : (0 : Int) ≤ (n : Int) := by omega
                have s1 : (n : Int) < ((expF T.decomps T.decomps.length a).length : Int) := by have := HNN.out; omega
                generalize (expF T.decomps T.decomps.length a).length = ln at *
                clear hcx hxz hz HUX
                by_cases hk0 : T.classOf b = 0
                · have q5 : (T.classOf b == 0) = true := by rw [beq_iff_eq]; exact hk0
                  have HK := Lib.hid hk0
                  clear hk0
                  go_wp2_with fail
                  obtain ⟨x0, x1, x2, x3, x4, x5, x6, x7, x8, x9, x10, x11⟩ := (HB0.out.later hb4).tabG
                  have a0 := cell_regrown ((below_next HBEL.out hb4).cell (p := ad.add 0) (by rw [block_of_add]; exact had) |>.trans HA0.out)
                  have a0' : ∀ d os, (Go.Sort.grow (redrawn _ d) os).cell? ad = some (.int .i64 a) := a0
                  have b0 := cell_regrown ((below_next HBEL.out hb4).cell (p := { block := ad.block, off := ad.off + 1, spot := none }) had |>.trans HA1.out)
                  refine wp_region_quiet_below (by kernel_rfl) (by kernel_rfl) ?_
                  repeat (go_big_quiet_step ((go_at_call 86; exact quiet_t (fun W hW => HCLW.out _ W (below_next hb4 hW)))))
                  refine wpQuiet_nil ?_
                  rintro _ ⟨⟨dq, osq⟩, rfl⟩
                  clear x0 x1 x2 x3 x4 x5 x6 x7 x8 x9 x10 x11 a0 a0' b0
                  go_wp2_with fail
                  go_ret
                  rw [HRC3.out, decide_eq_true HK.out]
                  exact ⟨by simp, below_next HBEL.out (below_next hb4 (below_regrown _ dq osq))⟩
                · have q5 : (T.classOf b == 0) = false := by rw [beq_eq_false_iff_ne]; exact hk0
                  have HK := Lib.hid hk0
                  clear hk0
                  go_wp2_with fail
                  obtain ⟨x0, x1, x2, x3, x4, x5, x6, x7, x8, x9, x10, x11⟩ := (HB0.out.later hb4).tabG
                  have a0 := cell_regrown ((below_next HBEL.out hb4).cell (p := ad.add 0) (by rw [block_of_add]; exact had) |>.trans HA0.out)
                  have a0' : ∀ d os, (Go.Sort.grow (redrawn _ d) os).cell? ad = some (.int .i64 a) := a0
                  have b0 := cell_regrown ((below_next HBEL.out hb4).cell (p := { block := ad.block, off := ad.off + 1, spot := none }) had |>.trans HA1.out)
                  have z0 := cell_regrown HZ.out
                  refine wp_region_quiet_below (by kernel_rfl) (by kernel_rfl) ?_
                  repeat (go_big_quiet_step ((go_at_call 86; exact quiet_t (fun W hW => HCLW.out _ W (below_next hb4 hW)))))
                  refine wpQuiet_nil ?_
                  rintro _ ⟨⟨dq, osq⟩, rfl⟩
                  clear x0 x1 x2 x3 x4 x5 x6 x7 x8 x9 x10 x11 a0 a0' b0
                  clear z0
                  go_wp2_with fail
                  go_ret
                  rw [HRC3.out, decide_eq_false HK.out, HZL.out]
                  exact ⟨by simp, below_next HBEL.out (below_next hb4 (below_regrown _ dq osq))⟩
              · have HCO := Lib.hid (fun W (h : Below w1.heap.size w1 W) => HIH.out a W (HTW.out W (below_next hb1 h)) HFA.out)
                have HAN := Lib.hid han
                have q5 : (0 : Int) < ((findL T.decomps a).length : Int) := by have := length_pos_ne han; omega
                have q6 : 0 < (findL T.decomps a).length := length_pos_ne han
                clear han
                cases hco : T.compF f a
                · rw [hco] at HCO
                  have HRC3 : Hid (R = false) := Lib.hid (by rw [HRC2.out, decide_eq_false HAN.out, hco]; rfl)
                  clear hco
                  go_wp2_with fail
                  obtain ⟨x0, x1, x2, x3, x4, x5, x6, x7, x8, x9, x10, x11⟩ := (HB0.out.later hb1).tabG
                  have a0 := cell_regrown ((below_next HBEL.out hb1).cell (p := ad.add 0) (by rw [block_of_add]; exact had) |>.trans HA0.out)
                  have a0' : ∀ d os, (Go.Sort.grow (redrawn _ d) os).cell? ad = some (.int .i64 a) := a0
                  have b0 := cell_regrown ((below_next HBEL.out hb1).cell (p := { block := ad.block, off := ad.off + 1, spot := none }) had |>.trans HA1.out)
                  refine wp_region_quiet_below (by kernel_rfl) (by kernel_rfl) ?_
                  repeat (go_big_quiet_step (first | (go_at_call 49; exact quiet_t (fun W hW => HFAF.out W (below_next hb1 hW))) | (go_at_call 50; exact quiet_t (fun W hW => HCO.out W hW))))
                  refine wpQuiet_nil ?_
                  rintro _ ⟨⟨dq, osq⟩, rfl⟩
                  clear x0 x1 x2 x3 x4 x5 x6 x7 x8 x9 x10 x11 a0 a0' b0
                  go_wp2_with fail
                  go_ret
                  rw [HRC3.out]
                  exact ⟨rfl, below_next HBEL.out (below_next hb1 (below_regrown _ dq osq))⟩
                · rw [hco] at HCO
                  have HRC3 : Hid (R = (decide (T.classOf b = 0) || decide (T.classOf (lastF T.decomps f a) ≤ T.classOf b))) := Lib.hid (by rw [HRC2.out, hco, Bool.or_true, Bool.true_and])
                  clear hco
                  go_wp2_with fail
                  obtain ⟨x0, x1, x2, x3, x4, x5, x6, x7, x8, x9, x10, x11⟩ := (HB0.out.later hb1).tabG
                  have a0 := cell_regrown ((below_next HBEL.out hb1).cell (p := ad.add 0) (by rw [block_of_add]; exact had) |>.trans HA0.out)
                  have a0' : ∀ d os, (Go.Sort.grow (redrawn _ d) os).cell? ad = some (.int .i64 a) := a0
                  have b0 := cell_regrown ((below_next HBEL.out hb1).cell (p := { block := ad.block, off := ad.off + 1, spot := none }) had |>.trans HA1.out)
                  refine wp_region_quiet_below (by kernel_rfl) (by kernel_rfl) ?_
                  repeat (go_big_quiet_step (first | (go_at_call 49; exact quiet_t (fun W hW => HFAF.out W (below_next hb1 hW))) | (go_at_call 50; exact quiet_t (fun W hW => HCO.out W hW))))
                  refine wpQuiet_nil ?_
                  rintro _ ⟨⟨dq, osq⟩, rfl⟩
                  clear x0 x1 x2 x3 x4 x5 x6 x7 x8 x9 x10 x11 a0 a0' b0
                  have hb3 := below_next hb1 (below_regrown w1 dq osq)
                  generalize Go.Sort.grow (redrawn w1 dq) osq = w3 at *
                  clear hb1 q5 q6
                  obtain ⟨hea, hfua, hela⟩ := HEN.out a
                  have HXL := Lib.hid (lastF_same hea HFA.out)
                  have HFX := Lib.hid (HFUW.out a)
                  rw [hfua] at HFX
                  obtain ⟨n, hn⟩ : ∃ n, (expF T.decomps T.decomps.length a).length = n + 1 := ⟨(expF T.decomps T.decomps.length a).length - 1, by have := length_pos_ne (expF_ne T.decomps T.decomps.length a); omega⟩
                  have HNN := Lib.hid hn
                  clear hea hfua hn
                  go_wp2_with fail
                  obtain ⟨x0, x1, x2, x3, x4, x5, x6, x7, x8, x9, x10, x11⟩ := (HB0.out.later hb3).tab
                  have a0 := ((below_next HBEL.out hb3).cell (p := ad.add 0) (by rw [block_of_add]; exact had)).trans HA0.out
                  have a0' : w3.cell? ad = some (.int .i64 a) := a0
                  go_region_held3 (fun w' => w'.cell? ⟨w.heap.size, 0, none⟩ = some (.slice A0 T.category.length k0) ∧ w'.cell? ⟨w.heap.size, 1, none⟩ = some (.slice A1 T.cls.length k1) ∧ w'.cell? ⟨w.heap.size, 2, none⟩ = some (.slice A2 T.joining.length k2) ∧ w'.cell? ⟨w.heap.size, 3, none⟩ = some (.slice A3 T.bidi.length k3) ∧ w'.cell? ⟨w.heap.size, 4, none⟩ = some (.slice A4 T.script.length k4) ∧ w'.cell? ⟨w.heap.size, 5, none⟩ = some (.slice A5 T.status.length k5) ∧ w'.cell? ⟨w.heap.size, 6, none⟩ = some (.slice A6 T.ignorable.length k6) ∧ w'.cell? ⟨w.heap.size, 7, none⟩ = some (.slice A7 T.extensions.length k7) ∧ w'.cell? ⟨w.heap.size, 8, none⟩ = some (.slice A8 T.maps.length k8) ∧ w'.cell? ⟨w.heap.size, 9, none⟩ = some (.slice A9 T.decomps.length k9) ∧ w'.cell? ⟨w.heap.size, 10, none⟩ = some (.slice A10 T.excluded.length k10) ∧ w'.cell? ⟨w.heap.size, 11, none⟩ = some (.slice A11 T.prototypes.length k11) ∧ w'.cell? ad = some (.int .i64 a)) (go_keep)
                    ((go_at_call 84; refine (HFX.out _ (show Below w0.heap.size w0 (World.drew w3) from hb3.drew)).mono ?_; rintro e w4 ⟨ux, rfl, hux, b4⟩; obtain ⟨x0, x1, x2, x3, x4, x5, x6, x7, x8, x9, x10, x11⟩ := ((HB0.out.later (show Below w0.heap.size w0 (World.drew w3) from hb3.drew)).later b4).tab; have a0 := (b4.cell (p := ad) (by have := (below_next HBEL.out hb3).size; simp; omega)).trans a0'))
                  clear x0 x1 x2 x3 x4 x5 x6 x7 x8 x9 x10 x11 a0 a0'
                  have hb4 := below_next (show Below w0.heap.size w0 (World.drew w3) from hb3.drew) b4
                  have HUX := Lib.hid hux
                  clear b4 hux hb3
                  have HLN := Lib.hid HNN.out
                  simp only [Option.getD_some] at HUX
                  obtain ⟨adx, cx, hux, hax, _, _, hcx⟩ := HUX.out.some_ (expF_ne T.decomps T.decomps.length a)
                  subst hux
                  obtain ⟨_, z, hxz, hz⟩ := snoc_of HNN.out
                  have HZL : Hid (lastF T.decomps f a = z) := Lib.hid (by rw [← HXL.out]; unfold lastF; rw [hxz, getLastD_app (by simp)]; rfl)
                  have HZ := Lib.hid (hcx n z hz)
                  have hw2 : IntKind.i64.wrap (((expF T.decomps T.decomps.length a).length : Int) - 1) = n := by rw [IntWalk.i64_in _ (by have := HNN.out; have := (HEN.out a).2.2; omega)]; have := HNN.out; omega
                  have s0 : (0 : Int) ≤ (n : Int) := by omega
                  have s1 : (n : Int) < ((expF T.decomps T.decomps.length a).length : Int) := by have := HNN.out; omega
                  generalize (expF T.decomps T.decomps.length a).length = ln at *
                  clear hcx hxz hz HUX
                  by_cases hk0 : T.classOf b = 0
                  · have q5 : (T.classOf b == 0) = true := by rw [beq_iff_eq]; exact hk0
                    have HK := Lib.hid hk0
                    clear hk0
                    go_wp2_with fail
                    obtain ⟨x0, x1, x2, x3, x4, x5, x6, x7, x8, x9, x10, x11⟩ := (HB0.out.later hb4).tabG
                    have a0 := cell_regrown ((below_next HBEL.out hb4).cell (p := ad.add 0) (by rw [block_of_add]; exact had) |>.trans HA0.out)
                    have a0' : ∀ d os, (Go.Sort.grow (redrawn _ d) os).cell? ad = some (.int .i64 a) := a0
                    have b0 := cell_regrown ((below_next HBEL.out hb4).cell (p := { block := ad.block, off := ad.off + 1, spot := none }) had |>.trans HA1.out)
                    refine wp_region_quiet_below (by kernel_rfl) (by kernel_rfl) ?_
                    repeat (go_big_quiet_step ((go_at_call 86; exact quiet_t (fun W hW => HCLW.out _ W (below_next hb4 hW)))))
                    refine wpQuiet_nil ?_
                    rintro _ ⟨⟨dq, osq⟩, rfl⟩
                    clear x0 x1 x2 x3 x4 x5 x6 x7 x8 x9 x10 x11 a0 a0' b0
                    go_wp2_with fail
                    go_ret
                    rw [HRC3.out, decide_eq_true HK.out]
                    exact ⟨by simp, below_next HBEL.out (below_next hb4 (below_regrown _ dq osq))⟩
                  · have q5 : (T.classOf b == 0) = false := by rw [beq_eq_false_iff_ne]; exact hk0
                    have HK := Lib.hid hk0
                    clear hk0
                    go_wp2_with fail
                    obtain ⟨x0, x1, x2, x3, x4, x5, x6, x7, x8, x9, x10, x11⟩ := (HB0.out.later hb4).tabG
                    have a0 := cell_regrown ((below_next HBEL.out hb4).cell (p := ad.add 0) (by rw [block_of_add]; exact had) |>.trans HA0.out)
                    have a0' : ∀ d os, (Go.Sort.grow (redrawn _ d) os).cell? ad = some (.int .i64 a) := a0
                    have b0 := cell_regrown ((below_next HBEL.out hb4).cell (p := { block := ad.block, off := ad.off + 1, spot := none }) had |>.trans HA1.out)
                    have z0 := cell_regrown HZ.out
                    refine wp_region_quiet_below (by kernel_rfl) (by kernel_rfl) ?_
                    repeat (go_big_quiet_step ((go_at_call 86; exact quiet_t (fun W hW => HCLW.out _ W (below_next hb4 hW)))))
                    refine wpQuiet_nil ?_
                    rintro _ ⟨⟨dq, osq⟩, rfl⟩
                    clear x0 x1 x2 x3 x4 x5 x6 x7 x8 x9 x10 x11 a0 a0' b0
                    clear z0
                    go_wp2_with fail
                    go_ret
                    rw [HRC3.out, decide_eq_false HK.out, HZL.out]
                    exact ⟨by simp, below_next HBEL.out (below_next hb4 (below_regrown _ dq osq))⟩
            · have HBN := Lib.hid hbn
              have q3 : (0 : Int) < ((findL T.decomps b).length : Int) := by have := length_pos_ne hbn; omega
              have q4 : 0 < (findL T.decomps b).length := length_pos_ne hbn
              clear hbn
              go_wp2_with fail
              obtain ⟨x0, x1, x2, x3, x4, x5, x6, x7, x8, x9, x10, x11⟩ := (HB0.out.later (Below.refl _ _)).tabG
              have a0 := cell_regrown ((below_next HBEL.out (Below.refl _ _)).cell (p := ad.add 0) (by rw [block_of_add]; exact had) |>.trans HA0.out)
              have a0' : ∀ d os, (Go.Sort.grow (redrawn _ d) os).cell? ad = some (.int .i64 a) := a0
              have b0 := cell_regrown ((below_next HBEL.out (Below.refl _ _)).cell (p := { block := ad.block, off := ad.off + 1, spot := none }) had |>.trans HA1.out)
              refine wp_region_quiet_below (by kernel_rfl) (by kernel_rfl) ?_
              repeat (go_big_quiet_step (first | (go_at_call 85; exact quiet_t (fun W hW => HEXQ.out W hW)) | (go_at_call 86; exact quiet_t (fun W hW => HCLW.out _ W hW)) | (go_at_call 49; exact quiet_t (fun W hW => HFB.out W hW))))
              refine wpQuiet_nil ?_
              rintro _ ⟨⟨dq, osq⟩, rfl⟩
              clear x0 x1 x2 x3 x4 x5 x6 x7 x8 x9 x10 x11 a0 a0' b0
              go_wp2_with fail
              go_ret
              rw [HRC.out, decide_eq_false HBN.out]
              exact ⟨by simp, below_next HBEL.out (below_regrown _ dq osq)⟩
          · have q2 : (T.classOf a != 0) = true := by rw [bne_iff_ne]; exact ha0
            have HAC := Lib.hid ha0
            clear ha0
            go_wp2_with fail
            obtain ⟨x0, x1, x2, x3, x4, x5, x6, x7, x8, x9, x10, x11⟩ := (HB0.out.later (Below.refl _ _)).tabG
            have a0 := cell_regrown ((below_next HBEL.out (Below.refl _ _)).cell (p := ad.add 0) (by rw [block_of_add]; exact had) |>.trans HA0.out)
            have a0' : ∀ d os, (Go.Sort.grow (redrawn _ d) os).cell? ad = some (.int .i64 a) := a0
            have b0 := cell_regrown ((below_next HBEL.out (Below.refl _ _)).cell (p := { block := ad.block, off := ad.off + 1, spot := none }) had |>.trans HA1.out)
            refine wp_region_quiet_below (by kernel_rfl) (by kernel_rfl) ?_
            repeat (go_big_quiet_step (first | (go_at_call 85; exact quiet_t (fun W hW => HEXQ.out W hW)) | (go_at_call 86; exact quiet_t (fun W hW => HCLW.out _ W hW)) | (go_at_call 49; exact quiet_t (fun W hW => HFB.out W hW))))
            refine wpQuiet_nil ?_
            rintro _ ⟨⟨dq, osq⟩, rfl⟩
            clear x0 x1 x2 x3 x4 x5 x6 x7 x8 x9 x10 x11 a0 a0' b0
            go_wp2_with fail
            go_ret
            rw [HRC.out, decide_eq_false HAC.out]
            exact ⟨by simp, below_next HBEL.out (below_regrown _ dq osq)⟩
        · have q1 : (T.classOf c != 0) = true := by rw [bne_iff_ne]; exact hc0
          have HC0 := Lib.hid hc0
          clear hc0
          go_wp2_with fail
          obtain ⟨x0, x1, x2, x3, x4, x5, x6, x7, x8, x9, x10, x11⟩ := (HB0.out.later (Below.refl _ _)).tabG
          have a0 := cell_regrown ((below_next HBEL.out (Below.refl _ _)).cell (p := ad.add 0) (by rw [block_of_add]; exact had) |>.trans HA0.out)
          have a0' : ∀ d os, (Go.Sort.grow (redrawn _ d) os).cell? ad = some (.int .i64 a) := a0
          have b0 := cell_regrown ((below_next HBEL.out (Below.refl _ _)).cell (p := { block := ad.block, off := ad.off + 1, spot := none }) had |>.trans HA1.out)
          refine wp_region_quiet_below (by kernel_rfl) (by kernel_rfl) ?_
          repeat (go_big_quiet_step (first | (go_at_call 85; exact quiet_t (fun W hW => HEXQ.out W hW)) | (go_at_call 86; exact quiet_t (fun W hW => HCLW.out _ W hW)) | (go_at_call 49; exact quiet_t (fun W hW => HFB.out W hW))))
          refine wpQuiet_nil ?_
          rintro _ ⟨⟨dq, osq⟩, rfl⟩
          clear x0 x1 x2 x3 x4 x5 x6 x7 x8 x9 x10 x11 a0 a0' b0
          go_wp2_with fail
          go_ret
          rw [HRC.out, decide_eq_false HC0.out]
          exact ⟨by simp, below_next HBEL.out (below_regrown _ dq osq)⟩
      · have HE := Lib.hid hex
        have HEXQ := Lib.hid (fun W (h : Below w0.heap.size w0 W) => HEXW.out c W h)
        rw [hex] at HEXQ
        clear hex
        go_wp2_with fail
        obtain ⟨x0, x1, x2, x3, x4, x5, x6, x7, x8, x9, x10, x11⟩ := (HB0.out.later (Below.refl _ _)).tabG
        have a0 := cell_regrown ((below_next HBEL.out (Below.refl _ _)).cell (p := ad.add 0) (by rw [block_of_add]; exact had) |>.trans HA0.out)
        have a0' : ∀ d os, (Go.Sort.grow (redrawn _ d) os).cell? ad = some (.int .i64 a) := a0
        have b0 := cell_regrown ((below_next HBEL.out (Below.refl _ _)).cell (p := { block := ad.block, off := ad.off + 1, spot := none }) had |>.trans HA1.out)
        refine wp_region_quiet_below (by kernel_rfl) (by kernel_rfl) ?_
        repeat (go_big_quiet_step (first | (go_at_call 85; exact quiet_t (fun W hW => HEXQ.out W hW)) | (go_at_call 86; exact quiet_t (fun W hW => HCLW.out _ W hW)) | (go_at_call 49; exact quiet_t (fun W hW => HFB.out W hW))))
        refine wpQuiet_nil ?_
        rintro _ ⟨⟨dq, osq⟩, rfl⟩
        clear x0 x1 x2 x3 x4 x5 x6 x7 x8 x9 x10 x11 a0 a0' b0
        go_wp2_with fail
        go_ret
        rw [HRC.out, HE.out]
        exact ⟨by simp, below_next HBEL.out (below_regrown _ dq osq)⟩
    · have hcm := comp_len (T := T) (f := f + 1) rfl hl
      rw [hcm]
      have p1 : (((findL T.decomps c).length : Int) != 2) = true := by rw [bne_iff_ne]; omega
      clear hl hcm
      go_enter Tryz.func50, Tryz.ntmps50
      go_wp2_with fail
      refine (HF.out _ ((Below.refl _ _).alloc (Nat.le_refl _) _)).mono ?_
      rintro e w0 ⟨rfl, b0⟩
      have HB0 := Lib.hid (HBB.out.later b0)
      have hbel := below_next ((Below.refl w.heap.size w).alloc (Nat.le_refl _) _) b0
      clear b0 HBB
      go_wp2_with fail
      obtain ⟨x0, x1, x2, x3, x4, x5, x6, x7, x8, x9, x10, x11⟩ := (HB0.out.later (Below.refl _ _)).tabG
      refine wp_region_quiet_below (by kernel_rfl) (by kernel_rfl) ?_
      repeat (go_big_quiet_step (fail))
      refine wpQuiet_nil ?_
      rintro _ ⟨⟨dq, osq⟩, rfl⟩
      clear x0 x1 x2 x3 x4 x5 x6 x7 x8 x9 x10 x11
      go_wp2_with fail
      go_ret
      exact ⟨rfl, below_next hbel (below_regrown _ dq osq)⟩
end Go.Proofs.YtikcfoobfobmnaaGreatDoor
