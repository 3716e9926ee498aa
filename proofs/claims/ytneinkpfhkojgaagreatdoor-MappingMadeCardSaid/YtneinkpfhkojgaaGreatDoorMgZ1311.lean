/-
  Merged texts: lemmas and walks that the last text of this claim leans on.
-/
import Derived.Test.YtneinkpfhkojgaaGreatDoorMgZ139
import Derived.Test.YtneinkpfhkojgaaGreatDoorMgZ1310
import Derived.Test.YtneinkpfhkojgaaGreatDoorMgZ134
import Derived.Test.YtneinkpfhkojgaaGreatDoorMgZ137
import Derived.Test.YtneinkpfhkojgaaGreatDoorMgZ132
import Derived.Test.YtneinkpfhkojgaaGreatDoorMgZ133
import Derived.Shelf.Abstract
/-
  The walk through the reference's Check.
-/
namespace Go.Proofs.YtneinkpfhkojgaaGreatDoor
open Go.RowKit ND

/-- Two rows that may not stand beside each other. -/
def conflB (T : Tab) (a b : Mp) : Bool := T.comp a.1 && (T.comp b.1 && decide (a.2 = b.2))
theorem nodup_next {T : Tab} {i : Nat} {a : Mp} (hx : T.decomps[i]? = some a) (h : (pairsTo T i).Nodup) (hc : ∀ j b, j < i → T.decomps[j]? = some b → conflB T a b = false) : (pairsTo T (i + 1)).Nodup := by
  cases hca : T.comp a.1
  · rw [pairsTo_no hx hca]; exact h
  · rw [pairsTo_yes hx hca, List.nodup_append]
    refine ⟨h, by simp, fun x hx' y hy e => ?_⟩
    rw [List.mem_singleton] at hy
    subst hy; subst e
    obtain ⟨b, hb, he⟩ := List.mem_map.1 hx'
    obtain ⟨hb1, hb2⟩ := List.mem_filter.1 hb
    obtain ⟨j, hj, hje⟩ := List.mem_iff_getElem.1 hb1
    have hj1 : j < i := by rw [List.length_take] at hj; omega
    have hj2 : T.decomps[j]? = some b := by
      rw [← hje, List.getElem_take]
      exact List.getElem?_eq_getElem _
    have := hc j b hj1 hj2
    unfold conflB at this
    rw [hca, hb2, decide_eq_true he.symm] at this
    cases this
theorem nodup_fail {T : Tab} {i j : Nat} {a b : Mp} (hx : T.decomps[i]? = some a) (hj : j < i) (hb : T.decomps[j]? = some b) (h : conflB T a b = true) : T.rule8 = false := by
  unfold conflB at h
  simp only [Bool.and_eq_true, decide_eq_true_eq] at h
  unfold Tab.rule8
  rw [decide_eq_false_iff_not]
  intro hn
  have h1 := hn.sublist (pairsTo_sub T (i + 1))
  rw [pairsTo_yes hx h.1, List.nodup_append] at h1
  refine h1.2.2 b.2 ?_ a.2 (List.mem_singleton.2 rfl) h.2.2.symm
  refine List.mem_map_of_mem (List.mem_filter.2 ⟨?_, h.2.1⟩)
  obtain ⟨hj', he⟩ := List.getElem?_eq_some_iff.1 hb
  exact List.mem_iff_getElem.2 ⟨j, by rw [List.length_take]; have := (List.getElem?_eq_some_iff.1 hx).1; omega, by rw [List.getElem_take]; exact he⟩
theorem nodup_end {T : Tab} (h : (pairsTo T T.decomps.length).Nodup) : T.rule8 = true := by
  rw [pairsTo_all] at h; unfold Tab.rule8; exact decide_eq_true h
theorem comp_to {T : Tab} {c : Int} {tg : List Int} (hf : findL T.decomps c = tg) (h : T.comp c = true) : ∃ a b, tg = [a, b] := by
  obtain ⟨a, b, he⟩ := comp_form h; exact ⟨a, b, hf.symm.trans he⟩

/-- The two cells of a mapping in a block, and a list's first cells, in every world that may come within a region. -/
theorem grown2 {w : World} {g : Nat} {e : TypeId} {u v : Value} (h : Blk w g e #[u, v]) : (∀ d os, (Go.Sort.grow (redrawn w d) os).cell? ⟨g, 0, none⟩ = some u) ∧ (∀ d os, (Go.Sort.grow (redrawn w d) os).cell? ⟨g, 1, none⟩ = some v) :=
  ⟨cell_regrown (h.at_ rfl), cell_regrown (h.at_ rfl)⟩

set_option maxRecDepth 100000 in
set_option maxHeartbeats 16000000 in
theorem check_ref (t : Tv) (T : Tab) (w : World) (ht : TabR w w.heap.size t T) :
    Calls Tryz.prog 60 #[t.val] w fun e w' => e = .returned (.int .i64 T.check) ∧ Below w.heap.size w w' := by
  obtain ⟨tc, htc⟩ : ∃ tc, tc = t.cells := ⟨_, rfl⟩
  have HT := Lib.hid (fun W (h : Below w.heap.size w W) => ht.later h)
  have H0 := Lib.hid (fun W h => small_any t T W h)
  have H1 := Lib.hid (fun W h => placed_any t T W h)
  have H2 := Lib.hid (fun W h => ranged_any t T W h)
  have H3 := Lib.hid (fun W h => sized_any t T W h)
  have H4 := Lib.hid (fun (hs : Shape T) W h => refMapped_any t T W h hs.c5)
  have H5 := Lib.hid (fun (hs : Shape T) (hz : Sized T) W h => finite_any t T W h hz.nd hs.ld)
  have HFD := Lib.hid (fun c W (h : TabR W W.heap.size t T) => refFind_any t.c9 T.decomps c W h.r9)
  have HFP := Lib.hid (fun c W (h : TabR W W.heap.size t T) => refFind_any t.c11 T.prototypes c W h.r11)
  have HIG := Lib.hid (fun c W h => refIgnorable_any t T c W h)
  have HCM := Lib.hid (fun (hs : Shape T) (hz : Sized T) (he : Ends T) c W h => refComposable_any t T hs hz.nd he T.decomps.length c W h (he c).1)
  have hex := ht.r10
  have hdc := ht.r9
  have hpr := ht.r11
  obtain ⟨A0, A1, A2, A3, A4, A5, A6, A7, A8, A9, A10, A11, k0, k1, k2, k3, k4, k5, k6, k7, k8, k9, k10, k11, rfl⟩ := ht.shape
  obtain ⟨_, _, he, ha1, ha2, _, hexc⟩ := hex
  cases he
  obtain ⟨_, _, he, hb1, hb2, _, hdcc⟩ := hdc
  cases he
  obtain ⟨_, _, he, hc1, hc2, _, hprc⟩ := hpr
  cases he
  have hxl : T.excluded.length ≤ 9223372036854775807 := by unfold maxLen at ha2; omega
  have hdl : T.decomps.length ≤ 9223372036854775807 := by unfold maxLen at hb2; omega
  have hpl : T.prototypes.length ≤ 9223372036854775807 := by unfold maxLen at hc2; omega
  have HEX := Lib.hid hexc
  have HDC := Lib.hid hdcc
  have HPR := Lib.hid hprc
  have HTC := Lib.hid htc
  have HK9 := Lib.hid (And.intro hb1 hb2)
  clear ht htc hexc hdcc hprc ha1 ha2 hb1 hb2 hc1 hc2
  obtain ⟨R, hR⟩ : ∃ R, R = T.check := ⟨_, rfl⟩
  rw [← hR]
  have HR := Lib.hid hR
  clear hR
  have HW0 := Lib.hid (show Below w.heap.size w (w.alloc (.cells tc 26)) from (Below.refl _ _).alloc (Nat.le_refl _) _)
  have HB0 := Lib.hid (Blk.new w 26 tc)
  have HH0 := Lib.hid (HoldTo.zero T)
  rw [HTC.out] at HW0 HB0
  go_enter Tryz.func60, Tryz.ntmps60
  go_wp2_with fail
  generalize World.alloc w _ = v0 at *
  have HB0' : Hid (Blk v0 w.heap.size 26 tc) := Lib.hid (by rw [HTC.out]; exact HB0.out)
  clear HB0
  have HP0 := Lib.hid (HH0.out.parts (by omega))
  have HCA := Lib.hid (H0.out _ (HT.out _ HW0.out))
  obtain ⟨x0, x1, x2, x3, x4, x5, x6, x7, x8, x9, x10, x11⟩ := (show Blk _ _ _ #[_, _, _, _, _, _, _, _, _, _, _, _] from by have h := HB0'.out; rw [HTC.out] at h; exact h).tab
  cases hr : T.rule1
  · rw [hr] at HCA
    have HN := Lib.hid (HR.out.trans (HH0.out.fail (by show some T.rule1 = some false; rw [hr])))
    clear hr
    go_wp2_with fail
    refine HCA.out.mono ?_
    rintro e v1 ⟨rfl, b2⟩
    clear x0 x1 x2 x3 x4 x5 x6 x7 x8 x9 x10 x11
    go_wp2_with fail
    go_ret
    rw [HN.out]
    exact ⟨rfl, below_next HW0.out b2⟩
  rw [hr] at HCA
  have HH1 := Lib.hid (HH0.out.next (by show some T.rule1 = some true; rw [hr]))
  clear hr
  go_wp2_with fail
  refine HCA.out.mono ?_
  rintro e v1 ⟨rfl, b2⟩
  have HB1' := Lib.hid (HB0'.out.later b2)
  have HW1 := Lib.hid (below_next HW0.out b2)
  clear HB0' HW0 HP0 HH0 HCA b2
  clear x0 x1 x2 x3 x4 x5 x6 x7 x8 x9 x10 x11
  have HP1 := Lib.hid (HH1.out.parts (by omega))
  have HCA := Lib.hid (H1.out _ (HT.out _ HW1.out))
  obtain ⟨x0, x1, x2, x3, x4, x5, x6, x7, x8, x9, x10, x11⟩ := (show Blk _ _ _ #[_, _, _, _, _, _, _, _, _, _, _, _] from by have h := HB1'.out; rw [HTC.out] at h; exact h).tab
  cases hr : T.rule2
  · rw [hr] at HCA
    have HN := Lib.hid (HR.out.trans (HH1.out.fail (by show some T.rule2 = some false; rw [hr])))
    clear hr
    go_wp2_with fail
    refine HCA.out.mono ?_
    rintro e v2 ⟨rfl, b2⟩
    clear x0 x1 x2 x3 x4 x5 x6 x7 x8 x9 x10 x11
    go_wp2_with fail
    go_ret
    rw [HN.out]
    exact ⟨rfl, below_next HW1.out b2⟩
  rw [hr] at HCA
  have HH2 := Lib.hid (HH1.out.next (by show some T.rule2 = some true; rw [hr]))
  clear hr
  go_wp2_with fail
  refine HCA.out.mono ?_
  rintro e v2 ⟨rfl, b2⟩
  have HB2' := Lib.hid (HB1'.out.later b2)
  have HW2 := Lib.hid (below_next HW1.out b2)
  clear HB1' HW1 HP1 HH1 HCA b2
  clear x0 x1 x2 x3 x4 x5 x6 x7 x8 x9 x10 x11
  have HP2 := Lib.hid (HH2.out.parts (by omega))
  have HCA := Lib.hid (H2.out _ (HT.out _ HW2.out))
  obtain ⟨x0, x1, x2, x3, x4, x5, x6, x7, x8, x9, x10, x11⟩ := (show Blk _ _ _ #[_, _, _, _, _, _, _, _, _, _, _, _] from by have h := HB2'.out; rw [HTC.out] at h; exact h).tab
  cases hr : T.rule3
  · rw [hr] at HCA
    have HN := Lib.hid (HR.out.trans (HH2.out.fail (by show some T.rule3 = some false; rw [hr])))
    clear hr
    go_wp2_with fail
    refine HCA.out.mono ?_
    rintro e v3 ⟨rfl, b2⟩
    clear x0 x1 x2 x3 x4 x5 x6 x7 x8 x9 x10 x11
    go_wp2_with fail
    go_ret
    rw [HN.out]
    exact ⟨rfl, below_next HW2.out b2⟩
  rw [hr] at HCA
  have HH3 := Lib.hid (HH2.out.next (by show some T.rule3 = some true; rw [hr]))
  clear hr
  go_wp2_with fail
  refine HCA.out.mono ?_
  rintro e v3 ⟨rfl, b2⟩
  have HB3' := Lib.hid (HB2'.out.later b2)
  have HW3 := Lib.hid (below_next HW2.out b2)
  clear HB2' HW2 HP2 HH2 HCA b2
  clear x0 x1 x2 x3 x4 x5 x6 x7 x8 x9 x10 x11
  have HP3 := Lib.hid (HH3.out.parts (by omega))
  have HCA := Lib.hid (H3.out _ (HT.out _ HW3.out))
  obtain ⟨x0, x1, x2, x3, x4, x5, x6, x7, x8, x9, x10, x11⟩ := (show Blk _ _ _ #[_, _, _, _, _, _, _, _, _, _, _, _] from by have h := HB3'.out; rw [HTC.out] at h; exact h).tab
  cases hr : T.rule4
  · rw [hr] at HCA
    have HN := Lib.hid (HR.out.trans (HH3.out.fail (by show some T.rule4 = some false; rw [hr])))
    clear hr
    go_wp2_with fail
    refine HCA.out.mono ?_
    rintro e v4 ⟨rfl, b2⟩
    clear x0 x1 x2 x3 x4 x5 x6 x7 x8 x9 x10 x11
    go_wp2_with fail
    go_ret
    rw [HN.out]
    exact ⟨rfl, below_next HW3.out b2⟩
  rw [hr] at HCA
  have HH4 := Lib.hid (HH3.out.next (by show some T.rule4 = some true; rw [hr]))
  clear hr
  go_wp2_with fail
  refine HCA.out.mono ?_
  rintro e v4 ⟨rfl, b2⟩
  have HB4' := Lib.hid (HB3'.out.later b2)
  have HW4 := Lib.hid (below_next HW3.out b2)
  clear HB3' HW3 HP3 HH3 HCA b2
  clear x0 x1 x2 x3 x4 x5 x6 x7 x8 x9 x10 x11
  have HP4 := Lib.hid (HH4.out.parts (by omega))
  have HCA := Lib.hid (H4.out (Shape.of (HP4.out.1 (by omega)) (HP4.out.2.1 (by omega))) _ (HT.out _ HW4.out))
  obtain ⟨x0, x1, x2, x3, x4, x5, x6, x7, x8, x9, x10, x11⟩ := (show Blk _ _ _ #[_, _, _, _, _, _, _, _, _, _, _, _] from by have h := HB4'.out; rw [HTC.out] at h; exact h).tab
  cases hr : T.rule5
  · rw [hr] at HCA
    have HN := Lib.hid (HR.out.trans (HH4.out.fail (by show some T.rule5 = some false; rw [hr])))
    clear hr
    go_wp2_with fail
    refine HCA.out.mono ?_
    rintro e v5 ⟨rfl, b2⟩
    clear x0 x1 x2 x3 x4 x5 x6 x7 x8 x9 x10 x11
    go_wp2_with fail
    go_ret
    rw [HN.out]
    exact ⟨rfl, below_next HW4.out b2⟩
  rw [hr] at HCA
  have HH5 := Lib.hid (HH4.out.next (by show some T.rule5 = some true; rw [hr]))
  clear hr
  go_wp2_with fail
  refine HCA.out.mono ?_
  rintro e v5 ⟨rfl, b2⟩
  have HB5' := Lib.hid (HB4'.out.later b2)
  have HW5 := Lib.hid (below_next HW4.out b2)
  clear HB4' HW4 HP4 HH4 HCA b2
  clear x0 x1 x2 x3 x4 x5 x6 x7 x8 x9 x10 x11
  have HP5 := Lib.hid (HH5.out.parts (by omega))
  have HCA := Lib.hid (H5.out (Shape.of (HP5.out.1 (by omega)) (HP5.out.2.1 (by omega))) (Sized.of (HP5.out.2.2.2.1 (by omega))) _ (HT.out _ HW5.out))
  obtain ⟨x0, x1, x2, x3, x4, x5, x6, x7, x8, x9, x10, x11⟩ := (show Blk _ _ _ #[_, _, _, _, _, _, _, _, _, _, _, _] from by have h := HB5'.out; rw [HTC.out] at h; exact h).tab
  cases hr : T.rule6
  · rw [hr] at HCA
    have HN := Lib.hid (HR.out.trans (HH5.out.fail (by show some T.rule6 = some false; rw [hr])))
    clear hr
    go_wp2_with fail
    refine HCA.out.mono ?_
    rintro e v6 ⟨rfl, b2⟩
    clear x0 x1 x2 x3 x4 x5 x6 x7 x8 x9 x10 x11
    go_wp2_with fail
    go_ret
    rw [HN.out]
    exact ⟨rfl, below_next HW5.out b2⟩
  rw [hr] at HCA
  have HH6 := Lib.hid (HH5.out.next (by show some T.rule6 = some true; rw [hr]))
  clear hr
  go_wp2_with fail
  refine HCA.out.mono ?_
  rintro e v6 ⟨rfl, b2⟩
  have HB6' := Lib.hid (HB5'.out.later b2)
  have HW6 := Lib.hid (below_next HW5.out b2)
  clear HB5' HW5 HP5 HH5 HCA b2
  clear x0 x1 x2 x3 x4 x5 x6 x7 x8 x9 x10 x11
  have HP6 := Lib.hid (HH6.out.parts (by omega))
  have HSH := Lib.hid (Shape.of (HP6.out.1 (by omega)) (HP6.out.2.1 (by omega)))
  have HSZ := Lib.hid (Sized.of (HP6.out.2.2.2.1 (by omega)))
  have HEN := Lib.hid (Ends.of HSH.out.ld (HP6.out.2.2.2.2.2.1 (by omega)))
  have HCMP := Lib.hid (fun c W h => HCM.out HSH.out HSZ.out HEN.out c W h)
  have HFK := Lib.hid (fun i m (h : T.decomps[i]? = some m) => (findL_at (fun k a hk ha => keysB_sort HSH.out.kd k i a m hk ha h) h rfl : findL T.decomps m.1 = m.2))
  clear H0 H1 H2 H3 H4 H5 HCM HP6
  have HX0 : Hid ((T.excluded.drop 0).all T.exOk = T.rule7) := Lib.hid rfl
  have x10 := HB6'.out
  rw [HTC.out] at x10
  have x10 := x10.at_ (i := 10) rfl
  go_wp2_with fail
  clear x10
  go_loopw [40] (fun i wr => ∃ (j : Nat), j ≤ T.excluded.length ∧ i = .int .i64 j ∧ Hid ((T.excluded.drop j).all T.exOk = T.rule7) ∧ Below w.heap.size w wr ∧ Hid (Blk wr w.heap.size 26 tc)) (fun i _ => T.excluded.length - (intOf i).toNat)
  case atStart => exact ⟨0, by omega, rfl, HX0, HW6.out, HB6'⟩
  case round =>
    obtain ⟨j, hj, rfl, HS, hbel, HB⟩ := hrel
    clear HX0 HW6 HB6'
    by_cases hjl : j < T.excluded.length
    · obtain ⟨x, hxj, _⟩ := get_el hjl
      obtain ⟨aj, rfl, ha, d0⟩ := HEX.out j _ hxj
      have e0 := (hbel.cell (p := aj.add j) (by rw [block_of_add]; exact ha)).trans d0
      have x9 := (show Blk _ _ _ #[_, _, _, _, _, _, _, _, _, _, _, _] from by have h := HB.out; rw [HTC.out] at h; exact h).at_ (i := 9) rfl
      have HX := Lib.hid hxj
      have HCA := Lib.hid (HFD.out x _ (HT.out _ hbel))
      clear d0 hxj ha
      have r0 : (0 : Int) ≤ (j : Int) := by omega
      have r1 : (j : Int) < (T.excluded.length : Int) := by omega
      by_cases hn : findL T.decomps x = []
      · have HN := Lib.hid (HR.out.trans (HH6.out.fail (by show some T.rule7 = some false; rw [each_no HX.out HS.out (show T.exOk x = false from decide_eq_false (fun h => h hn))])))
        rw [hn] at HCA
        have q3 : ([] : List Int).length = 0 := rfl
        clear hn
        go_wp2_with fail
        refine HCA.out.mono ?_
        rintro e w2 ⟨u, rfl, hu, b2⟩
        obtain ⟨Au, cu, rfl, _⟩ := hu
        clear x9 e0 HB
        go_wp2_with fail
        go_ret
        rw [HN.out]
        exact ⟨rfl, below_next hbel b2⟩
      · have HN := Lib.hid (each_go HX.out HS.out (show T.exOk x = true from decide_eq_true hn))
        have hp := length_pos_ne hn
        have q3 : (((findL T.decomps x).length : Int) == 0) = false := by rw [beq_eq_false_iff_ne]; omega
        clear hn hp
        go_wp2_with fail
        refine HCA.out.mono ?_
        rintro e w2 ⟨u, rfl, hu, b2⟩
        have HB2 := Lib.hid (HB.out.later b2)
        obtain ⟨Au, cu, rfl, _⟩ := hu
        clear x9 e0 HB
        go_wp2_with fail
        go_roundw
        case rel => exact ⟨j + 1, by omega, by go_num, HN, below_next hbel b2, HB2⟩
        case measure => simp [intOf]; omega
    · have HH7 := Lib.hid (HH6.out.next (by show some T.rule7 = some true; rw [each_end (by omega) HS.out]))
      have x9 := (show Blk _ _ _ #[_, _, _, _, _, _, _, _, _, _, _, _] from by have h := HB.out; rw [HTC.out] at h; exact h).at_ (i := 9) rfl
      clear HS HEX HH6
      go_wp2_with fail
      clear x9
      go_loopw [54] (fun i wr => ∃ (j : Nat), j ≤ T.decomps.length ∧ i = .int .i64 j ∧ Hid ((pairsTo T j).Nodup) ∧ Below w.heap.size w wr ∧ Hid (Blk wr w.heap.size 26 tc)) (fun i _ => T.decomps.length - (intOf i).toNat)
      case atStart => exact ⟨0, by omega, rfl, Lib.hid List.nodup_nil, hbel, HB⟩
      case round =>
        obtain ⟨j, hj, rfl, HS, hbel, HB⟩ := hrel
        by_cases hjl : j < T.decomps.length
        · obtain ⟨⟨ca, ta⟩, hxj, _⟩ := get_el hjl
          obtain ⟨aj, sv, rfl, ha, d0, d1, hta⟩ := HDC.out j _ hxj
          simp only at d0 d1 hta
          obtain ⟨Aa, cpa, rfl, _, _, _, hcla⟩ := id hta
          have HTA := Lib.hid hcla
          obtain ⟨e0, e1⟩ := map_cells hbel ha d0 d1
          have HX := Lib.hid hxj
          have hbelw := hbel.alloc hbel.size (.cells #[.int .i64 ca, .slice Aa ta.length cpa] 49)
          have HB' := Lib.hid (HB.out.alloc (.cells #[.int .i64 ca, .slice Aa ta.length cpa] 49))
          have HVA := Lib.hid (Blk.new wr 49 #[.int .i64 ca, .slice Aa ta.length cpa])
          have x9 := (show Blk _ _ _ #[_, _, _, _, _, _, _, _, _, _, _, _] from by have h := HB'.out; rw [HTC.out] at h; exact h).at_ (i := 9) rfl
          have s0 : (0 : Int) ≤ (j : Int) := by omega
          have s1 : (j : Int) ≤ (k9 : Int) := by have := HK9.out.1; omega
          have s2 : (j : Int) < (T.decomps.length : Int) := by omega
          obtain ⟨ga, hga⟩ : ∃ ga, ga = wr.heap.size := ⟨_, rfl⟩
          have HGA := Lib.hid hga
          have HFA := Lib.hid (HFK.out j _ hxj)
          simp only at HFA
          have HWA := Lib.hid hbelw
          have HLT : Hid (ga < (wr.alloc (.cells #[.int .i64 ca, .slice Aa ta.length cpa] 49)).heap.size) := Lib.hid (by rw [hga]; simp)
          rw [← hga] at HVA
          clear d0 d1 hxj hta hcla hga
          go_wp2_with fail
          clear x9 e0 e1
          generalize World.alloc _ (.cells #[.int .i64 ca, .slice Aa ta.length cpa] 49) = wo at *
          rw [← HGA.out]
          go_loopw [64] (fun i wr => ∃ (q : Nat), q ≤ j ∧ i = .int .i64 q ∧ Hid (∀ i b, i < q → T.decomps[i]? = some b → conflB T (ca, ta) b = false) ∧ Below w.heap.size w wr ∧ Hid (Blk wr w.heap.size 26 tc) ∧ Hid (Blk wr ga 49 #[.int .i64 ca, .slice Aa ta.length cpa])) (fun i _ => j - (intOf i).toNat)
          case atStart => exact ⟨0, by omega, rfl, Lib.hid (fun i b h => by omega), hbelw, HB', HVA⟩
          case round =>
            obtain ⟨q, hq, rfl, HSq, hbelq, HBq, HAq⟩ := hrel
            by_cases hql : q < j
            · obtain ⟨⟨cb, tb⟩, hxq, _⟩ := get_el (xs := T.decomps) (k := q) (by omega)
              obtain ⟨aq, sv, he, haq, d0, d1, htb⟩ := HDC.out q _ hxq
              cases he
              simp only at d0 d1 htb
              obtain ⟨Ab, cpb, rfl, _, _, _, hclb⟩ := id htb
              have HTB := Lib.hid hclb
              obtain ⟨e0, e1⟩ := map_cells hbelq haq d0 d1
              have HXq := Lib.hid hxq
              have hbelz := hbelq.alloc hbelq.size (.cells #[.int .i64 cb, .slice Ab tb.length cpb] 49)
              have HBz := Lib.hid (HBq.out.alloc (.cells #[.int .i64 cb, .slice Ab tb.length cpb] 49))
              have HAz := Lib.hid (HAq.out.alloc (.cells #[.int .i64 cb, .slice Ab tb.length cpb] 49))
              have HVb := Lib.hid (Blk.new wr 49 #[.int .i64 cb, .slice Ab tb.length cpb])
              have HFB := Lib.hid (HFK.out q _ hxq)
              simp only at HFB
              have r0 : (0 : Int) ≤ (q : Int) := by omega
              have r1 : (q : Int) < (j : Int) := by omega
              clear d0 d1 hxq htb hclb haq
              go_wp2_with fail
              generalize World.alloc _ (.cells #[.int .i64 cb, .slice Ab tb.length cpb] 49) = wz at *
              obtain ⟨gb, hgb⟩ : ∃ gb, gb = wr.heap.size := ⟨_, rfl⟩
              rw [← hgb] at HVb
              rw [← hgb]
              clear hgb e0 e1
              have HCW := Lib.hid (fun c W (h : Below wz.heap.size wz W) => HCMP.out c W (HT.out W (below_next hbelz h)))
              cases hca : T.comp ca
              · have HCA := Lib.hid (HCW.out ca)
                rw [show T.compF T.decomps.length ca = false from hca] at HCA
                have HN : Hid (∀ i b, i < q + 1 → T.decomps[i]? = some b → conflB T (ca, ta) b = false) := Lib.hid (fun i b _ _ => by unfold conflB; simp only; rw [hca]; rfl)
                clear hca HCW
                obtain ⟨x0, x1, x2, x3, x4, x5, x6, x7, x8, x9, x10, x11⟩ := (show Blk _ _ _ #[_, _, _, _, _, _, _, _, _, _, _, _] from by have h := HBz.out; rw [HTC.out] at h; exact h).tabG
                obtain ⟨v0, v1⟩ := grown2 HAz.out
                obtain ⟨y0, y1⟩ := grown2 HVb.out
                refine wp_region_quiet_below (by kernel_rfl) (by kernel_rfl) ?_
                repeat (go_big_quiet_step ((go_at_call 83; exact quiet_t (fun W hW => HCA.out W hW))))
                refine wpQuiet_nil ?_
                rintro _ ⟨⟨dq, osq⟩, rfl⟩
                clear x0 x1 x2 x3 x4 x5 x6 x7 x8 x9 x10 x11 v0 v1 y0 y1
                go_wp2_with fail
                go_roundw
                case rel => exact ⟨q + 1, by omega, by go_num, HN, below_next hbelz (below_regrown _ dq osq), Lib.hid (HBz.out.later (below_regrown _ dq osq)), Lib.hid (HAz.out.later (below_regrown _ dq osq))⟩
                case measure => simp [intOf]; omega
              · have HCA := Lib.hid (HCW.out ca)
                rw [show T.compF T.decomps.length ca = true from hca] at HCA
                have HCAT := Lib.hid hca
                cases hcb : T.comp cb
                · have HCB := Lib.hid (HCW.out cb)
                  rw [show T.compF T.decomps.length cb = false from hcb] at HCB
                  have HN : Hid (∀ i b, i < q + 1 → T.decomps[i]? = some b → conflB T (ca, ta) b = false) := Lib.hid (fun i b hi hib => by
                    rcases Nat.lt_or_ge i q with h | h
                    · exact HSq.out i b h hib
                    · obtain rfl : i = q := by omega
                      rw [HXq.out] at hib; cases hib
                      unfold conflB; simp only; rw [hcb]; simp)
                  clear hca hcb HCW
                  obtain ⟨x0, x1, x2, x3, x4, x5, x6, x7, x8, x9, x10, x11⟩ := (show Blk _ _ _ #[_, _, _, _, _, _, _, _, _, _, _, _] from by have h := HBz.out; rw [HTC.out] at h; exact h).tabG
                  obtain ⟨v0, v1⟩ := grown2 HAz.out
                  obtain ⟨y0, y1⟩ := grown2 HVb.out
                  refine wp_region_quiet_below (by kernel_rfl) (by kernel_rfl) ?_
                  repeat (go_big_quiet_step ((go_at_call 83; first | (with_reducible exact quiet_t (fun W hW => HCA.out W hW)) | (with_reducible exact quiet_t (fun W hW => HCB.out W hW)))))
                  refine wpQuiet_nil ?_
                  rintro _ ⟨⟨dq, osq⟩, rfl⟩
                  clear x0 x1 x2 x3 x4 x5 x6 x7 x8 x9 x10 x11 v0 v1 y0 y1
                  go_wp2_with fail
                  go_roundw
                  case rel => exact ⟨q + 1, by omega, by go_num, HN, below_next hbelz (below_regrown _ dq osq), Lib.hid (HBz.out.later (below_regrown _ dq osq)), Lib.hid (HAz.out.later (below_regrown _ dq osq))⟩
                  case measure => simp [intOf]; omega
                · have HCB := Lib.hid (HCW.out cb)
                  rw [show T.compF T.decomps.length cb = true from hcb] at HCB
                  obtain ⟨a1, a2, hta⟩ := comp_to HFA.out hca
                  obtain ⟨b1, b2, htb⟩ := comp_to HFB.out hcb
                  obtain ⟨ada, hA', hda, h0⟩ := HTA.out 0 a1 (by rw [hta]; rfl)
                  subst hA'
                  obtain ⟨_, hA', _, h1⟩ := HTA.out 1 a2 (by rw [hta]; rfl)
                  cases hA'
                  obtain ⟨adb, hA', hdb, g0⟩ := HTB.out 0 b1 (by rw [htb]; rfl)
                  subst hA'
                  obtain ⟨_, hA', _, g1⟩ := HTB.out 1 b2 (by rw [htb]; rfl)
                  cases hA'
                  have HCE : Hid (conflB T (ca, ta) (cb, tb) = (decide (a1 = b1) && decide (a2 = b2))) := Lib.hid (by
                    unfold conflB; simp only; rw [hca, hcb, hta, htb, Bool.true_and, Bool.true_and]
                    by_cases h1 : a1 = b1
                    · by_cases h2 : a2 = b2
                      · rw [decide_eq_true h1, decide_eq_true h2, decide_eq_true (by rw [h1, h2])]; rfl
                      · rw [decide_eq_true h1, decide_eq_false h2, decide_eq_false (by intro e; simp at e; exact h2 e.2)]; rfl
                    · rw [decide_eq_false h1, decide_eq_false (by intro e; simp at e; exact h1 e.1)]; rfl)
                  have la : ta.length = 2 := by rw [hta]; rfl
                  have lb : tb.length = 2 := by rw [htb]; rfl
                  have la0 : (0 : Int) < (ta.length : Int) := by omega
                  have la1 : (1 : Int) < (ta.length : Int) := by omega
                  have la2 : 0 < ta.length := by omega
                  have la3 : 1 < ta.length := by omega
                  have lb0 : (0 : Int) < (tb.length : Int) := by omega
                  have lb1 : (1 : Int) < (tb.length : Int) := by omega
                  have lb2 : 0 < tb.length := by omega
                  have lb3 : 1 < tb.length := by omega
                  have HA1 := Lib.hid h0
                  have HA2 := Lib.hid (show w.cell? { block := ada.block, off := ada.off + 1, spot := none } = some (.int .i64 a2) from h1)
                  have HB1 := Lib.hid g0
                  have HB2 := Lib.hid (show w.cell? { block := adb.block, off := adb.off + 1, spot := none } = some (.int .i64 b2) from g1)
                  have HNC : Hid (conflB T (ca, ta) (cb, tb) = false → ∀ i b, i < q + 1 → T.decomps[i]? = some b → conflB T (ca, ta) b = false) := Lib.hid (fun hc i b hi hib => by
                    rcases Nat.lt_or_ge i q with h | h
                    · exact HSq.out i b h hib
                    · obtain rfl : i = q := by omega
                      rw [HXq.out] at hib; cases hib
                      exact hc)
                  clear hca hcb HCW hta htb h0 h1 g0 g1 la lb HTA HTB
                  by_cases h1 : a1 = b1
                  · have q1 : (a1 == b1) = true := by rw [beq_iff_eq]; exact h1
                    by_cases h2 : a2 = b2
                    · have q2 : (a2 == b2) = true := by rw [beq_iff_eq]; exact h2
                      have HN := Lib.hid (HR.out.trans (HH7.out.fail (by show some T.rule8 = some false; rw [nodup_fail HX.out (by omega) HXq.out (by rw [HCE.out, decide_eq_true h1, decide_eq_true h2]; rfl)])))
                      clear h1 h2
                      obtain ⟨x0, x1, x2, x3, x4, x5, x6, x7, x8, x9, x10, x11⟩ := (show Blk _ _ _ #[_, _, _, _, _, _, _, _, _, _, _, _] from by have h := HBz.out; rw [HTC.out] at h; exact h).tabG
                      obtain ⟨v0, v1⟩ := grown2 HAz.out
                      obtain ⟨y0, y1⟩ := grown2 HVb.out
                      have n0 := cell_regrown ((hbelz.cell (p := ada.add 0) (by rw [block_of_add]; exact hda)).trans HA1.out)
                      have n0' : ∀ d os, (Go.Sort.grow (redrawn wz d) os).cell? ada = some (.int .i64 a1) := n0
                      have n1 := cell_regrown ((hbelz.cell (p := { block := ada.block, off := ada.off + 1, spot := none }) hda).trans HA2.out)
                      have o0 := cell_regrown ((hbelz.cell (p := adb.add 0) (by rw [block_of_add]; exact hdb)).trans HB1.out)
                      have o0' : ∀ d os, (Go.Sort.grow (redrawn wz d) os).cell? adb = some (.int .i64 b1) := o0
                      have o1 := cell_regrown ((hbelz.cell (p := { block := adb.block, off := adb.off + 1, spot := none }) hdb).trans HB2.out)
                      refine wp_region_quiet_below (by kernel_rfl) (by kernel_rfl) ?_
                      repeat (go_big_quiet_step ((go_at_call 83; first | (with_reducible exact quiet_t (fun W hW => HCA.out W hW)) | (with_reducible exact quiet_t (fun W hW => HCB.out W hW)))))
                      refine wpQuiet_nil ?_
                      rintro _ ⟨⟨dq, osq⟩, rfl⟩
                      clear x0 x1 x2 x3 x4 x5 x6 x7 x8 x9 x10 x11 v0 v1 y0 y1 n0 n0' n1 o0 o0' o1
                      go_wp2_with fail
                      go_ret
                      rw [HN.out]
                      exact ⟨rfl, below_next hbelz (below_regrown _ dq osq)⟩
                    · have q2 : (a2 == b2) = false := by rw [beq_eq_false_iff_ne]; exact h2
                      have HN := Lib.hid (HNC.out (by rw [HCE.out, decide_eq_false h2, Bool.and_false]))
                      clear h1 h2
                      obtain ⟨x0, x1, x2, x3, x4, x5, x6, x7, x8, x9, x10, x11⟩ := (show Blk _ _ _ #[_, _, _, _, _, _, _, _, _, _, _, _] from by have h := HBz.out; rw [HTC.out] at h; exact h).tabG
                      obtain ⟨v0, v1⟩ := grown2 HAz.out
                      obtain ⟨y0, y1⟩ := grown2 HVb.out
                      have n0 := cell_regrown ((hbelz.cell (p := ada.add 0) (by rw [block_of_add]; exact hda)).trans HA1.out)
                      have n0' : ∀ d os, (Go.Sort.grow (redrawn wz d) os).cell? ada = some (.int .i64 a1) := n0
                      have n1 := cell_regrown ((hbelz.cell (p := { block := ada.block, off := ada.off + 1, spot := none }) hda).trans HA2.out)
                      have o0 := cell_regrown ((hbelz.cell (p := adb.add 0) (by rw [block_of_add]; exact hdb)).trans HB1.out)
                      have o0' : ∀ d os, (Go.Sort.grow (redrawn wz d) os).cell? adb = some (.int .i64 b1) := o0
                      have o1 := cell_regrown ((hbelz.cell (p := { block := adb.block, off := adb.off + 1, spot := none }) hdb).trans HB2.out)
                      refine wp_region_quiet_below (by kernel_rfl) (by kernel_rfl) ?_
                      repeat (go_big_quiet_step ((go_at_call 83; first | (with_reducible exact quiet_t (fun W hW => HCA.out W hW)) | (with_reducible exact quiet_t (fun W hW => HCB.out W hW)))))
                      refine wpQuiet_nil ?_
                      rintro _ ⟨⟨dq, osq⟩, rfl⟩
                      clear x0 x1 x2 x3 x4 x5 x6 x7 x8 x9 x10 x11 v0 v1 y0 y1 n0 n0' n1 o0 o0' o1
                      go_wp2_with fail
                      go_roundw
                      case rel => exact ⟨q + 1, by omega, by go_num, HN, below_next hbelz (below_regrown _ dq osq), Lib.hid (HBz.out.later (below_regrown _ dq osq)), Lib.hid (HAz.out.later (below_regrown _ dq osq))⟩
                      case measure => simp [intOf]; omega
                  · have q1 : (a1 == b1) = false := by rw [beq_eq_false_iff_ne]; exact h1
                    have HN := Lib.hid (HNC.out (by rw [HCE.out, decide_eq_false h1, Bool.false_and]))
                    clear h1
                    obtain ⟨x0, x1, x2, x3, x4, x5, x6, x7, x8, x9, x10, x11⟩ := (show Blk _ _ _ #[_, _, _, _, _, _, _, _, _, _, _, _] from by have h := HBz.out; rw [HTC.out] at h; exact h).tabG
                    obtain ⟨v0, v1⟩ := grown2 HAz.out
                    obtain ⟨y0, y1⟩ := grown2 HVb.out
                    have n0 := cell_regrown ((hbelz.cell (p := ada.add 0) (by rw [block_of_add]; exact hda)).trans HA1.out)
                    have n0' : ∀ d os, (Go.Sort.grow (redrawn wz d) os).cell? ada = some (.int .i64 a1) := n0
                    have n1 := cell_regrown ((hbelz.cell (p := { block := ada.block, off := ada.off + 1, spot := none }) hda).trans HA2.out)
                    have o0 := cell_regrown ((hbelz.cell (p := adb.add 0) (by rw [block_of_add]; exact hdb)).trans HB1.out)
                    have o0' : ∀ d os, (Go.Sort.grow (redrawn wz d) os).cell? adb = some (.int .i64 b1) := o0
                    have o1 := cell_regrown ((hbelz.cell (p := { block := adb.block, off := adb.off + 1, spot := none }) hdb).trans HB2.out)
                    refine wp_region_quiet_below (by kernel_rfl) (by kernel_rfl) ?_
                    repeat (go_big_quiet_step ((go_at_call 83; first | (with_reducible exact quiet_t (fun W hW => HCA.out W hW)) | (with_reducible exact quiet_t (fun W hW => HCB.out W hW)))))
                    refine wpQuiet_nil ?_
                    rintro _ ⟨⟨dq, osq⟩, rfl⟩
                    clear x0 x1 x2 x3 x4 x5 x6 x7 x8 x9 x10 x11 v0 v1 y0 y1 n0 n0' n1 o0 o0' o1
                    go_wp2_with fail
                    go_roundw
                    case rel => exact ⟨q + 1, by omega, by go_num, HN, below_next hbelz (below_regrown _ dq osq), Lib.hid (HBz.out.later (below_regrown _ dq osq)), Lib.hid (HAz.out.later (below_regrown _ dq osq))⟩
                    case measure => simp [intOf]; omega
            · obtain rfl : q = j := by omega
              have HN := Lib.hid (nodup_next HX.out HS.out HSq.out)
              go_wp2_with fail
              go_roundw
              case rel => exact ⟨q + 1, by omega, by go_num, HN, hbelq, HBq⟩
              case measure => simp [intOf]; omega
        · obtain rfl : j = T.decomps.length := by omega
          have HH8 := Lib.hid (HH7.out.next (by show some T.rule8 = some true; rw [nodup_end HS.out]))
          have x11 := (show Blk _ _ _ #[_, _, _, _, _, _, _, _, _, _, _, _] from by have h := HB.out; rw [HTC.out] at h; exact h).at_ (i := 11) rfl
          clear HS HDC HH7 HCMP HFK
          go_wp2_with fail
          clear x11
          go_loopw [105] (fun i wr => ∃ (j : Nat), j ≤ T.prototypes.length ∧ i = .int .i64 j ∧ Hid ((T.prototypes.drop j).all T.protoOk = T.rule9) ∧ Below w.heap.size w wr ∧ Hid (Blk wr w.heap.size 26 tc)) (fun i _ => T.prototypes.length - (intOf i).toNat)
          case atStart => exact ⟨0, by omega, rfl, Lib.hid rfl, hbel, HB⟩
          case round =>
            obtain ⟨j, hj, rfl, HS, hbel, HB⟩ := hrel
            by_cases hjl : j < T.prototypes.length
            · obtain ⟨⟨cc, tg⟩, hxj, _⟩ := get_el hjl
              obtain ⟨aj, sv, rfl, ha, d0, d1, hto⟩ := HPR.out j _ hxj
              simp only at d0 d1 hto
              obtain ⟨A', c', rfl, he1, he2, _, hcl⟩ := id hto
              have HTO := Lib.hid hcl
              have hlt : tg.length ≤ 9223372036854775807 := by unfold maxLen at he2; omega
              obtain ⟨e0, e1⟩ := map_cells hbel ha d0 d1
              have HX := Lib.hid hxj
              have hbelw := hbel.alloc hbel.size (.cells #[.int .i64 cc, .slice A' tg.length c'] 49)
              have HB' := Lib.hid (HB.out.alloc (.cells #[.int .i64 cc, .slice A' tg.length c'] 49))
              have HM := Lib.hid (Blk.new wr 49 #[.int .i64 cc, .slice A' tg.length c'])
              have x9 := (show Blk _ _ _ #[_, _, _, _, _, _, _, _, _, _, _, _] from by have h := HB'.out; rw [HTC.out] at h; exact h).at_ (i := 9) rfl
              have HCA := Lib.hid (HFD.out cc _ (HT.out _ hbelw))
              clear d0 d1 hxj ha hto hcl he1 he2 HB
              have r0 : (0 : Int) ≤ (j : Int) := by omega
              have r1 : (j : Int) < (T.prototypes.length : Int) := by omega
              by_cases hn : findL T.decomps cc = []
              · rw [hn] at HCA
                have q3 : ([] : List Int).length = 0 := rfl
                have HNN := Lib.hid hn
                clear hn
                go_wp2_with fail
                refine HCA.out.mono ?_
                rintro e w2 ⟨u, rfl, hu, b2⟩
                obtain ⟨Au, cu, rfl, _⟩ := hu
                have hbel2 := below_next hbelw b2
                have HB2 := Lib.hid (HB'.out.later b2)
                have HM2 := Lib.hid (HM.out.later b2)
                have m0 := HM2.out.at_ (i := 0) (u := .int .i64 cc) rfl
                have HIA := Lib.hid (HIG.out cc _ (HT.out _ hbel2))
                clear x9
                obtain ⟨x0, x1, x2, x3, x4, x5, x6, x7, x8, x9, x10, x11⟩ := (show Blk _ _ _ #[_, _, _, _, _, _, _, _, _, _, _, _] from by have h := HB2.out; rw [HTC.out] at h; exact h).tab
                clear e0 e1 HB' HM b2 hbel hbelw
                cases hig : T.ignB cc
                · rw [hig] at HIA
                  obtain ⟨Rt, hRt⟩ : ∃ Rt, Rt = tg.all T.protoEl := ⟨_, rfl⟩
                  have HO : Hid ((tg.drop 0).all T.protoEl = Rt) := Lib.hid hRt.symm
                  have HOK : Hid (T.protoOk (cc, tg) = Rt) := Lib.hid (by rw [hRt]; unfold Tab.protoOk Tab.plainB; simp only; rw [HNN.out, hig]; rfl)
                  clear hig hRt
                  go_wp2_with fail
                  refine HIA.out.mono ?_
                  rintro e w3 ⟨rfl, b3⟩
                  have hbel3 := below_next hbel2 b3
                  have HB3 := Lib.hid (HB2.out.later b3)
                  have m1 := (HM2.out.later b3).at_ (i := 1) (u := .slice A' tg.length c') rfl
                  clear x0 x1 x2 x3 x4 x5 x6 x7 x8 x9 x10 x11 m0 HB2 HM2 b3 hbel2 q3
                  go_wp2_with fail
                  clear m1
                  go_loopw [125] (fun i wr => ∃ (q : Nat), q ≤ tg.length ∧ i = .int .i64 q ∧ Hid ((tg.drop q).all T.protoEl = Rt) ∧ Below w.heap.size w wr ∧ Hid (Blk wr w.heap.size 26 tc)) (fun i _ => tg.length - (intOf i).toNat)
                  case atStart => exact ⟨0, by omega, rfl, HO, hbel3, HB3⟩
                  case round =>
                    obtain ⟨q, hq, rfl, HSq, hbelq, HBq⟩ := hrel
                    clear HO HB3 hbel3
                    by_cases hql : q < tg.length
                    · obtain ⟨y, hyq, _⟩ := get_el hql
                      obtain ⟨ay, rfl, hay, d0⟩ := HTO.out q _ hyq
                      have e0 := (hbelq.cell (p := ay.add q) (by rw [block_of_add]; exact hay)).trans d0
                      have HXq := Lib.hid hyq
                      have x9 := (show Blk _ _ _ #[_, _, _, _, _, _, _, _, _, _, _, _] from by have h := HBq.out; rw [HTC.out] at h; exact h).at_ (i := 9) rfl
                      have HC1 := Lib.hid (HFD.out y _ (HT.out _ hbelq))
                      have HSY := Lib.hid (fun W => refSyl_any y W)
                      clear d0 hyq hay
                      have s0 : (0 : Int) ≤ (q : Int) := by omega
                      have s1 : (q : Int) < (tg.length : Int) := by omega
                      by_cases hyn : findL T.decomps y = []
                      · rw [hyn] at HC1
                        have q3 : ([] : List Int).length = 0 := rfl
                        have HYN := Lib.hid hyn
                        clear hyn
                        go_wp2_with fail
                        refine HC1.out.mono ?_
                        rintro e w4 ⟨u, rfl, hu, b4⟩
                        obtain ⟨Av, cv, rfl, _⟩ := hu
                        have hbel4 := below_next hbelq b4
                        have HB4 := Lib.hid (HBq.out.later b4)
                        have HIY := Lib.hid (HIG.out y _ (HT.out _ hbel4))
                        obtain ⟨x0, x1, x2, x3, x4, x5, x6, x7, x8, x9, x10, x11⟩ := (show Blk _ _ _ #[_, _, _, _, _, _, _, _, _, _, _, _] from by have h := HB4.out; rw [HTC.out] at h; exact h).tab
                        clear e0 b4 HBq
                        cases hiy : T.ignB y
                        · rw [hiy] at HIY
                          cases hsy : sylB y
                          · rw [hsy] at HSY
                            have HOE : Hid (T.protoEl y = decide (findL T.prototypes y = [])) := Lib.hid (by unfold Tab.protoEl Tab.plainB; rw [HYN.out, hiy, hsy]; rfl)
                            clear hiy hsy
                            go_wp2_with fail
                            refine HIY.out.mono ?_
                            rintro e w5 ⟨rfl, b5⟩
                            have hbel5 := below_next hbel4 b5
                            have HB5 := Lib.hid (HB4.out.later b5)
                            have y11 := (show Blk _ _ _ #[_, _, _, _, _, _, _, _, _, _, _, _] from by have h := HB5.out; rw [HTC.out] at h; exact h).at_ (i := 11) rfl
                            have HFY := Lib.hid (HFP.out y _ (HT.out _ hbel5))
                            clear x0 x1 x2 x3 x4 x5 x6 x7 x8 x9 x10 x11 HB4 b5
                            go_wp2_with fail
                            refine (HSY.out _).mono ?_
                            rintro e w6 ⟨rfl, rfl⟩
                            by_cases hpn : findL T.prototypes y = []
                            · have HN := Lib.hid (each_go HXq.out HSq.out (HOE.out.trans (decide_eq_true hpn)))
                              rw [hpn] at HFY
                              clear hpn
                              go_wp2_with fail
                              refine HFY.out.mono ?_
                              rintro e w6 ⟨u, rfl, hu, b6⟩
                              obtain ⟨Aw, cw, rfl, _⟩ := hu
                              have HB6 := Lib.hid (HB5.out.later b6)
                              clear y11 HB5
                              go_wp2_with fail
                              go_roundw
                              case rel => exact ⟨q + 1, by omega, by go_num, HN, below_next hbel5 b6, HB6⟩
                              case measure => simp [intOf]; omega
                            · have HN := Lib.hid (HR.out.trans (HH8.out.fail (by show some T.rule9 = some false; rw [each_no HX.out HS.out (HOK.out.trans (each_no HXq.out HSq.out (HOE.out.trans (decide_eq_false hpn))))])))
                              have hp := length_pos_ne hpn
                              have p3 : (0 : Int) < ((findL T.prototypes y).length : Int) := by omega
                              clear hpn
                              go_wp2_with fail
                              refine HFY.out.mono ?_
                              rintro e w6 ⟨u, rfl, hu, b6⟩
                              obtain ⟨Aw, cw, rfl, _⟩ := hu
                              clear y11 HB5
                              go_wp2_with fail
                              go_ret
                              rw [HN.out]
                              exact ⟨rfl, below_next hbel5 b6⟩
                          · rw [hsy] at HSY
                            have HN := Lib.hid (HR.out.trans (HH8.out.fail (by show some T.rule9 = some false; rw [each_no HX.out HS.out (HOK.out.trans (each_no HXq.out HSq.out (by unfold Tab.protoEl; rw [hsy]; simp)))])))
                            clear hiy hsy
                            go_wp2_with fail
                            refine HIY.out.mono ?_
                            rintro e w5 ⟨rfl, b5⟩
                            clear x0 x1 x2 x3 x4 x5 x6 x7 x8 x9 x10 x11 HB4
                            go_wp2_with fail
                            refine (HSY.out _).mono ?_
                            rintro e w6 ⟨rfl, rfl⟩
                            go_wp2_with fail
                            go_ret
                            rw [HN.out]
                            exact ⟨rfl, below_next hbel4 b5⟩
                        · rw [hiy] at HIY
                          have HN := Lib.hid (HR.out.trans (HH8.out.fail (by show some T.rule9 = some false; rw [each_no HX.out HS.out (HOK.out.trans (each_no HXq.out HSq.out (by unfold Tab.protoEl Tab.plainB; rw [hiy]; simp)))])))
                          clear hiy
                          go_wp2_with fail
                          refine HIY.out.mono ?_
                          rintro e w5 ⟨rfl, b5⟩
                          clear x0 x1 x2 x3 x4 x5 x6 x7 x8 x9 x10 x11 HB4
                          go_wp2_with fail
                          go_ret
                          rw [HN.out]
                          exact ⟨rfl, below_next hbel4 b5⟩
                      · have HN := Lib.hid (HR.out.trans (HH8.out.fail (by show some T.rule9 = some false; rw [each_no HX.out HS.out (HOK.out.trans (each_no HXq.out HSq.out (by unfold Tab.protoEl Tab.plainB; rw [decide_eq_false hyn]; rfl)))])))
                        have hp := length_pos_ne hyn
                        have p3 : (0 : Int) < ((findL T.decomps y).length : Int) := by omega
                        clear hyn
                        go_wp2_with fail
                        refine HC1.out.mono ?_
                        rintro e w4 ⟨u, rfl, hu, b4⟩
                        obtain ⟨Av, cv, rfl, _⟩ := hu
                        clear x9 e0
                        go_wp2_with fail
                        go_ret
                        rw [HN.out]
                        exact ⟨rfl, below_next hbelq b4⟩
                    · have HN := Lib.hid (each_go HX.out HS.out (HOK.out.trans (each_end (by omega) HSq.out)))
                      go_wp2_with fail
                      go_roundw
                      case rel => exact ⟨j + 1, by omega, by go_num, HN, hbelq, HBq⟩
                      case measure => simp [intOf]; omega
                · rw [hig] at HIA
                  have HN := Lib.hid (HR.out.trans (HH8.out.fail (by show some T.rule9 = some false; rw [each_no HX.out HS.out (by unfold Tab.protoOk Tab.plainB; simp only; rw [hig]; simp)])))
                  clear hig
                  go_wp2_with fail
                  refine HIA.out.mono ?_
                  rintro e w3 ⟨rfl, b3⟩
                  clear x0 x1 x2 x3 x4 x5 x6 x7 x8 x9 x10 x11 m0
                  go_wp2_with fail
                  go_ret
                  rw [HN.out]
                  exact ⟨rfl, below_next hbel2 b3⟩
              · have HN := Lib.hid (HR.out.trans (HH8.out.fail (by show some T.rule9 = some false; rw [each_no HX.out HS.out (by unfold Tab.protoOk Tab.plainB; simp only; rw [decide_eq_false hn]; rfl)])))
                have hp := length_pos_ne hn
                have p3 : (0 : Int) < ((findL T.decomps cc).length : Int) := by omega
                clear hn
                go_wp2_with fail
                refine HCA.out.mono ?_
                rintro e w2 ⟨u, rfl, hu, b2⟩
                obtain ⟨Au, cu, rfl, _⟩ := hu
                clear x9 e0 e1
                go_wp2_with fail
                go_ret
                rw [HN.out]
                exact ⟨rfl, below_next hbelw b2⟩
            · obtain rfl : j = T.prototypes.length := by omega
              have HN := Lib.hid (HR.out.trans ((HH8.out.next (by show some T.rule9 = some true; rw [each_end (by omega) HS.out])).all))
              go_wp2_with fail
              go_ret
              rw [HN.out]
              exact ⟨rfl, hbel⟩
end Go.Proofs.YtneinkpfhkojgaaGreatDoor
/-
  The walk through the reference's acceptable.
-/
namespace Go.Proofs.YtneinkpfhkojgaaGreatDoor
open Go.RowKit ND

set_option maxRecDepth 100000 in
set_option maxHeartbeats 1000000 in
theorem refAcc_any (t : Tv) (T : Tab) (v : Value) (xs : List Int) (w : World) (ht : TabR w w.heap.size t T) (hv : Ints w w.heap.size .i64 v xs) :
    Calls Tryz.prog 46 #[t.val, v] w fun e w' => e = .returned (.int .i64 (accE T xs)) ∧ Below w.heap.size w w' := by
  obtain ⟨A, c, rfl, _⟩ := id hv
  have HB0 : Hid (Below w.heap.size w (w.alloc (.cells t.cells 26))) := Lib.hid ((Below.refl _ _).alloc (Nat.le_refl _) _)
  have HT := Lib.hid (check_ref t T _ (ht.later HB0.out))
  have HTB : Hid (Tbl (w.alloc (.cells t.cells 26)) w.heap.size t T) := Lib.hid ⟨Blk.new _ _ _, ht.later HB0.out⟩
  have HV := Lib.hid (hv.later HB0.out)
  clear hv ht
  obtain ⟨R, hR⟩ : ∃ R, R = accE T xs := ⟨_, rfl⟩
  rw [← hR]
  have HR := Lib.hid hR
  clear hR
  go_enter Tryz.func46, Tryz.ntmps46
  go_upto_region 1 with fail
  generalize w.alloc (.cells t.cells 26) = w1 at *
  obtain ⟨x0, x1, x2, x3, x4, x5, x6, x7, x8, x9, x10, x11⟩ := HTB.out.1.tab
  by_cases h1 : T.check = 0
  · have hc1 : (T.check != 0) = false := by rw [h1]; rfl
    by_cases h2 : xs.length ≤ 4096
    · have h4 : ¬ (4096 : Int) < (xs.length : Int) := by omega
      have H1 := Lib.hid h1
      clear h1
      go_wp2_with (go_at_call 60; refine HT.out.mono ?_; rintro e w2 ⟨rfl, b2⟩)
      have HV2 := Lib.hid (HV.out.later b2)
      have HB2 := Lib.hid (below_next HB0.out b2)
      clear x0 x1 x2 x3 x4 x5 x6 x7 x8 x9 x10 x11 HT HTB HV HB0 b2
      go_loopw [15] (fun i wr => ∃ k : Nat, k ≤ xs.length ∧ i = .int .i64 k ∧ Hid ((xs.take k).all scalarB = true) ∧ Hid (Below w2.heap.size w2 wr)) (fun i _ => xs.length - (intOf i).toNat)
      case atStart => exact ⟨0, by omega, rfl, Lib.hid (by simp), Lib.hid (Below.refl _ _)⟩
      case round =>
        obtain ⟨k, hk, rfl, HS, HBr⟩ := hrel
        by_cases hlt : k < xs.length
        · obtain ⟨x, hxk, _⟩ := get_of hlt
          obtain ⟨_, _, hve, _, _, _, hcell⟩ := HV2.out
          cases hve
          obtain ⟨ad, rfl, ha, hce⟩ := hcell k x hxk
          have e1 := (HBr.out.cell (p := ad.add k) (by rw [block_of_add]; exact ha)).trans hce
          have HX := Lib.hid hxk
          have k0 : (0 : Int) ≤ (k : Int) := by omega
          have k1 : (k : Int) < (xs.length : Int) := by omega
          have hb := Lib.hid (fun w => refScalar_any x w)
          clear hce hxk ha hcell
          cases hs : scalarB x
          · have HE := Lib.hid (accE_bad H1.out h2 (all_bad HX.out hs))
            rw [hs] at hb
            clear hs
            go_wp2_with (go_at_call 61; refine (hb.out _).mono ?_; rintro e w4 ⟨rfl, rfl⟩)
            go_ret
            rw [HR.out, HE.out]
            exact ⟨rfl, below_next HB2.out HBr.out⟩
          · have HE := Lib.hid (all_step HS.out HX.out hs)
            rw [hs] at hb
            clear hs
            go_wp2_with (go_at_call 61; refine (hb.out _).mono ?_; rintro e w4 ⟨rfl, rfl⟩)
            go_roundw
            case rel => exact ⟨k + 1, by omega, by go_num, HE, HBr⟩
            case measure => simp [intOf]; omega
        · have HE := Lib.hid (accE_ok H1.out h2 (by have := HS.out; rwa [List.take_of_length_le (by omega)] at this))
          go_wp2_with fail
          go_ret
          rw [HR.out, HE.out]
          exact ⟨rfl, below_next HB2.out HBr.out⟩
    · have HE := Lib.hid (accE_full (l := xs) h1 (by omega))
      have h4 : (4096 : Int) < (xs.length : Int) := by omega
      clear h1 h2
      go_wp2_with (go_at_call 60; refine HT.out.mono ?_; rintro e w2 ⟨rfl, b2⟩)
      go_ret
      rw [HR.out, HE.out]
      exact ⟨rfl, below_next HB0.out b2⟩
  · have HE := Lib.hid (accE_check (l := xs) h1)
    have hc1 : (T.check != 0) = true := by simpa using h1
    clear h1
    go_wp2_with (go_at_call 60; refine HT.out.mono ?_; rintro e w2 ⟨rfl, b2⟩)
    go_ret
    rw [HR.out, HE.out]
    exact ⟨rfl, below_next HB0.out b2⟩
end Go.Proofs.YtneinkpfhkojgaaGreatDoor
/-
  The walk through the reference's Acceptable.
-/
namespace Go.Proofs.YtneinkpfhkojgaaGreatDoor
open Go.RowKit ND

set_option maxRecDepth 100000 in
set_option maxHeartbeats 1000000 in
theorem refAccept_any (t : Tv) (T : Tab) (v : Value) (xs : List Int) (w : World) (ht : TabR w w.heap.size t T) (hv : Ints w w.heap.size .i64 v xs) :
    Calls Tryz.prog 34 #[t.val, v] w fun e w' => e = .returned (.int .i64 (accE T xs)) ∧ Below w.heap.size w w' := by
  obtain ⟨A, c, rfl, _⟩ := id hv
  have HB0 : Hid (Below w.heap.size w (w.alloc (.cells t.cells 26))) := Lib.hid ((Below.refl _ _).alloc (Nat.le_refl _) _)
  have HT : Hid (Tbl (w.alloc (.cells t.cells 26)) w.heap.size t T) := Lib.hid ⟨Blk.new _ _ _, ht.later HB0.out⟩
  have HV := Lib.hid (hv.later HB0.out)
  clear ht hv
  have HO := Lib.hid (refAcc_any t T _ xs _ HT.out.2 HV.out)
  go_enter Tryz.func34, Tryz.ntmps34
  go_upto_region 1 with fail
  generalize w.alloc (.cells t.cells 26) = w1 at *
  obtain ⟨x0, x1, x2, x3, x4, x5, x6, x7, x8, x9, x10, x11⟩ := HT.out.1.tab
  go_wp2_with (go_at_call 46; refine HO.out.mono ?_; rintro e w2 ⟨rfl, b2⟩)
  go_ret
  exact ⟨rfl, below_next HB0.out b2⟩
end Go.Proofs.YtneinkpfhkojgaaGreatDoor
/-
  The walks through mapping.Deviations and the reference's.
-/
namespace Go.Proofs.YtneinkpfhkojgaaGreatDoor
open Go.RowKit ND

/-- The indices of the code points with the status Deviation. -/
def devGo (T : Tab) : Nat → List Int → List Int
  | _, [] => []
  | i, c :: r => if T.statusOf c = 4 then (i : Int) :: devGo T (i + 1) r else devGo T (i + 1) r
def devL (T : Tab) (l : List Int) : List Int := if accE T l = 0 then devGo T 0 l else []
theorem dev_hit {T : Tab} {l acc R : List Int} {i : Nat} {c : Int} (hc : l[i]? = some c) (h : acc ++ devGo T i (l.drop i) = R) (h0 : T.statusOf c = 4) : (acc ++ [(i : Int)]) ++ devGo T (i + 1) (l.drop (i + 1)) = R := by
  rw [drop_at hc, devGo, if_pos h0] at h; simpa using h
theorem dev_go {T : Tab} {l acc R : List Int} {i : Nat} {c : Int} (hc : l[i]? = some c) (h : acc ++ devGo T i (l.drop i) = R) (h0 : T.statusOf c ≠ 4) : acc ++ devGo T (i + 1) (l.drop (i + 1)) = R := by
  rw [drop_at hc, devGo, if_neg h0] at h; exact h
theorem dev_end {T : Tab} {l acc R : List Int} {i : Nat} (hi : l.length ≤ i) (h : acc ++ devGo T i (l.drop i) = R) : acc = R := by
  rw [List.drop_of_length_le hi, devGo, List.append_nil] at h; exact h

set_option maxRecDepth 100000 in
set_option maxHeartbeats 2000000 in
theorem deviations_any (t : Tv) (T : Tab) (v : Value) (xs : List Int) (w : World) (ht : TabR w w.heap.size t T) (hg : Glob w) (hv : Ints w w.heap.size .i64 v xs) :
    Calls Tryz.prog 25 #[t.val, v] w (RetRow w (devL T xs)) := by
  obtain ⟨A, c, rfl, _⟩ := id hv
  have HB0 : Hid (Below w.heap.size w (w.alloc (.cells t.cells 26))) := Lib.hid ((Below.refl _ _).alloc (Nat.le_refl _) _)
  have HT : Hid (Tbl (w.alloc (.cells t.cells 26)) w.heap.size t T) := Lib.hid ⟨Blk.new _ _ _, ht.later HB0.out⟩
  have HV := Lib.hid (hv.later HB0.out)
  have HG := Lib.hid (hg.later HB0.out)
  clear ht hv hg
  have HO := Lib.hid (order_any t T _ xs _ HT.out.2 HG.out HV.out)
  by_cases h0 : accE T xs = 0
  · obtain ⟨hck, hlen, _⟩ := accE_zero h0
    have HD : Hid (devL T xs = devGo T 0 xs) := Lib.hid (by unfold devL; rw [if_pos h0])
    have hsh := shape_of hck
    have HC : Hid (∀ (b : Nat) (W : World) (x : Int), Tbl W b t T → Calls Tryz.prog 32 #[.agg #[t.c0, t.c1, t.c2, t.c3, t.c4, t.c5, t.c6, t.c7, t.c8, t.c9, t.c10, t.c11], .int .i64 x] W fun e W' => e = .returned (.int .i64 (T.statusOf x)) ∧ Below W.heap.size W W') := Lib.hid fun b W x h => status_any t T x 0 1114111 W h.2 hsh.c5.1 hsh.c5.2.1
    rw [h0] at HO
    clear h0 hck hsh
    generalize ordL T xs = ol at *
    go_enter Tryz.func25, Tryz.ntmps25
    go_upto_region 1 with fail
    generalize w.alloc (.cells t.cells 26) = w1 at *
    obtain ⟨x0, x1, x2, x3, x4, x5, x6, x7, x8, x9, x10, x11⟩ := HT.out.1.tab
    go_upto_region 2 with (go_at_call 31; refine HO.out.mono ?_; rintro e w2 ⟨u2, rfl, ho2, b2⟩; obtain ⟨A2, c2, rfl, _⟩ := id (Ints.of_own ho2); clear ho2)
    clear x0 x1 x2 x3 x4 x5 x6 x7 x8 x9 x10 x11
    obtain ⟨tb, htb⟩ : ∃ tb, w.heap.size = tb := ⟨_, rfl⟩
    have HT2 : Hid (Tbl w2 tb t T) := Lib.hid (htb ▸ HT.out.later b2)
    have HV2 := Lib.hid (HV.out.later b2)
    have HB2 := Lib.hid (below_next HB0.out b2)
    simp only [htb]
    clear HT HV HB0 HO b2
    obtain ⟨i0, hi, hz0, hz1, hz2⟩ := info_parts Tryz.infoInt'
    go_wp2_with fail
    go_loopw [20, 7] (fun s23 s9 wr => ∃ (k : Nat) (acc : List Int) (A9 : Option Addr) (c9 : Nat), k ≤ xs.length ∧ s23 = .int .i64 k ∧ s9 = .slice A9 acc.length c9 ∧ acc.length ≤ k ∧ Hid (acc ++ devGo T k (xs.drop k) = devGo T 0 xs) ∧ Hid (wr.ownsRow w2.heap.size 3 1 (.slice A9 acc.length c9) acc.length (acc.map (Value.int .i64))) ∧ Hid (Below w2.heap.size w2 wr)) (fun i _ _ => xs.length - (intOf i).toNat)
    case atStart => exact ⟨0, [], none, 0, by omega, rfl, rfl, by simp, Lib.hid rfl, Lib.hid (World.ownsRow_nil _ _ _ _), Lib.hid (Below.refl _ _)⟩
    case round =>
      obtain ⟨k, acc, A9, c9, hk, rfl, rfl, hal, HS, HOr, HBr⟩ := hrel
      by_cases hlt : k < xs.length
      · obtain ⟨x, hxk, _⟩ := get_of hlt
        obtain ⟨_, _, hve, _, _, _, hcell⟩ := HV2.out
        cases hve
        obtain ⟨ad, rfl, ha, hce⟩ := hcell k x hxk
        have e1 := (HBr.out.cell (p := ad.add k) (by rw [block_of_add]; exact ha)).trans hce
        have HX := Lib.hid hxk
        have k0 : (0 : Int) ≤ (k : Int) := by omega
        have k1 : (k : Int) < (xs.length : Int) := by omega
        have HTr := Lib.hid (HT2.out.later HBr.out)
        obtain ⟨x0, x1, x2, x3, x4, x5, x6, x7, x8, x9, x10, x11⟩ := HTr.out.1.tab
        have HCx := Lib.hid (HC.out tb wr x HTr.out)
        clear hcell hxk ha hce
        obtain ⟨st, hst⟩ : ∃ st, T.statusOf x = st := ⟨_, rfl⟩
        rw [hst] at HCx
        by_cases s4 : st = 4
        · subst s4
          have HN := Lib.hid (dev_hit HX.out HS.out hst)
          clear hst
          go_upto_region 9 with (go_at_call 32; refine HCx.out.mono ?_; rintro e w5 ⟨rfl, b5⟩)
          have HO5 := Lib.hid (own_later HOr.out b5)
          have HB5 := Lib.hid (below_then HBr.out (Nat.le_refl _) b5)
          clear x0 x1 x2 x3 x4 x5 x6 x7 x8 x9 x10 x11 e1 HCx HTr HOr HBr b5 HS HX
          go_wp2_with (at_builtin; refine wpList_append_ints (by rfl) (.tmp 29) (.tmp 31) rfl Tryz.underlying22 hi hz0 hz1 hz2 (w5.heap.size + 1) w2.heap.size (.slice A9 acc.length c9) acc (.slice (some ⟨w5.heap.size, 0, none⟩) 1 1) [(k : Int)] rfl (HO5.out.alloc _) rfl (by have h := Ints.of_own (own_new w5 3 [(k : Int)] (by simp)); simpa using h) (by simp; omega) (by have := HB5.out.size; simp; omega) ?_; intro v6 w6 ho6 hg6 _; obtain ⟨A6, c6, rfl, _⟩ := id (Ints.of_own ho6); have HO6 := Lib.hid ho6; have HB6 := Lib.hid ((HB5.out.alloc HB5.out.size (.cells #[.int .i64 (k : Int)] 3)).grown hg6 (by have := HB5.out.size; simp; omega) (fun q hq => (HO5.out.lt q hq).1)); clear ho6 hg6)
          go_roundw
          case rel => exact ⟨k + 1, acc ++ [(k : Int)], A6, c6, by omega, by go_num, by simp, by simp; omega, HN, HO6, HB6⟩
          case measure => simp [intOf]; omega
        · have g4 : (st == 4) = false := by simpa using s4
          have HN := Lib.hid (dev_go HX.out HS.out (by rw [hst]; exact s4))
          clear hst s4
          go_wp2_with (go_at_call 32; refine HCx.out.mono ?_; rintro e w5 ⟨rfl, b5⟩)
          go_roundw
          case rel => exact ⟨k + 1, acc, A9, c9, by omega, by go_num, rfl, by omega, HN, Lib.hid (own_later HOr.out b5), Lib.hid (below_then HBr.out (Nat.le_refl _) b5)⟩
          case measure => simp [intOf]; omega
      · have HA := Lib.hid (dev_end (by omega) HS.out)
        go_wp2_with fail
        go_ret
        rw [HD.out, ← HA.out]
        exact ⟨_, rfl, row_le HOr.out HB2.out.size, below_next HB2.out HBr.out⟩
  · have HD : Hid (devL T xs = []) := Lib.hid (by unfold devL; rw [if_neg h0])
    have hb : (accE T xs != 0) = true := by simpa using h0
    clear h0
    go_enter Tryz.func25, Tryz.ntmps25
    go_upto_region 1 with fail
    generalize w.alloc (.cells t.cells 26) = w1 at *
    obtain ⟨x0, x1, x2, x3, x4, x5, x6, x7, x8, x9, x10, x11⟩ := HT.out.1.tab
    go_wp2_with (go_at_call 31; refine HO.out.mono ?_; rintro e w2 ⟨u2, rfl, ho2, b2⟩; obtain ⟨A2, c2, rfl, _⟩ := id (Ints.of_own ho2); clear ho2)
    go_ret
    rw [HD.out]
    exact ⟨_, rfl, World.ownsRow_nil _ _ _ _, below_next HB0.out b2⟩

set_option maxRecDepth 100000 in
set_option maxHeartbeats 2000000 in
theorem refDeviations_any (t : Tv) (T : Tab) (v : Value) (xs : List Int) (w : World) (ht : TabR w w.heap.size t T) (hv : Ints w w.heap.size .i64 v xs) :
    Calls Tryz.prog 26 #[t.val, v] w (RetRow w (devL T xs)) := by
  obtain ⟨A, c, rfl, _⟩ := id hv
  have HB0 : Hid (Below w.heap.size w (w.alloc (.cells t.cells 26))) := Lib.hid ((Below.refl _ _).alloc (Nat.le_refl _) _)
  have HT : Hid (Tbl (w.alloc (.cells t.cells 26)) w.heap.size t T) := Lib.hid ⟨Blk.new _ _ _, ht.later HB0.out⟩
  have HV := Lib.hid (hv.later HB0.out)
  clear ht hv
  have HO := Lib.hid (refAccept_any t T _ xs _ HT.out.2 HV.out)
  by_cases h0 : accE T xs = 0
  · obtain ⟨hck, hlen, _⟩ := accE_zero h0
    have HD : Hid (devL T xs = devGo T 0 xs) := Lib.hid (by unfold devL; rw [if_pos h0])
    have hsh := shape_of hck
    have HC : Hid (∀ (b : Nat) (W : World) (x : Int), Tbl W b t T → Calls Tryz.prog 35 #[.agg #[t.c0, t.c1, t.c2, t.c3, t.c4, t.c5, t.c6, t.c7, t.c8, t.c9, t.c10, t.c11], .int .i64 x] W fun e W' => e = .returned (.int .i64 (T.statusOf x)) ∧ Below W.heap.size W W') := Lib.hid fun b W x h => refStatus_any t T x W h.2 hsh.c5
    rw [h0] at HO
    clear h0 hck hsh
    go_enter Tryz.func26, Tryz.ntmps26
    go_upto_region 1 with fail
    generalize w.alloc (.cells t.cells 26) = w1 at *
    obtain ⟨x0, x1, x2, x3, x4, x5, x6, x7, x8, x9, x10, x11⟩ := HT.out.1.tab
    go_upto_region 3 with (go_at_call 34; refine HO.out.mono ?_; rintro e w2 ⟨rfl, b2⟩)
    clear x0 x1 x2 x3 x4 x5 x6 x7 x8 x9 x10 x11
    obtain ⟨tb, htb⟩ : ∃ tb, w.heap.size = tb := ⟨_, rfl⟩
    have HT2 : Hid (Tbl w2 tb t T) := Lib.hid (htb ▸ HT.out.later b2)
    have HV2 := Lib.hid (HV.out.later b2)
    have HB2 := Lib.hid (below_next HB0.out b2)
    simp only [htb]
    clear HT HV HB0 HO b2
    obtain ⟨i0, hi, hz0, hz1, hz2⟩ := info_parts Tryz.infoInt'
    go_wp2_with fail
    go_loopw [14, 5] (fun s23 s9 wr => ∃ (k : Nat) (acc : List Int) (A9 : Option Addr) (c9 : Nat), k ≤ xs.length ∧ s23 = .int .i64 k ∧ s9 = .slice A9 acc.length c9 ∧ acc.length ≤ k ∧ Hid (acc ++ devGo T k (xs.drop k) = devGo T 0 xs) ∧ Hid (wr.ownsRow w2.heap.size 3 1 (.slice A9 acc.length c9) acc.length (acc.map (Value.int .i64))) ∧ Hid (Below w2.heap.size w2 wr)) (fun i _ _ => xs.length - (intOf i).toNat)
    case atStart => exact ⟨0, [], none, 0, by omega, rfl, rfl, by simp, Lib.hid rfl, Lib.hid (World.ownsRow_nil _ _ _ _), Lib.hid (Below.refl _ _)⟩
    case round =>
      obtain ⟨k, acc, A9, c9, hk, rfl, rfl, hal, HS, HOr, HBr⟩ := hrel
      by_cases hlt : k < xs.length
      · obtain ⟨x, hxk, _⟩ := get_of hlt
        obtain ⟨_, _, hve, _, _, _, hcell⟩ := HV2.out
        cases hve
        obtain ⟨ad, rfl, ha, hce⟩ := hcell k x hxk
        have e1 := (HBr.out.cell (p := ad.add k) (by rw [block_of_add]; exact ha)).trans hce
        have HX := Lib.hid hxk
        have k0 : (0 : Int) ≤ (k : Int) := by omega
        have k1 : (k : Int) < (xs.length : Int) := by omega
        have HTr := Lib.hid (HT2.out.later HBr.out)
        obtain ⟨x0, x1, x2, x3, x4, x5, x6, x7, x8, x9, x10, x11⟩ := HTr.out.1.tab
        have HCx := Lib.hid (HC.out tb wr x HTr.out)
        clear hcell hxk ha hce
        obtain ⟨st, hst⟩ : ∃ st, T.statusOf x = st := ⟨_, rfl⟩
        rw [hst] at HCx
        by_cases s4 : st = 4
        · subst s4
          have HN := Lib.hid (dev_hit HX.out HS.out hst)
          clear hst
          go_upto_region 8 with (go_at_call 35; refine HCx.out.mono ?_; rintro e w5 ⟨rfl, b5⟩)
          have HO5 := Lib.hid (own_later HOr.out b5)
          have HB5 := Lib.hid (below_then HBr.out (Nat.le_refl _) b5)
          clear x0 x1 x2 x3 x4 x5 x6 x7 x8 x9 x10 x11 e1 HCx HTr HOr HBr b5 HS HX
          go_wp2_with (at_builtin; refine wpList_append_ints (by rfl) (.tmp 23) (.tmp 25) rfl Tryz.underlying22 hi hz0 hz1 hz2 (w5.heap.size + 1) w2.heap.size (.slice A9 acc.length c9) acc (.slice (some ⟨w5.heap.size, 0, none⟩) 1 1) [(k : Int)] rfl (HO5.out.alloc _) rfl (by have h := Ints.of_own (own_new w5 3 [(k : Int)] (by simp)); simpa using h) (by simp; omega) (by have := HB5.out.size; simp; omega) ?_; intro v6 w6 ho6 hg6 _; obtain ⟨A6, c6, rfl, _⟩ := id (Ints.of_own ho6); have HO6 := Lib.hid ho6; have HB6 := Lib.hid ((HB5.out.alloc HB5.out.size (.cells #[.int .i64 (k : Int)] 3)).grown hg6 (by have := HB5.out.size; simp; omega) (fun q hq => (HO5.out.lt q hq).1)); clear ho6 hg6)
          go_roundw
          case rel => exact ⟨k + 1, acc ++ [(k : Int)], A6, c6, by omega, by go_num, by simp, by simp; omega, HN, HO6, HB6⟩
          case measure => simp [intOf]; omega
        · have g4 : (st == 4) = false := by simpa using s4
          have HN := Lib.hid (dev_go HX.out HS.out (by rw [hst]; exact s4))
          clear hst s4
          go_wp2_with (go_at_call 35; refine HCx.out.mono ?_; rintro e w5 ⟨rfl, b5⟩)
          go_roundw
          case rel => exact ⟨k + 1, acc, A9, c9, by omega, by go_num, rfl, by omega, HN, Lib.hid (own_later HOr.out b5), Lib.hid (below_then HBr.out (Nat.le_refl _) b5)⟩
          case measure => simp [intOf]; omega
      · have HA := Lib.hid (dev_end (by omega) HS.out)
        go_wp2_with fail
        go_ret
        rw [HD.out, ← HA.out]
        exact ⟨_, rfl, row_le HOr.out HB2.out.size, below_next HB2.out HBr.out⟩
  · have HD : Hid (devL T xs = []) := Lib.hid (by unfold devL; rw [if_neg h0])
    have hb : (accE T xs != 0) = true := by simpa using h0
    clear h0
    go_enter Tryz.func26, Tryz.ntmps26
    go_upto_region 1 with fail
    generalize w.alloc (.cells t.cells 26) = w1 at *
    obtain ⟨x0, x1, x2, x3, x4, x5, x6, x7, x8, x9, x10, x11⟩ := HT.out.1.tab
    go_wp2_with (go_at_call 34; refine HO.out.mono ?_; rintro e w2 ⟨rfl, b2⟩)
    go_ret
    rw [HD.out]
    exact ⟨_, rfl, World.ownsRow_nil _ _ _ _, below_next HB0.out b2⟩

end Go.Proofs.YtneinkpfhkojgaaGreatDoor
/-
  Laws of mapping, in plain Lean: one by one, and once for all.
-/
namespace Go.Proofs.YtneinkpfhkojgaaGreatDoor
open Go.RowKit ND

theorem badAt_none {T : Tab} : ∀ (l : List Int) (i : Nat), badAt T i l = none ↔ ∀ c ∈ l, T.statusOf c ≠ 0 := by
  intro l
  induction l with
  | nil => intro i; simp [badAt]
  | cons c r ih =>
    intro i
    rw [badAt]
    by_cases h : T.statusOf c = 0
    · rw [if_pos h]; simp [h]
    · rw [if_neg h, ih]; simp [h]
theorem badAt_shift {T : Tab} : ∀ (l : List Int) (i : Nat), badAt T i l = (badAt T 0 l).map (· + i) := by
  intro l
  induction l with
  | nil => intro i; rfl
  | cons c r ih =>
    intro i
    rw [badAt, badAt]
    by_cases h : T.statusOf c = 0
    · rw [if_pos h, if_pos h]; simp
    · rw [if_neg h, if_neg h, ih (i + 1), ih (0 + 1), Option.map_map]
      congr 1
      funext x; simp only [Function.comp]; omega
theorem badAt_at {T : Tab} : ∀ (l : List Int) (i k : Nat), badAt T i l = some k → i ≤ k ∧ ∃ c, l[k - i]? = some c ∧ T.statusOf c = 0 ∧ ∀ j d, j < k - i → l[j]? = some d → T.statusOf d ≠ 0 := by
  intro l
  induction l with
  | nil => intro i k h; cases h
  | cons c r ih =>
    intro i k h
    rw [badAt] at h
    by_cases h0 : T.statusOf c = 0
    · rw [if_pos h0] at h; cases h
      exact ⟨Nat.le_refl _, c, by simp, h0, fun j d hj => by omega⟩
    · rw [if_neg h0] at h
      obtain ⟨h1, d, h2, h3, h4⟩ := ih (i + 1) k h
      refine ⟨by omega, d, ?_, h3, fun j e hj he => ?_⟩
      · rw [show k - i = k - (i + 1) + 1 by omega]; simpa using h2
      · cases j with
        | zero => simp at he; subst he; exact h0
        | succ j => exact h4 j e (by omega) (by simpa using he)
theorem badAt_app {T : Tab} (a b : List Int) : badAt T 0 (a ++ b) = match badAt T 0 a with | some k => some k | none => (badAt T 0 b).map (· + a.length) := by
  have key : ∀ (a : List Int) (i : Nat), badAt T i (a ++ b) = match badAt T i a with | some k => some k | none => badAt T (i + a.length) b := by
    intro a
    induction a with
    | nil => intro i; rfl
    | cons c r ih =>
      intro i
      rw [List.cons_append, badAt, badAt]
      by_cases h : T.statusOf c = 0
      · rw [if_pos h, if_pos h]
      · rw [if_neg h, if_neg h, ih, List.length_cons, show i + 1 + r.length = i + (r.length + 1) by omega]
  rw [key a 0]
  cases badAt T 0 a with
  | some k => rfl
  | none => simp only; rw [badAt_shift b (0 + a.length)]; simp
theorem mapOut_app {T : Tab} (a b : List Int) : mapOut T (a ++ b) = mapOut T a ++ mapOut T b := by unfold mapOut; rw [List.flatMap_append]
theorem mapOut_len {T : Tab} (h : T.check = 0) : ∀ l : List Int, (mapOut T l).length ≤ 18 * l.length := by
  intro l
  induction l with
  | nil => simp [mapOut]
  | cons c r ih =>
    have := mapOne_len h c
    unfold mapOut at ih ⊢
    rw [List.flatMap_cons, List.length_append, List.length_cons]; omega
end Go.Proofs.YtneinkpfhkojgaaGreatDoor
/-
  The walk through slices.Equal at integers.
-/
namespace Go.Proofs.YtneinkpfhkojgaaGreatDoor
open Go.RowKit ND

set_option maxRecDepth 100000 in
set_option maxHeartbeats 1000000 in
theorem equal_any (v u : Value) (xs ys : List Int) (w : World) (hv : Ints w w.heap.size .i64 v xs) (hu : Ints w w.heap.size .i64 u ys) :
    Calls Tryz.prog 37 #[v, u] w fun e w' => e = .returned (.bool (decide (xs = ys))) ∧ Below w.heap.size w w' := by
  obtain ⟨A, c, rfl, hc1, hc2, _, hcell⟩ := hv
  obtain ⟨A', c', rfl, hc1', hc2', _, hcell'⟩ := hu
  have HC := Lib.hid hcell; clear hcell
  have HC' := Lib.hid hcell'; clear hcell'
  have hl : xs.length ≤ 9223372036854775807 := by unfold maxLen at hc2; omega
  clear hc2 hc2' hc1 hc1'
  by_cases hlen : xs.length = ys.length
  · have hb : ((xs.length : Int) != (ys.length : Int)) = false := by rw [hlen]; simp
    have hl1 : xs.length ≤ ys.length := by omega
    have hl2 : ys.length ≤ xs.length := by omega
    clear hlen
    obtain ⟨R, hR⟩ : ∃ R, R = decide (xs = ys) := ⟨_, rfl⟩
    rw [← hR]
    have HR := Lib.hid hR; clear hR
    go_enter Tryz.func37, Tryz.ntmps37
    go_wp2_with fail
    go_loopw [13] (fun i wr => ∃ k : Nat, k ≤ xs.length ∧ i = .int .i64 k ∧ Hid (xs.take k = ys.take k) ∧ Below w.heap.size w wr) (fun i _ => xs.length - (intOf i).toNat)
    case atStart => exact ⟨0, by omega, rfl, Lib.hid (by simp), Below.refl _ _⟩
    case round =>
      obtain ⟨k, hk, rfl, HS, hbel⟩ := hrel
      by_cases hlt : k < xs.length
      · obtain ⟨x, hxk, _⟩ := get_of hlt
        obtain ⟨y, hyk, _⟩ := get_of (show k < ys.length by omega)
        obtain ⟨ad, rfl, ha, hce⟩ := HC.out k x hxk
        obtain ⟨ad', rfl, ha', hce'⟩ := HC'.out k y hyk
        have e1 := (hbel.cell (p := ad.add k) (by rw [block_of_add]; exact ha)).trans hce
        have e2 := (hbel.cell (p := ad'.add k) (by rw [block_of_add]; exact ha')).trans hce'
        have HX := Lib.hid hxk
        have HY := Lib.hid hyk
        clear hce hce' hxk hyk ha ha'
        have k0 : (0 : Int) ≤ (k : Int) := by omega
        have k1 : (k : Int) < (xs.length : Int) := by omega
        have k2 : (k : Int) < (ys.length : Int) := by omega
        by_cases hxy : x = y
        · have hb2 : (x != y) = false := by rw [hxy]; simp
          have HT := Lib.hid (same_step HS.out HX.out (by rw [hxy]; exact HY.out))
          clear hxy
          go_wp2_with fail
          go_quiet (fail)
          go_wp2_with fail
          go_roundw
          case rel => exact ⟨k + 1, by omega, by go_num, HT, below_drewN hbel nq⟩
          case measure => simp [intOf]; omega
        · have hb2 : (x != y) = true := by rw [bne_iff_ne]; exact hxy
          have HN : Hid (R = false) := by
            refine Lib.hid ?_
            rw [HR.out, decide_eq_false_iff_not]
            rintro rfl
            have := HX.out.symm.trans HY.out
            simp at this
            exact hxy this
          clear hxy
          go_wp2_with fail
          go_quiet (fail)
          go_wp2_with fail
          go_ret
          rw [HN.out]
          exact ⟨rfl, below_drewN hbel nq⟩
      · have HN : Hid (R = true) := by
          refine Lib.hid ?_
          rw [HR.out, decide_eq_true_iff]
          have h := HS.out
          rw [List.take_of_length_le (by omega), List.take_of_length_le (by omega)] at h
          exact h
        go_wp2_with fail
        go_ret
        rw [HN.out]
        exact ⟨rfl, hbel⟩
  · have hb : ((xs.length : Int) != (ys.length : Int)) = true := by rw [bne_iff_ne]; omega
    have hn : decide (xs = ys) = false := by
      rw [decide_eq_false_iff_not]; rintro rfl; exact hlen rfl
    rw [hn]
    clear hn hlen
    go_enter Tryz.func37, Tryz.ntmps37
    go_wp2_with fail
    go_ret
    exact ⟨rfl, Below.refl _ _⟩
end Go.Proofs.YtneinkpfhkojgaaGreatDoor
/-
  The walk through mapping.Stable.
-/
namespace Go.Proofs.YtneinkpfhkojgaaGreatDoor
open Go.RowKit ND

/-- Whether mapping does not change a sequence. -/
def stableB (T : Tab) (xs : List Int) : Bool := (mapR T xs).2.2 == 0 && decide ((mapR T xs).1 = xs)

set_option maxRecDepth 100000 in
set_option maxHeartbeats 1000000 in
theorem stable_any (t : Tv) (T : Tab) (v : Value) (xs : List Int) (w : World) (ht : TabR w w.heap.size t T) (hg : Glob w) (hv : Ints w w.heap.size .i64 v xs) :
    Calls Tryz.prog 23 #[t.val, v] w fun e w' => e = .returned (.bool (stableB T xs)) ∧ Below w.heap.size w w' := by
  obtain ⟨A, c, rfl, _⟩ := id hv
  have HB0 : Hid (Below w.heap.size w (w.alloc (.cells t.cells 26))) := Lib.hid ((Below.refl _ _).alloc (Nat.le_refl _) _)
  have HT : Hid (Tbl (w.alloc (.cells t.cells 26)) w.heap.size t T) := Lib.hid ⟨Blk.new _ _ _, ht.later HB0.out⟩
  have HV := Lib.hid (hv.later HB0.out)
  have HO := Lib.hid (map_any t T _ xs _ HT.out.2 (hg.later HB0.out) HV.out)
  clear hv ht hg
  unfold stableB
  obtain ⟨ys, ai, er, hr⟩ : ∃ ys ai er, mapR T xs = (ys, ai, er) := ⟨_, _, _, rfl⟩
  rw [hr] at HO ⊢
  clear hr
  show Calls _ _ _ _ fun e w' => e = .returned (.bool (er == 0 && decide (ys = xs))) ∧ _
  obtain ⟨R, hR⟩ : ∃ R, R = decide (ys = xs) := ⟨_, rfl⟩
  have HR := Lib.hid hR
  rw [← hR]
  clear hR
  go_enter Tryz.func23, Tryz.ntmps23
  go_upto_region 1 with fail
  generalize w.alloc (.cells t.cells 26) = w1 at *
  obtain ⟨x0, x1, x2, x3, x4, x5, x6, x7, x8, x9, x10, x11⟩ := HT.out.1.tab
  go_upto_region 2 with (go_at_call 20; refine HO.out.mono ?_; rintro e w2 ⟨u, rfl, ho2, b2⟩; obtain ⟨A2, c2, rfl, _⟩ := id (Ints.of_own ho2); have HU := Lib.hid (Ints.of_own ho2); clear ho2)
  have HEQ : Hid (∀ V, Below w2.heap.size w2 V → Calls Tryz.prog 37 #[.slice A2 ys.length c2, .slice A xs.length c] V fun e V' => e = .returned (.bool R) ∧ Below V.heap.size V V') := Lib.hid fun V hV => by
    have h := equal_any _ _ ys xs V (HU.out.later hV) ((HV.out.later b2).later hV)
    rw [← HR.out] at h; exact h
  clear x0 x1 x2 x3 x4 x5 x6 x7 x8 x9 x10 x11
  by_cases h0 : er = 0
  · have hb : (er == 0) = true := by rw [h0]; rfl
    clear h0
    go_wp2_with (go_at_call 37; refine (HEQ.out _ (Below.refl _ _)).mono ?_; rintro e w3 ⟨rfl, b3⟩)
    go_ret
    exact ⟨by rw [hb]; rfl, below_next (below_next HB0.out b2) b3⟩
  · have hb : (er == 0) = false := by simpa using h0
    clear h0
    go_wp2_with fail
    go_ret
    exact ⟨by rw [hb]; rfl, below_next HB0.out b2⟩
end Go.Proofs.YtneinkpfhkojgaaGreatDoor
/-
  The walk through the reference's Maps.
-/
namespace Go.Proofs.YtneinkpfhkojgaaGreatDoor
open Go.RowKit ND

set_option maxRecDepth 100000 in
set_option maxHeartbeats 1000000 in
theorem refMaps_any (t : Tv) (T : Tab) (c : Int) (w : World) (ht : TabR w w.heap.size t T) :
    Calls Tryz.prog 36 #[t.val, .int .i64 c] w (RetInts w (T.mapsOf c)) := by
  have HR := Lib.hid (fun o : Obj => ht.r8.later ((Below.refl _ _).alloc (Nat.le_refl _) o))
  clear ht
  rcases show c < 65 ∨ (65 ≤ c ∧ c ≤ 90) ∨ 90 < c by omega with hc | ⟨h1, h2⟩ | hc
  · have hm : T.mapsOf c = findL T.maps c := by unfold Tab.mapsOf; rw [if_neg (by omega)]
    rw [hm]
    clear hm
    go_enter Tryz.func36, Tryz.ntmps36
    go_wp2_with fail
    refine (refFind_any t.c8 T.maps c _ (HR.out _)).mono ?_
    rintro e w1 ⟨v, rfl, hv, b1⟩
    go_wp2_with fail
    go_ret
    exact ⟨v, rfl, hv, below_next ((Below.refl _ _).alloc (Nat.le_refl _) _) b1⟩
  · have hm : T.mapsOf c = [c + 32] := by unfold Tab.mapsOf; rw [if_pos (by omega)]
    rw [hm]
    clear hm
    go_enter Tryz.func36, Tryz.ntmps36
    go_wp2_with fail
    go_ret
    refine ⟨_, rfl, ?_, ((Below.refl _ _).alloc (Nat.le_refl _) _).alloc (by simp) _⟩
    have h := Ints.of_own (own_new (w.alloc (.cells t.cells 26)) 3 [c + 32] (by simp))
    simpa using h
  · have hm : T.mapsOf c = findL T.maps c := by unfold Tab.mapsOf; rw [if_neg (by omega)]
    rw [hm]
    clear hm
    have h0 : decide ((65 : Int) ≤ c) = true := decide_eq_true (by omega)
    go_enter Tryz.func36, Tryz.ntmps36
    go_wp2_with fail
    refine (refFind_any t.c8 T.maps c _ (HR.out _)).mono ?_
    rintro e w1 ⟨v, rfl, hv, b1⟩
    go_wp2_with fail
    go_ret
    exact ⟨v, rfl, hv, below_next ((Below.refl _ _).alloc (Nat.le_refl _) _) b1⟩
end Go.Proofs.YtneinkpfhkojgaaGreatDoor
/-
  The walk through the reference's Same.
-/
namespace Go.Proofs.YtneinkpfhkojgaaGreatDoor
open Go.RowKit ND

set_option maxRecDepth 100000 in
set_option maxHeartbeats 1000000 in
theorem refSame_any (v u : Value) (xs ys : List Int) (w : World) (hv : Ints w w.heap.size .i64 v xs) (hu : Ints w w.heap.size .i64 u ys) :
    Calls Tryz.prog 38 #[v, u] w fun e w' => e = .returned (.bool (decide (xs = ys))) ∧ Below w.heap.size w w' := by
  obtain ⟨A, c, rfl, hc1, hc2, _, hcell⟩ := hv
  obtain ⟨A', c', rfl, hc1', hc2', _, hcell'⟩ := hu
  have HC := Lib.hid hcell; clear hcell
  have HC' := Lib.hid hcell'; clear hcell'
  have hl : xs.length ≤ 9223372036854775807 := by unfold maxLen at hc2; omega
  clear hc2 hc2' hc1 hc1'
  by_cases hlen : xs.length = ys.length
  · have hb : ((xs.length : Int) != (ys.length : Int)) = false := by rw [hlen]; simp
    have hl1 : xs.length ≤ ys.length := by omega
    have hl2 : ys.length ≤ xs.length := by omega
    clear hlen
    obtain ⟨R, hR⟩ : ∃ R, R = decide (xs = ys) := ⟨_, rfl⟩
    rw [← hR]
    have HR := Lib.hid hR; clear hR
    go_enter Tryz.func38, Tryz.ntmps38
    go_wp2_with fail
    go_loopw [13] (fun i wr => ∃ k : Nat, k ≤ xs.length ∧ i = .int .i64 k ∧ Hid (xs.take k = ys.take k) ∧ Below w.heap.size w wr) (fun i _ => xs.length - (intOf i).toNat)
    case atStart => exact ⟨0, by omega, rfl, Lib.hid (by simp), Below.refl _ _⟩
    case round =>
      obtain ⟨k, hk, rfl, HS, hbel⟩ := hrel
      by_cases hlt : k < xs.length
      · obtain ⟨x, hxk, _⟩ := get_of hlt
        obtain ⟨y, hyk, _⟩ := get_of (show k < ys.length by omega)
        obtain ⟨ad, rfl, ha, hce⟩ := HC.out k x hxk
        obtain ⟨ad', rfl, ha', hce'⟩ := HC'.out k y hyk
        have e1 := (hbel.cell (p := ad.add k) (by rw [block_of_add]; exact ha)).trans hce
        have e2 := (hbel.cell (p := ad'.add k) (by rw [block_of_add]; exact ha')).trans hce'
        have HX := Lib.hid hxk
        have HY := Lib.hid hyk
        clear hce hce' hxk hyk ha ha'
        have k0 : (0 : Int) ≤ (k : Int) := by omega
        have k1 : (k : Int) < (xs.length : Int) := by omega
        have k2 : (k : Int) < (ys.length : Int) := by omega
        by_cases hxy : x = y
        · have hb2 : (x != y) = false := by rw [hxy]; simp
          have HT := Lib.hid (same_step HS.out HX.out (by rw [hxy]; exact HY.out))
          clear hxy
          go_wp2_with fail
          go_quiet (fail)
          go_wp2_with fail
          go_roundw
          case rel => exact ⟨k + 1, by omega, by go_num, HT, below_drewN hbel nq⟩
          case measure => simp [intOf]; omega
        · have hb2 : (x != y) = true := by rw [bne_iff_ne]; exact hxy
          have HN : Hid (R = false) := by
            refine Lib.hid ?_
            rw [HR.out, decide_eq_false_iff_not]
            rintro rfl
            have := HX.out.symm.trans HY.out
            simp at this
            exact hxy this
          clear hxy
          go_wp2_with fail
          go_quiet (fail)
          go_wp2_with fail
          go_ret
          rw [HN.out]
          exact ⟨rfl, below_drewN hbel nq⟩
      · have HN : Hid (R = true) := by
          refine Lib.hid ?_
          rw [HR.out, decide_eq_true_iff]
          have h := HS.out
          rw [List.take_of_length_le (by omega), List.take_of_length_le (by omega)] at h
          exact h
        go_wp2_with fail
        go_ret
        rw [HN.out]
        exact ⟨rfl, hbel⟩
  · have hb : ((xs.length : Int) != (ys.length : Int)) = true := by rw [bne_iff_ne]; omega
    have hn : decide (xs = ys) = false := by
      rw [decide_eq_false_iff_not]; rintro rfl; exact hlen rfl
    rw [hn]
    clear hn hlen
    go_enter Tryz.func38, Tryz.ntmps38
    go_wp2_with fail
    go_ret
    exact ⟨rfl, Below.refl _ _⟩
end Go.Proofs.YtneinkpfhkojgaaGreatDoor
/-
  The walks through the reference's Map and Stable of layer 13.
-/
namespace Go.Proofs.YtneinkpfhkojgaaGreatDoor
open Go.RowKit ND

set_option maxRecDepth 100000 in
set_option maxHeartbeats 4000000 in
theorem refMap_any (t : Tv) (T : Tab) (v : Value) (xs : List Int) (w : World) (ht : TabR w w.heap.size t T) (hv : Ints w w.heap.size .i64 v xs) :
    Calls Tryz.prog 22 #[t.val, v] w (RetMap w (mapR T xs)) := by
  obtain ⟨A, c, rfl, _⟩ := id hv
  have HB0 : Hid (Below w.heap.size w (w.alloc (.cells t.cells 26))) := Lib.hid ((Below.refl _ _).alloc (Nat.le_refl _) _)
  have HT : Hid (Tbl (w.alloc (.cells t.cells 26)) w.heap.size t T) := Lib.hid ⟨Blk.new _ _ _, ht.later HB0.out⟩
  have HV := Lib.hid (hv.later HB0.out)
  have HO := Lib.hid (refAccept_any t T _ xs _ HT.out.2 HV.out)
  clear hv ht
  by_cases h0 : accE T xs = 0
  · obtain ⟨hck, hlen, _⟩ := accE_zero h0
    have H0 := Lib.hid h0
    have HCK := Lib.hid hck
    have hsh := shape_of hck
    have HC : Hid (∀ (b : Nat) (W : World) (x : Int), Tbl W b t T → Calls Tryz.prog 35 #[.agg #[t.c0, t.c1, t.c2, t.c3, t.c4, t.c5, t.c6, t.c7, t.c8, t.c9, t.c10, t.c11], .int .i64 x] W fun e W' => e = .returned (.int .i64 (T.statusOf x)) ∧ Below W.heap.size W W') := Lib.hid fun b W x h => refStatus_any t T x W h.2 hsh.c5
    have HM : Hid (∀ (b : Nat) (W : World) (x : Int), Tbl W b t T → Calls Tryz.prog 36 #[.agg #[t.c0, t.c1, t.c2, t.c3, t.c4, t.c5, t.c6, t.c7, t.c8, t.c9, t.c10, t.c11], .int .i64 x] W (RetInts W (T.mapsOf x))) := Lib.hid fun b W x h => refMaps_any t T x W h.2
    rw [h0] at HO
    clear h0 hck hsh
    go_enter Tryz.func22, Tryz.ntmps22
    go_upto_region 1 with fail
    generalize w.alloc (.cells t.cells 26) = w1 at *
    obtain ⟨x0, x1, x2, x3, x4, x5, x6, x7, x8, x9, x10, x11⟩ := HT.out.1.tab
    go_upto_region 2 with (go_at_call 34; refine HO.out.mono ?_; rintro e w2 ⟨rfl, b2⟩)
    clear x0 x1 x2 x3 x4 x5 x6 x7 x8 x9 x10 x11
    obtain ⟨tb, htb⟩ : ∃ tb, w.heap.size = tb := ⟨_, rfl⟩
    have HT2 : Hid (Tbl w2 tb t T) := Lib.hid (htb ▸ HT.out.later b2)
    have HV2 := Lib.hid (HV.out.later b2)
    have HB2 := Lib.hid (below_next HB0.out b2)
    simp only [htb]
    clear HT HV HB0 HO b2
    obtain ⟨i0, hi, hz0, hz1, hz2⟩ := info_parts Tryz.infoInt'
    go_wp2_with fail
    go_loopw [19, 8] (fun s23 s9 wr => ∃ (k : Nat) (acc : List Int) (A9 : Option Addr) (c9 : Nat), k ≤ xs.length ∧ s23 = .int .i64 k ∧ s9 = .slice A9 acc.length c9 ∧ acc.length ≤ 18 * k ∧ Hid (acc = mapOut T (xs.take k) ∧ badAt T k (xs.drop k) = badAt T 0 xs) ∧ Hid (wr.ownsRow w2.heap.size 3 1 (.slice A9 acc.length c9) acc.length (acc.map (Value.int .i64))) ∧ Hid (Below w2.heap.size w2 wr)) (fun i _ _ => xs.length - (intOf i).toNat)
    case atStart => exact ⟨0, [], none, 0, by omega, rfl, rfl, by simp, Lib.hid ⟨rfl, rfl⟩, Lib.hid (World.ownsRow_nil _ _ _ _), Lib.hid (Below.refl _ _)⟩
    case round =>
      obtain ⟨k, acc, A9, c9, hk, rfl, rfl, hal, HS, HOr, HBr⟩ := hrel
      by_cases hlt : k < xs.length
      · obtain ⟨x, hxk, _⟩ := get_of hlt
        obtain ⟨_, _, hve, _, _, _, hcell⟩ := HV2.out
        cases hve
        obtain ⟨ad, rfl, ha, hce⟩ := hcell k x hxk
        have e1 := (HBr.out.cell (p := ad.add k) (by rw [block_of_add]; exact ha)).trans hce
        have HX := Lib.hid hxk
        have k0 : (0 : Int) ≤ (k : Int) := by omega
        have k1 : (k : Int) < (xs.length : Int) := by omega
        have HTr := Lib.hid (HT2.out.later HBr.out)
        obtain ⟨x0, x1, x2, x3, x4, x5, x6, x7, x8, x9, x10, x11⟩ := HTr.out.1.tab
        have HCx := Lib.hid (HC.out tb wr x HTr.out)
        have HOS := Lib.hid (out_step (T := T) HX.out)
        clear hcell hxk ha hce
        obtain ⟨st, hst⟩ : ∃ st, T.statusOf x = st := ⟨_, rfl⟩
        rw [hst] at HCx
        by_cases s1 : st = 1
        · subst s1
          have HN : Hid (acc ++ [x] = mapOut T (xs.take (k + 1)) ∧ badAt T (k + 1) (xs.drop (k + 1)) = badAt T 0 xs) := Lib.hid ⟨by rw [HOS.out, ← HS.out.1]; unfold mapOne; rw [if_pos (.inl hst)], bad_go HX.out HS.out.2 (by omega)⟩
          clear hst
          go_upto_region 15 with (go_at_call 35; refine HCx.out.mono ?_; rintro e w5 ⟨rfl, b5⟩)
          have HO5 := Lib.hid (own_later HOr.out b5)
          have HB5 := Lib.hid (below_then HBr.out (Nat.le_refl _) b5)
          clear x0 x1 x2 x3 x4 x5 x6 x7 x8 x9 x10 x11 e1 HCx HTr HOr HBr b5 HS HX HOS
          go_wp2_with (at_builtin; refine wpList_append_ints (by rfl) (.tmp 40) (.tmp 42) rfl Tryz.underlying22 hi hz0 hz1 hz2 (w5.heap.size + 1) w2.heap.size (.slice A9 acc.length c9) acc (.slice (some ⟨w5.heap.size, 0, none⟩) 1 1) [x] rfl (HO5.out.alloc _) rfl (by have h := Ints.of_own (own_new w5 3 [x] (by simp)); simpa using h) (by simp; omega) (by have := HB5.out.size; simp; omega) ?_; intro v6 w6 ho6 hg6 _; obtain ⟨A6, c6, rfl, _⟩ := id (Ints.of_own ho6); have HO6 := Lib.hid ho6; have HB6 := Lib.hid ((HB5.out.alloc HB5.out.size (.cells #[.int .i64 x] 3)).grown hg6 (by have := HB5.out.size; simp; omega) (fun q hq => (HO5.out.lt q hq).1)); clear ho6 hg6)
          go_roundw
          case rel => exact ⟨k + 1, acc ++ [x], A6, c6, by omega, by go_num, by simp, by simp; omega, HN, HO6, HB6⟩
          case measure => simp [intOf]; omega
        by_cases s4 : st = 4
        · subst s4
          have HN : Hid (acc ++ [x] = mapOut T (xs.take (k + 1)) ∧ badAt T (k + 1) (xs.drop (k + 1)) = badAt T 0 xs) := Lib.hid ⟨by rw [HOS.out, ← HS.out.1]; unfold mapOne; rw [if_pos (.inr hst)], bad_go HX.out HS.out.2 (by omega)⟩
          clear hst
          go_upto_region 15 with (go_at_call 35; refine HCx.out.mono ?_; rintro e w5 ⟨rfl, b5⟩)
          have HO5 := Lib.hid (own_later HOr.out b5)
          have HB5 := Lib.hid (below_then HBr.out (Nat.le_refl _) b5)
          clear x0 x1 x2 x3 x4 x5 x6 x7 x8 x9 x10 x11 e1 HCx HTr HOr HBr b5 HS HX HOS
          go_wp2_with (at_builtin; refine wpList_append_ints (by rfl) (.tmp 40) (.tmp 42) rfl Tryz.underlying22 hi hz0 hz1 hz2 (w5.heap.size + 1) w2.heap.size (.slice A9 acc.length c9) acc (.slice (some ⟨w5.heap.size, 0, none⟩) 1 1) [x] rfl (HO5.out.alloc _) rfl (by have h := Ints.of_own (own_new w5 3 [x] (by simp)); simpa using h) (by simp; omega) (by have := HB5.out.size; simp; omega) ?_; intro v6 w6 ho6 hg6 _; obtain ⟨A6, c6, rfl, _⟩ := id (Ints.of_own ho6); have HO6 := Lib.hid ho6; have HB6 := Lib.hid ((HB5.out.alloc HB5.out.size (.cells #[.int .i64 x] 3)).grown hg6 (by have := HB5.out.size; simp; omega) (fun q hq => (HO5.out.lt q hq).1)); clear ho6 hg6)
          go_roundw
          case rel => exact ⟨k + 1, acc ++ [x], A6, c6, by omega, by go_num, by simp, by simp; omega, HN, HO6, HB6⟩
          case measure => simp [intOf]; omega
        by_cases s3 : st = 3
        · subst s3
          have HN : Hid (acc ++ T.mapsOf x = mapOut T (xs.take (k + 1)) ∧ badAt T (k + 1) (xs.drop (k + 1)) = badAt T 0 xs) := Lib.hid ⟨by rw [HOS.out, ← HS.out.1]; unfold mapOne; rw [if_neg (by omega), if_pos hst], bad_go HX.out HS.out.2 (by omega)⟩
          have hml := mapsOf_len HCK.out x
          have HMx := Lib.hid (fun W (h : Below wr.heap.size wr W) => HM.out tb W x (HTr.out.later h))
          clear hst HX
          generalize T.mapsOf x = ml at *
          go_upto_region 12 with (go_at_call 35; refine HCx.out.mono ?_; rintro e w5 ⟨rfl, b5⟩)
          have HO5 := Lib.hid (own_later HOr.out b5)
          have HB5 := Lib.hid (below_then HBr.out (Nat.le_refl _) b5)
          clear x0 x1 x2 x3 x4 x5 x6 x7 x8 x9 x10 x11 e1 HCx HOr HOS
          obtain ⟨x0, x1, x2, x3, x4, x5, x6, x7, x8, x9, x10, x11⟩ := (HTr.out.later b5).1.tab
          go_wp2_with (first
            | (go_at_call 36; refine (HMx.out _ b5).mono ?_; rintro e w7 ⟨u7, rfl, hi7, b7⟩; obtain ⟨A7, c7, rfl, _⟩ := id hi7; have HI7 := Lib.hid hi7; have HO7 := Lib.hid (own_later HO5.out b7); have HB7 := Lib.hid (below_then HB5.out (Nat.le_refl _) b7); clear hi7 b7)
            | (at_builtin; refine wpList_append_ints (by rfl) (.tmp 32) (.tmp 35) rfl Tryz.underlying22 hi hz0 hz1 hz2 w7.heap.size w2.heap.size (.slice A9 acc.length c9) acc (.slice A7 ml.length c7) ml rfl HO7.out rfl HI7.out (by omega) HB7.out.size ?_; intro v6 w6 ho6 hg6 _; obtain ⟨A6, c6, rfl, _⟩ := id (Ints.of_own ho6); have HO6 := Lib.hid ho6; have HB6 := Lib.hid (HB7.out.grown hg6 HB7.out.size (fun q hq => (HO7.out.lt q hq).1)); clear ho6 hg6))
          go_roundw
          case rel => exact ⟨k + 1, acc ++ ml, A6, c6, by omega, by go_num, by simp, by simp; omega, HN, HO6, HB6⟩
          case measure => simp [intOf]; omega
        by_cases s0 : st = 0
        · subst s0
          have HR : Hid (mapR T xs = ([], (k : Int), 16)) := Lib.hid (mapR_bad H0.out (bad_hit HX.out HS.out.2 hst))
          clear hst
          go_wp2_with (go_at_call 35; refine HCx.out.mono ?_; rintro e w5 ⟨rfl, b5⟩)
          go_ret3
          rw [HR.out]
          exact ⟨_, rfl, World.ownsRow_nil _ _ _ _, below_next HB2.out (below_then HBr.out (Nat.le_refl _) b5)⟩
        · have g1 : (st == 1) = false := by simpa using s1
          have g4 : (st == 4) = false := by simpa using s4
          have g3 : (st == 3) = false := by simpa using s3
          have g0 : (st == 0) = false := by simpa using s0
          have HN : Hid (acc = mapOut T (xs.take (k + 1)) ∧ badAt T (k + 1) (xs.drop (k + 1)) = badAt T 0 xs) := Lib.hid ⟨by rw [HOS.out, ← HS.out.1]; unfold mapOne; rw [if_neg (by omega), if_neg (by omega)]; simp, bad_go HX.out HS.out.2 (by omega)⟩
          clear hst s1 s4 s3 s0
          go_wp2_with (go_at_call 35; refine HCx.out.mono ?_; rintro e w5 ⟨rfl, b5⟩)
          go_roundw
          case rel => exact ⟨k + 1, acc, A9, c9, by omega, by go_num, rfl, by omega, HN, Lib.hid (own_later HOr.out b5), Lib.hid (below_then HBr.out (Nat.le_refl _) b5)⟩
          case measure => simp [intOf]; omega
      · have HE := Lib.hid (bad_end (by omega) HS.out.2)
        have HA : Hid (acc = mapOut T xs) := Lib.hid (by have := HS.out.1; rwa [List.take_of_length_le (by omega)] at this)
        by_cases hfl : 4096 < acc.length
        · have HR : Hid (mapR T xs = ([], 0, 7)) := Lib.hid (mapR_full H0.out HE.out (by rw [← HA.out]; exact hfl))
          have g : (4096 : Int) < (acc.length : Int) := by omega
          clear hfl
          go_wp2_with fail
          go_ret3
          rw [HR.out]
          exact ⟨_, rfl, World.ownsRow_nil _ _ _ _, below_next HB2.out HBr.out⟩
        · have HR : Hid (mapR T xs = (acc, 0, 0)) := Lib.hid (by rw [mapR_ok H0.out HE.out (by rw [← HA.out]; omega), HA.out])
          have g : ¬ (4096 : Int) < (acc.length : Int) := by omega
          clear hfl
          go_wp2_with fail
          go_ret3
          rw [HR.out]
          exact ⟨_, rfl, row_le HOr.out HB2.out.size, below_next HB2.out HBr.out⟩
  · have HR := Lib.hid (mapR_err h0)
    have hb : (accE T xs != 0) = true := by simpa using h0
    clear h0
    go_enter Tryz.func22, Tryz.ntmps22
    go_upto_region 1 with fail
    generalize w.alloc (.cells t.cells 26) = w1 at *
    obtain ⟨x0, x1, x2, x3, x4, x5, x6, x7, x8, x9, x10, x11⟩ := HT.out.1.tab
    go_wp2_with (go_at_call 34; refine HO.out.mono ?_; rintro e w2 ⟨rfl, b2⟩)
    go_ret3
    rw [HR.out]
    exact ⟨_, rfl, World.ownsRow_nil _ _ _ _, below_next HB0.out b2⟩

set_option maxRecDepth 100000 in
set_option maxHeartbeats 1000000 in
theorem refStable_any (t : Tv) (T : Tab) (v : Value) (xs : List Int) (w : World) (ht : TabR w w.heap.size t T) (hv : Ints w w.heap.size .i64 v xs) :
    Calls Tryz.prog 24 #[t.val, v] w fun e w' => e = .returned (.bool (stableB T xs)) ∧ Below w.heap.size w w' := by
  obtain ⟨A, c, rfl, _⟩ := id hv
  have HB0 : Hid (Below w.heap.size w (w.alloc (.cells t.cells 26))) := Lib.hid ((Below.refl _ _).alloc (Nat.le_refl _) _)
  have HT : Hid (Tbl (w.alloc (.cells t.cells 26)) w.heap.size t T) := Lib.hid ⟨Blk.new _ _ _, ht.later HB0.out⟩
  have HV := Lib.hid (hv.later HB0.out)
  have HO := Lib.hid (refMap_any t T _ xs _ HT.out.2 HV.out)
  clear hv ht
  unfold stableB
  obtain ⟨ys, ai, er, hr⟩ : ∃ ys ai er, mapR T xs = (ys, ai, er) := ⟨_, _, _, rfl⟩
  rw [hr] at HO ⊢
  clear hr
  show Calls _ _ _ _ fun e w' => e = .returned (.bool (er == 0 && decide (ys = xs))) ∧ _
  obtain ⟨R, hR⟩ : ∃ R, R = decide (ys = xs) := ⟨_, rfl⟩
  have HR := Lib.hid hR
  rw [← hR]
  clear hR
  go_enter Tryz.func24, Tryz.ntmps24
  go_upto_region 1 with fail
  generalize w.alloc (.cells t.cells 26) = w1 at *
  obtain ⟨x0, x1, x2, x3, x4, x5, x6, x7, x8, x9, x10, x11⟩ := HT.out.1.tab
  go_upto_region 2 with (go_at_call 22; refine HO.out.mono ?_; rintro e w2 ⟨u, rfl, ho2, b2⟩; obtain ⟨A2, c2, rfl, _⟩ := id (Ints.of_own ho2); have HU := Lib.hid (Ints.of_own ho2); clear ho2)
  have HEQ : Hid (∀ V, Below w2.heap.size w2 V → Calls Tryz.prog 38 #[.slice A2 ys.length c2, .slice A xs.length c] V fun e V' => e = .returned (.bool R) ∧ Below V.heap.size V V') := Lib.hid fun V hV => by
    have h := refSame_any _ _ ys xs V (HU.out.later hV) ((HV.out.later b2).later hV)
    rw [← HR.out] at h; exact h
  clear x0 x1 x2 x3 x4 x5 x6 x7 x8 x9 x10 x11
  by_cases h0 : er = 0
  · have hb : (er == 0) = true := by rw [h0]; rfl
    clear h0
    go_wp2_with (go_at_call 38; refine (HEQ.out _ (Below.refl _ _)).mono ?_; rintro e w3 ⟨rfl, b3⟩)
    go_ret
    exact ⟨by rw [hb]; rfl, below_next (below_next HB0.out b2) b3⟩
  · have hb : (er == 0) = false := by simpa using h0
    clear h0
    go_wp2_with fail
    go_ret
    exact ⟨by rw [hb]; rfl, below_next HB0.out b2⟩
end Go.Proofs.YtneinkpfhkojgaaGreatDoor
/-
  A drawn region by what holds of each slot: values, sequences that have a property, tables that have one.
-/
namespace Go.Proofs.YtneinkpfhkojgaaGreatDoor
open Go.RowKit ND

/-- What is said of a slot. -/
inductive SpecQ where
  | val (v : Value)
  | lst (p : List Int → Prop)
  | tab (p : Tab → Prop)
  | two (n : Int) (p : List Int → Prop)
def SpecQ.ok : SpecQ → Value → World → Prop
  | .val u, v, _ => v = u
  | .lst p, v, w => ∃ ys, Ints w w.heap.size .i64 v ys ∧ p ys
  | .tab p, v, w => ∃ (t : Tv) (T : Tab), v = t.val ∧ TabR w w.heap.size t T ∧ p T
  | .two n p, v, w => ∃ u ys, v = .tuple #[u, .int .i64 n] ∧ Ints w w.heap.size .i64 u ys ∧ p ys
def RQ (specs : List SpecQ) (i : Nat) (v : Value) (w : World) : Prop := ∀ s, specs[i]? = some s → s.ok v w
theorem SpecQ.later {s : SpecQ} {v : Value} {w w' : World} (h : s.ok v w) (hb : Below w.heap.size w w') : s.ok v w' := by
  cases s with
  | val u => exact h
  | lst p => obtain ⟨ys, h1, h2⟩ := h; exact ⟨ys, h1.later hb, h2⟩
  | tab p => obtain ⟨t, T, e, h1, h2⟩ := h; exact ⟨t, T, e, h1.later hb, h2⟩
  | two n p => obtain ⟨u, ys, e, h1, h2⟩ := h; exact ⟨u, ys, e, h1.later hb, h2⟩
theorem RQ.later {specs : List SpecQ} {i : Nat} {v : Value} {w w' : World} (h : RQ specs i v w) (hb : Below w.heap.size w w') : RQ specs i v w' := fun s hs => SpecQ.later (h s hs) hb

/-- The obligation of one operation. -/
def ObQ (P : Program) (ops : Array Oper) (n : Nat) (ds : List Deferred) (fixed : List (Tmp × Value)) (C : World → Prop) (specs : List SpecQ) (Q : Exit → Act → World → Prop) (i : Nat) (o : Oper) : Prop :=
  ∀ a w, C w → FS n ds fixed a → Deps .any ops (RQ specs) o a w → ∀ K : Act → World → Prop, (∀ v w', RQ specs i v w' → C w' → Below w.heap.size w w' → K (a.put o.dst v) w') →
    if Region.wanted o (yielded ops a.tmps) = true then o.wp P a w K Q else K (a.put o.dst undef) w

theorem dep_q {ops : Array Oper} {specs : List SpecQ} {k : Nat} {o : Oper} {a : Act} {w : World} (ho : ops[k]? = some o) (hd : Deps .any ops (RQ specs) o a w) (j : Nat) (d : Tmp) (s : SpecQ)
    (h1 : ((ops[k]?).map fun o => o.after.any fun e => Region.binds .any e && e.on == j) = some true) (h2 : ((ops[j]?).map (·.dst)) = some (some d)) (h3 : specs[j]? = some s) : ∃ v, a.tmps[d]? = some v ∧ s.ok v w := by
  have h4 := get_op (fun o => o.after.any fun e => Region.binds .any e && e.on == j) ho h1
  obtain ⟨e, he, hb⟩ := Array.any_eq_true'.1 h4
  rw [Bool.and_eq_true, beq_iff_eq] at hb
  cases hj : ops[j]? with
  | none => rw [hj] at h2; cases h2
  | some oj =>
    rw [hj] at h2
    obtain ⟨v, hv, hr⟩ := hd e he hb.1 oj d (by rw [hb.2, hj]) (by simpa using h2)
    exact ⟨v, hv, hr s (by rw [hb.2]; exact h3)⟩

theorem rq_of {specs : List SpecQ} {k : Nat} {s0 : SpecQ} {v : Value} {w : World} (h : specs[k]? = some s0) (hok : s0.ok v w) : RQ specs k v w := fun s hs => by
  rw [h] at hs; cases hs; exact hok
theorem end_q {ops : Array Oper} {specs : List SpecQ} {a : Act} {w : World} (hr : ∀ (i : Nat) (o : Oper) (d : Tmp), ops[i]? = some o → o.dst = some d → ∃ v, a.tmps[d]? = some v ∧ RQ specs i v w) (i : Nat) (d : Tmp) (s : SpecQ)
    (h2 : ((ops[i]?).map (·.dst)) = some (some d)) (h3 : specs[i]? = some s) : ∃ v, a.tmps[d]? = some v ∧ s.ok v w := by
  cases hj : ops[i]? with
  | none => rw [hj] at h2; cases h2
  | some oj =>
    rw [hj] at h2
    obtain ⟨v, hv, h⟩ := hr i oj d hj (by simpa using h2)
    exact ⟨v, hv, h s h3⟩

theorem wp_region_q {P : Program} {id n : Nat} {ops : Array Oper} {Q : Exit → Act → World → Prop} {a : Act} {w : World} {ds : List Deferred} {fixed : List (Tmp × Value)} {C : World → Prop} {specs : List SpecQ} (hm : P.follows .mixedOrders = true)
    (hck : checksB ops n (fixed.map (·.1)) = true) (hf : FS n ds fixed a) (hc : C w.drew)
    (hob : ∀ (i : Nat) (o : Oper), ops[i]? = some o → ObQ P ops n ds fixed C specs Q i o)
    (hend : ∀ a w, C w → FS n ds fixed a → (∀ (i : Nat) (o : Oper) (d : Tmp), ops[i]? = some o → o.dst = some d → ∃ v, a.tmps[d]? = some v ∧ RQ specs i v w) → Q .normal a w) : (Code.region id ops true).wp P Q a w := by
  unfold checksB at hck
  rw [Bool.and_eq_true, Bool.and_eq_true, List.all_eq_true] at hck
  obtain ⟨⟨h1, h2⟩, h3⟩ := hck
  have hat : ∀ {i : Nat} {o : Oper}, ops[i]? = some o → ops.toList[i]? = some o := fun h => by simpa using h
  have hin : ∀ {i : Nat} {o : Oper} {d : Tmp}, ops[i]? = some o → o.dst = some d → d < n ∧ d ∉ fixed.map (·.1) := fun h hd => by
    have := h3 _ (List.mem_of_getElem? (hat h))
    rw [hd] at this
    simpa using this
  refine wp_region_any hm (wpAny_inv (F := FS n ds fixed) (C := C) (R := RQ specs) ?_ ?_ ?_ ?_ (fun i v w w' h hb => RQ.later h hb) ?_ hend _ _ _ _ ⟨by simp, hc, hf, fun i o d _ hl _ => ?_⟩ ?_)
  · intro i o ho e he _
    have := lowB_at h1 (hat ho) e he
    omega
  · intro i j o o' d hi hj hij hd hd'
    have hi' : (ops.toList.map (·.dst))[i]? = some (some d) := by rw [List.getElem?_map, hat hi]; simp [hd]
    have hj' : (ops.toList.map (·.dst))[j]? = some (some d) := by rw [List.getElem?_map, hat hj]; simp [hd']
    rcases Nat.lt_or_gt_of_ne hij with h | h
    · exact nodupB_at h2 h hi' hj'
    · exact nodupB_at h2 h hj' hi'
  · intro i o a v ho ⟨q1, q2, q3⟩
    cases hd : o.dst with
    | none => exact ⟨q1, q2, q3⟩
    | some d =>
      obtain ⟨_, hn⟩ := hin ho hd
      refine ⟨by simpa [Act.put] using q1, q2, fun p hp => ?_⟩
      have hne : d ≠ p.1 := fun e => hn (e ▸ List.mem_map_of_mem hp)
      simp [Act.put, hne, q3 p hp]
  · intro i o d a ho hd hf
    rw [hf.1]; exact (hin ho hd).1
  · intro i o ho a w hc hf hd K hK
    refine hob i o ho a w hc hf hd K fun v w' hr hc' hb => hK v w' (fun _ _ => hr) hc' hb
  · rw [Array.getD_eq_getD_getElem?, Array.getElem?_replicate] at hl
    split at hl <;> simp at hl
  · unfold unl
    exact Nat.le_trans List.countP_le_length (by simp)

section
variable {P : Program} {f : FuncId} {tys : Array TypeId} {a : Act} {o : Oper} {w : World}
theorem enter0 (ho : o.op = .call { callee := .value (.func f), args := #[], argTypes := tys })
    (eg : ∀ args w, (callFunc f args).run P w = .ok (.enter f args) w) : (execOp a.eval o).run P w = .ok (.enter f #[]) w := by
  unfold execOp
  rw [ho]
  have hf : a.eval (.func f) = .func (.func f) #[] #[] := rfl
  simp [resolve, invoke, Deferred.ofValue, hf, eg]
theorem enter1 {x : Operand} {vx : Value} (ho : o.op = .call { callee := .value (.func f), args := #[x], argTypes := tys }) (hx : a.eval x = vx)
    (eg : ∀ args w, (callFunc f args).run P w = .ok (.enter f args) w) : (execOp a.eval o).run P w = .ok (.enter f #[vx]) w := by
  unfold execOp
  rw [ho]
  have hf : a.eval (.func f) = .func (.func f) #[] #[] := rfl
  simp [resolve, invoke, Deferred.ofValue, hx, hf, eg]
theorem enter3 {x y z : Operand} {vx vy vz : Value} (ho : o.op = .call { callee := .value (.func f), args := #[x, y, z], argTypes := tys }) (hx : a.eval x = vx) (hy : a.eval y = vy) (hz : a.eval z = vz)
    (eg : ∀ args w, (callFunc f args).run P w = .ok (.enter f args) w) : (execOp a.eval o).run P w = .ok (.enter f #[vx, vy, vz]) w := by
  unfold execOp
  rw [ho]
  have hf : a.eval (.func f) = .func (.func f) #[] #[] := rfl
  simp [resolve, invoke, Deferred.ofValue, hx, hy, hz, hf, eg]
theorem enter4 {x y z q : Operand} {vx vy vz vq : Value} (ho : o.op = .call { callee := .value (.func f), args := #[x, y, z, q], argTypes := tys }) (hx : a.eval x = vx) (hy : a.eval y = vy) (hz : a.eval z = vz) (hq : a.eval q = vq)
    (eg : ∀ args w, (callFunc f args).run P w = .ok (.enter f args) w) : (execOp a.eval o).run P w = .ok (.enter f #[vx, vy, vz, vq]) w := by
  unfold execOp
  rw [ho]
  have hf : a.eval (.func f) = .func (.func f) #[] #[] := rfl
  simp [resolve, invoke, Deferred.ofValue, hx, hy, hz, hq, hf, eg]
end
theorem unwanted_at {ops : Array Oper} {k g : Nat} {b c : Bool} {o : Oper} {a : Act} {d : Tmp} {v : Value} (ho : ops[k]? = some o) (hg : ((ops[k]?).map (·.guard)) = some (some (g, b))) (h2 : ((ops[g]?).map (·.dst)) = some (some d)) (hv : a.tmps[d]? = some v) (he : v = .bool c) (hc : c ≠ b) : ¬ Region.wanted o (yielded ops a.tmps) = true := by
  subst he
  cases hj : ops[g]? with
  | none => rw [hj] at h2; cases h2
  | some og =>
    rw [hj] at h2
    have hd : og.dst = some d := by simpa using h2
    have hgo := get_op (·.guard) ho hg
    cases b <;> cases c <;> first | exact absurd rfl hc | simp [Region.wanted, hgo, yielded, hj, hd, hv]
end Go.Proofs.YtneinkpfhkojgaaGreatDoor
