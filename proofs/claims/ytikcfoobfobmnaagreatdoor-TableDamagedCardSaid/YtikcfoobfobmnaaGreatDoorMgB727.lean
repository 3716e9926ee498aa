/-
  Merged texts: lemmas and walks that the last text of this claim leans on.
-/
import Derived.Test.YtikcfoobfobmnaaGreatDoorMgB725
import Derived.Test.YtikcfoobfobmnaaGreatDoorMgB726
/-
  The walk through the reference's Check.
-/
namespace Go.Proofs.YtikcfoobfobmnaaGreatDoor
open Go.RowKit ND

/-- Two rows that may not stand beside each other. -/
def conflB (T : Tab) (a b : Mp) : Bool := T.comp a.1 && (T.comp b.1 && decide (a.2 = b.2))
theorem nodup_next {T : Tab} {i : Nat} {a : Mp} (hx : T.decomps[i]? = some a) (h : (pairsTo T i).Nodup) (hc : ∀ j b, j < i → T.decomps[j]? = some b → conflB T a b = false) : (pairsTo T (i + 1)).Nodup := by
  cases hca : T.comp a.1
  · rw [pairsTo_no hx hca]; exact h
  · rw [pairsTo_yes hx hca, List.nodup_append]
    refine ⟨h, by simp, fun x hx' y hy e => ?_⟩
    rw [List.mem_singleton] at hy
    subst hy; subst e
    obtain ⟨b, hb, he⟩ := List.mem_map.1 hx'
    obtain ⟨hb1, hb2⟩ := List.mem_filter.1 hb
    obtain ⟨j, hj, hje⟩ := List.mem_iff_getElem.1 hb1
    have hj1 : j < i := by rw [List.length_take] at hj; omega
    have hj2 : T.decomps[j]? = some b := by
      rw [← hje, List.getElem_take]
      exact List.getElem?_eq_getElem _
    have := hc j b hj1 hj2
    unfold conflB at this
    rw [hca, hb2, decide_eq_true he.symm] at this
    cases this
theorem nodup_fail {T : Tab} {i j : Nat} {a b : Mp} (hx : T.decomps[i]? = some a) (hj : j < i) (hb : T.decomps[j]? = some b) (h : conflB T a b = true) : T.rule8 = false := by
  unfold conflB at h
  simp only [Bool.and_eq_true, decide_eq_true_eq] at h
  unfold Tab.rule8
  rw [decide_eq_false_iff_not]
  intro hn
  have h1 := hn.sublist (pairsTo_sub T (i + 1))
  rw [pairsTo_yes hx h.1, List.nodup_append] at h1
  refine h1.2.2 b.2 ?_ a.2 (List.mem_singleton.2 rfl) h.2.2.symm
  refine List.mem_map_of_mem (List.mem_filter.2 ⟨?_, h.2.1⟩)
  obtain ⟨hj', he⟩ := List.getElem?_eq_some_iff.1 hb
  exact List.mem_iff_getElem.2 ⟨j, by rw [List.length_take]; have := (List.getElem?_eq_some_iff.1 hx).1; omega, by rw [List.getElem_take]; exact he⟩
theorem nodup_end {T : Tab} (h : (pairsTo T T.decomps.length).Nodup) : T.rule8 = true := by
  rw [pairsTo_all] at h; unfold Tab.rule8; exact decide_eq_true h
theorem comp_to {T : Tab} {c : Int} {tg : List Int} (hf : findL T.decomps c = tg) (h : T.comp c = true) : ∃ a b, tg = [a, b] := by
  obtain ⟨a, b, he⟩ := comp_form h; exact ⟨a, b, hf.symm.trans he⟩

/-- The two cells of a mapping in a block, and a list's first cells, in every world that may come within a region. -/
theorem grown2 {w : World} {g : Nat} {e : TypeId} {u v : Value} (h : Blk w g e #[u, v]) : (∀ d os, (Go.Sort.grow (redrawn w d) os).cell? ⟨g, 0, none⟩ = some u) ∧ (∀ d os, (Go.Sort.grow (redrawn w d) os).cell? ⟨g, 1, none⟩ = some v) :=
  ⟨cell_regrown (h.at_ rfl), cell_regrown (h.at_ rfl)⟩

set_option maxRecDepth 100000 in
set_option maxHeartbeats 16000000 in
theorem check_ref (t : Tv) (T : Tab) (w : World) (ht : TabR w w.heap.size t T) :
    Calls Tryz.prog 15 #[t.val] w fun e w' => e = .returned (.int .i64 T.check) ∧ Below w.heap.size w w' := by
  obtain ⟨tc, htc⟩ : ∃ tc, tc = t.cells := ⟨_, rfl⟩
  have HT := Lib.hid (fun W (h : Below w.heap.size w W) => ht.later h)
  have H0 := Lib.hid (fun W h => small_any t T W h)
  have H1 := Lib.hid (fun W h => placed_any t T W h)
  have H2 := Lib.hid (fun W h => ranged_any t T W h)
  have H3 := Lib.hid (fun W h => sized_any t T W h)
  have H4 := Lib.hid (fun (hs : Shape T) W h => refMapped_any t T W h hs.c5)
  have H5 := Lib.hid (fun (hs : Shape T) (hz : Sized T) W h => finite_any t T W h hz.nd hs.ld)
  have HFD := Lib.hid (fun c W (h : TabR W W.heap.size t T) => refFind_any t.c9 T.decomps c W h.r9)
  have HFP := Lib.hid (fun c W (h : TabR W W.heap.size t T) => refFind_any t.c11 T.prototypes c W h.r11)
  have HIG := Lib.hid (fun c W h => refIgnorable_any t T c W h)
  have HCM := Lib.hid (fun (hs : Shape T) (hz : Sized T) (he : Ends T) c W h => refComposable_any t T hs hz.nd he T.decomps.length c W h (he c).1)
  have hex := ht.r10
  have hdc := ht.r9
  have hpr := ht.r11
  obtain ⟨A0, A1, A2, A3, A4, A5, A6, A7, A8, A9, A10, A11, k0, k1, k2, k3, k4, k5, k6, k7, k8, k9, k10, k11, rfl⟩ := ht.shape
  obtain ⟨_, _, he, ha1, ha2, _, hexc⟩ := hex
  cases he
  obtain ⟨_, _, he, hb1, hb2, _, hdcc⟩ := hdc
  cases he
  obtain ⟨_, _, he, hc1, hc2, _, hprc⟩ := hpr
  cases he
  have hxl : T.excluded.length ≤ 9223372036854775807 := by unfold maxLen at ha2; omega
  have hdl : T.decomps.length ≤ 9223372036854775807 := by unfold maxLen at hb2; omega
  have hpl : T.prototypes.length ≤ 9223372036854775807 := by unfold maxLen at hc2; omega
  have HEX := Lib.hid hexc
  have HDC := Lib.hid hdcc
  have HPR := Lib.hid hprc
  have HTC := Lib.hid htc
  have HK9 := Lib.hid (And.intro hb1 hb2)
  clear ht htc hexc hdcc hprc ha1 ha2 hb1 hb2 hc1 hc2
  obtain ⟨R, hR⟩ : ∃ R, R = T.check := ⟨_, rfl⟩
  rw [← hR]
  have HR := Lib.hid hR
  clear hR
  have HW0 := Lib.hid (show Below w.heap.size w (w.alloc (.cells tc 29)) from (Below.refl _ _).alloc (Nat.le_refl _) _)
  have HB0 := Lib.hid (Blk.new w 29 tc)
  have HH0 := Lib.hid (HoldTo.zero T)
  rw [HTC.out] at HW0 HB0
  go_enter Tryz.func15, Tryz.ntmps15
  go_wp2_with fail
  generalize World.alloc w _ = v0 at *
  have HB0' : Hid (Blk v0 w.heap.size 29 tc) := Lib.hid (by rw [HTC.out]; exact HB0.out)
  clear HB0
  have HP0 := Lib.hid (HH0.out.parts (by omega))
  have HCA := Lib.hid (H0.out _ (HT.out _ HW0.out))
  obtain ⟨x0, x1, x2, x3, x4, x5, x6, x7, x8, x9, x10, x11⟩ := (show Blk _ _ _ #[_, _, _, _, _, _, _, _, _, _, _, _] from by have h := HB0'.out; rw [HTC.out] at h; exact h).tab
  cases hr : T.rule1
  · rw [hr] at HCA
    have HN := Lib.hid (HR.out.trans (HH0.out.fail (by show some T.rule1 = some false; rw [hr])))
    clear hr
    go_wp2_with fail
    refine HCA.out.mono ?_
    rintro e v1 ⟨rfl, b2⟩
    clear x0 x1 x2 x3 x4 x5 x6 x7 x8 x9 x10 x11
    go_wp2_with fail
    go_ret
    rw [HN.out]
    exact ⟨rfl, below_next HW0.out b2⟩
  rw [hr] at HCA
  have HH1 := Lib.hid (HH0.out.next (by show some T.rule1 = some true; rw [hr]))
  clear hr
  go_wp2_with fail
  refine HCA.out.mono ?_
  rintro e v1 ⟨rfl, b2⟩
  have HB1' := Lib.hid (HB0'.out.later b2)
  have HW1 := Lib.hid (below_next HW0.out b2)
  clear HB0' HW0 HP0 HH0 HCA b2
  clear x0 x1 x2 x3 x4 x5 x6 x7 x8 x9 x10 x11
  have HP1 := Lib.hid (HH1.out.parts (by omega))
  have HCA := Lib.hid (H1.out _ (HT.out _ HW1.out))
  obtain ⟨x0, x1, x2, x3, x4, x5, x6, x7, x8, x9, x10, x11⟩ := (show Blk _ _ _ #[_, _, _, _, _, _, _, _, _, _, _, _] from by have h := HB1'.out; rw [HTC.out] at h; exact h).tab
  cases hr : T.rule2
  · rw [hr] at HCA
    have HN := Lib.hid (HR.out.trans (HH1.out.fail (by show some T.rule2 = some false; rw [hr])))
    clear hr
    go_wp2_with fail
    refine HCA.out.mono ?_
    rintro e v2 ⟨rfl, b2⟩
    clear x0 x1 x2 x3 x4 x5 x6 x7 x8 x9 x10 x11
    go_wp2_with fail
    go_ret
    rw [HN.out]
    exact ⟨rfl, below_next HW1.out b2⟩
  rw [hr] at HCA
  have HH2 := Lib.hid (HH1.out.next (by show some T.rule2 = some true; rw [hr]))
  clear hr
  go_wp2_with fail
  refine HCA.out.mono ?_
  rintro e v2 ⟨rfl, b2⟩
  have HB2' := Lib.hid (HB1'.out.later b2)
  have HW2 := Lib.hid (below_next HW1.out b2)
  clear HB1' HW1 HP1 HH1 HCA b2
  clear x0 x1 x2 x3 x4 x5 x6 x7 x8 x9 x10 x11
  have HP2 := Lib.hid (HH2.out.parts (by omega))
  have HCA := Lib.hid (H2.out _ (HT.out _ HW2.out))
  obtain ⟨x0, x1, x2, x3, x4, x5, x6, x7, x8, x9, x10, x11⟩ := (show Blk _ _ _ #[_, _, _, _, _, _, _, _, _, _, _, _] from by have h := HB2'.out; rw [HTC.out] at h; exact h).tab
  cases hr : T.rule3
  · rw [hr] at HCA
    have HN := Lib.hid (HR.out.trans (HH2.out.fail (by show some T.rule3 = some false; rw [hr])))
    clear hr
    go_wp2_with fail
    refine HCA.out.mono ?_
    rintro e v3 ⟨rfl, b2⟩
    clear x0 x1 x2 x3 x4 x5 x6 x7 x8 x9 x10 x11
    go_wp2_with fail
    go_ret
    rw [HN.out]
    exact ⟨rfl, below_next HW2.out b2⟩
  rw [hr] at HCA
  have HH3 := Lib.hid (HH2.out.next (by show some T.rule3 = some true; rw [hr]))
  clear hr
  go_wp2_with fail
  refine HCA.out.mono ?_
  rintro e v3 ⟨rfl, b2⟩
  have HB3' := Lib.hid (HB2'.out.later b2)
  have HW3 := Lib.hid (below_next HW2.out b2)
  clear HB2' HW2 HP2 HH2 HCA b2
  clear x0 x1 x2 x3 x4 x5 x6 x7 x8 x9 x10 x11
  have HP3 := Lib.hid (HH3.out.parts (by omega))
  have HCA := Lib.hid (H3.out _ (HT.out _ HW3.out))
  obtain ⟨x0, x1, x2, x3, x4, x5, x6, x7, x8, x9, x10, x11⟩ := (show Blk _ _ _ #[_, _, _, _, _, _, _, _, _, _, _, _] from by have h := HB3'.out; rw [HTC.out] at h; exact h).tab
  cases hr : T.rule4
  · rw [hr] at HCA
    have HN := Lib.hid (HR.out.trans (HH3.out.fail (by show some T.rule4 = some false; rw [hr])))
    clear hr
    go_wp2_with fail
    refine HCA.out.mono ?_
    rintro e v4 ⟨rfl, b2⟩
    clear x0 x1 x2 x3 x4 x5 x6 x7 x8 x9 x10 x11
    go_wp2_with fail
    go_ret
    rw [HN.out]
    exact ⟨rfl, below_next HW3.out b2⟩
  rw [hr] at HCA
  have HH4 := Lib.hid (HH3.out.next (by show some T.rule4 = some true; rw [hr]))
  clear hr
  go_wp2_with fail
  refine HCA.out.mono ?_
  rintro e v4 ⟨rfl, b2⟩
  have HB4' := Lib.hid (HB3'.out.later b2)
  have HW4 := Lib.hid (below_next HW3.out b2)
  clear HB3' HW3 HP3 HH3 HCA b2
  clear x0 x1 x2 x3 x4 x5 x6 x7 x8 x9 x10 x11
  have HP4 := Lib.hid (HH4.out.parts (by omega))
  have HCA := Lib.hid (H4.out (Shape.of (HP4.out.1 (by omega)) (HP4.out.2.1 (by omega))) _ (HT.out _ HW4.out))
  obtain ⟨x0, x1, x2, x3, x4, x5, x6, x7, x8, x9, x10, x11⟩ := (show Blk _ _ _ #[_, _, _, _, _, _, _, _, _, _, _, _] from by have h := HB4'.out; rw [HTC.out] at h; exact h).tab
  cases hr : T.rule5
  · rw [hr] at HCA
    have HN := Lib.hid (HR.out.trans (HH4.out.fail (by show some T.rule5 = some false; rw [hr])))
    clear hr
    go_wp2_with fail
    refine HCA.out.mono ?_
    rintro e v5 ⟨rfl, b2⟩
    clear x0 x1 x2 x3 x4 x5 x6 x7 x8 x9 x10 x11
    go_wp2_with fail
    go_ret
    rw [HN.out]
    exact ⟨rfl, below_next HW4.out b2⟩
  rw [hr] at HCA
  have HH5 := Lib.hid (HH4.out.next (by show some T.rule5 = some true; rw [hr]))
  clear hr
  go_wp2_with fail
  refine HCA.out.mono ?_
  rintro e v5 ⟨rfl, b2⟩
  have HB5' := Lib.hid (HB4'.out.later b2)
  have HW5 := Lib.hid (below_next HW4.out b2)
  clear HB4' HW4 HP4 HH4 HCA b2
  clear x0 x1 x2 x3 x4 x5 x6 x7 x8 x9 x10 x11
  have HP5 := Lib.hid (HH5.out.parts (by omega))
  have HCA := Lib.hid (H5.out (Shape.of (HP5.out.1 (by omega)) (HP5.out.2.1 (by omega))) (Sized.of (HP5.out.2.2.2.1 (by omega))) _ (HT.out _ HW5.out))
  obtain ⟨x0, x1, x2, x3, x4, x5, x6, x7, x8, x9, x10, x11⟩ := (show Blk _ _ _ #[_, _, _, _, _, _, _, _, _, _, _, _] from by have h := HB5'.out; rw [HTC.out] at h; exact h).tab
  cases hr : T.rule6
  · rw [hr] at HCA
    have HN := Lib.hid (HR.out.trans (HH5.out.fail (by show some T.rule6 = some false; rw [hr])))
    clear hr
    go_wp2_with fail
    refine HCA.out.mono ?_
    rintro e v6 ⟨rfl, b2⟩
    clear x0 x1 x2 x3 x4 x5 x6 x7 x8 x9 x10 x11
    go_wp2_with fail
    go_ret
    rw [HN.out]
    exact ⟨rfl, below_next HW5.out b2⟩
  rw [hr] at HCA
  have HH6 := Lib.hid (HH5.out.next (by show some T.rule6 = some true; rw [hr]))
  clear hr
  go_wp2_with fail
  refine HCA.out.mono ?_
  rintro e v6 ⟨rfl, b2⟩
  have HB6' := Lib.hid (HB5'.out.later b2)
  have HW6 := Lib.hid (below_next HW5.out b2)
  clear HB5' HW5 HP5 HH5 HCA b2
  clear x0 x1 x2 x3 x4 x5 x6 x7 x8 x9 x10 x11
  have HP6 := Lib.hid (HH6.out.parts (by omega))
  have HSH := Lib.hid (Shape.of (HP6.out.1 (by omega)) (HP6.out.2.1 (by omega)))
  have HSZ := Lib.hid (Sized.of (HP6.out.2.2.2.1 (by omega)))
  have HEN := Lib.hid (Ends.of HSH.out.ld (HP6.out.2.2.2.2.2.1 (by omega)))
  have HCMP := Lib.hid (fun c W h => HCM.out HSH.out HSZ.out HEN.out c W h)
  have HFK := Lib.hid (fun i m (h : T.decomps[i]? = some m) => (findL_at (fun k a hk ha => keysB_sort HSH.out.kd k i a m hk ha h) h rfl : findL T.decomps m.1 = m.2))
  clear H0 H1 H2 H3 H4 H5 HCM HP6
  have HX0 : Hid ((T.excluded.drop 0).all T.exOk = T.rule7) := Lib.hid rfl
  have x10 := HB6'.out
  rw [HTC.out] at x10
  have x10 := x10.at_ (i := 10) rfl
  go_wp2_with fail
  clear x10
  go_loopw [40] (fun i wr => ∃ (j : Nat), j ≤ T.excluded.length ∧ i = .int .i64 j ∧ Hid ((T.excluded.drop j).all T.exOk = T.rule7) ∧ Below w.heap.size w wr ∧ Hid (Blk wr w.heap.size 29 tc)) (fun i _ => T.excluded.length - (intOf i).toNat)
  case atStart => exact ⟨0, by omega, rfl, HX0, HW6.out, HB6'⟩
  case round =>
    obtain ⟨j, hj, rfl, HS, hbel, HB⟩ := hrel
    clear HX0 HW6 HB6'
    by_cases hjl : j < T.excluded.length
    · obtain ⟨x, hxj, _⟩ := get_el hjl
      obtain ⟨aj, rfl, ha, d0⟩ := HEX.out j _ hxj
      have e0 := (hbel.cell (p := aj.add j) (by rw [block_of_add]; exact ha)).trans d0
      have x9 := (show Blk _ _ _ #[_, _, _, _, _, _, _, _, _, _, _, _] from by have h := HB.out; rw [HTC.out] at h; exact h).at_ (i := 9) rfl
      have HX := Lib.hid hxj
      have HCA := Lib.hid (HFD.out x _ (HT.out _ hbel))
      clear d0 hxj ha
      have r0 : (0 : Int) ≤ (j : Int) := by omega
      have r1 : (j : Int) < (T.excluded.length : Int) := by omega
      by_cases hn : findL T.decomps x = []
      · have HN := Lib.hid (HR.out.trans (HH6.out.fail (by show some T.rule7 = some false; rw [each_no HX.out HS.out (show T.exOk x = false from decide_eq_false (fun h => h hn))])))
        rw [hn] at HCA
        have q3 : ([] : List Int).length = 0 := rfl
        clear hn
        go_wp2_with fail
        refine HCA.out.mono ?_
        rintro e w2 ⟨u, rfl, hu, b2⟩
        obtain ⟨Au, cu, rfl, _⟩ := hu
        clear x9 e0 HB
        go_wp2_with fail
        go_ret
        rw [HN.out]
        exact ⟨rfl, below_next hbel b2⟩
      · have HN := Lib.hid (each_go HX.out HS.out (show T.exOk x = true from decide_eq_true hn))
        have hp := length_pos_ne hn
        have q3 : (((findL T.decomps x).length : Int) == 0) = false := by rw [beq_eq_false_iff_ne]; omega
        clear hn hp
        go_wp2_with fail
        refine HCA.out.mono ?_
        rintro e w2 ⟨u, rfl, hu, b2⟩
        have HB2 := Lib.hid (HB.out.later b2)
        obtain ⟨Au, cu, rfl, _⟩ := hu
        clear x9 e0 HB
        go_wp2_with fail
        go_roundw
        case rel => exact ⟨j + 1, by omega, by go_num, HN, below_next hbel b2, HB2⟩
        case measure => simp [intOf]; omega
    · have HH7 := Lib.hid (HH6.out.next (by show some T.rule7 = some true; rw [each_end (by omega) HS.out]))
      have x9 := (show Blk _ _ _ #[_, _, _, _, _, _, _, _, _, _, _, _] from by have h := HB.out; rw [HTC.out] at h; exact h).at_ (i := 9) rfl
      clear HS HEX HH6
      go_wp2_with fail
      clear x9
      go_loopw [54] (fun i wr => ∃ (j : Nat), j ≤ T.decomps.length ∧ i = .int .i64 j ∧ Hid ((pairsTo T j).Nodup) ∧ Below w.heap.size w wr ∧ Hid (Blk wr w.heap.size 29 tc)) (fun i _ => T.decomps.length - (intOf i).toNat)
      case atStart => exact ⟨0, by omega, rfl, Lib.hid List.nodup_nil, hbel, HB⟩
      case round =>
        obtain ⟨j, hj, rfl, HS, hbel, HB⟩ := hrel
        by_cases hjl : j < T.decomps.length
        · obtain ⟨⟨ca, ta⟩, hxj, _⟩ := get_el hjl
          obtain ⟨aj, sv, rfl, ha, d0, d1, hta⟩ := HDC.out j _ hxj
          simp only at d0 d1 hta
          obtain ⟨Aa, cpa, rfl, _, _, _, hcla⟩ := id hta
          have HTA := Lib.hid hcla
          obtain ⟨e0, e1⟩ := map_cells hbel ha d0 d1
          have HX := Lib.hid hxj
          have hbelw := hbel.alloc hbel.size (.cells #[.int .i64 ca, .slice Aa ta.length cpa] 51)
          have HB' := Lib.hid (HB.out.alloc (.cells #[.int .i64 ca, .slice Aa ta.length cpa] 51))
          have HVA := Lib.hid (Blk.new wr 51 #[.int .i64 ca, .slice Aa ta.length cpa])
          have x9 := (show Blk _ _ _ #[_, _, _, _, _, _, _, _, _, _, _, _] from by have h := HB'.out; rw [HTC.out] at h; exact h).at_ (i := 9) rfl
          have s0 : (0 : Int) ≤ (j : Int) := by omega
          have s1 : (j : Int) ≤ (k9 : Int) := by have := HK9.out.1; omega
          have s2 : (j : Int) < (T.decomps.length : Int) := by omega
          obtain ⟨ga, hga⟩ : ∃ ga, ga = wr.heap.size := ⟨_, rfl⟩
          have HGA := Lib.hid hga
          have HFA := Lib.hid (HFK.out j _ hxj)
          simp only at HFA
          have HWA := Lib.hid hbelw
          have HLT : Hid (ga < (wr.alloc (.cells #[.int .i64 ca, .slice Aa ta.length cpa] 51)).heap.size) := Lib.hid (by rw [hga]; simp)
          rw [← hga] at HVA
          clear d0 d1 hxj hta hcla hga
          go_wp2_with fail
          clear x9 e0 e1
          generalize World.alloc _ (.cells #[.int .i64 ca, .slice Aa ta.length cpa] 51) = wo at *
          rw [← HGA.out]
          go_loopw [64] (fun i wr => ∃ (q : Nat), q ≤ j ∧ i = .int .i64 q ∧ Hid (∀ i b, i < q → T.decomps[i]? = some b → conflB T (ca, ta) b = false) ∧ Below w.heap.size w wr ∧ Hid (Blk wr w.heap.size 29 tc) ∧ Hid (Blk wr ga 51 #[.int .i64 ca, .slice Aa ta.length cpa])) (fun i _ => j - (intOf i).toNat)
          case atStart => exact ⟨0, by omega, rfl, Lib.hid (fun i b h => by omega), hbelw, HB', HVA⟩
          case round =>
            obtain ⟨q, hq, rfl, HSq, hbelq, HBq, HAq⟩ := hrel
            by_cases hql : q < j
            · obtain ⟨⟨cb, tb⟩, hxq, _⟩ := get_el (xs := T.decomps) (k := q) (by omega)
              obtain ⟨aq, sv, he, haq, d0, d1, htb⟩ := HDC.out q _ hxq
              cases he
              simp only at d0 d1 htb
              obtain ⟨Ab, cpb, rfl, _, _, _, hclb⟩ := id htb
              have HTB := Lib.hid hclb
              obtain ⟨e0, e1⟩ := map_cells hbelq haq d0 d1
              have HXq := Lib.hid hxq
              have hbelz := hbelq.alloc hbelq.size (.cells #[.int .i64 cb, .slice Ab tb.length cpb] 51)
              have HBz := Lib.hid (HBq.out.alloc (.cells #[.int .i64 cb, .slice Ab tb.length cpb] 51))
              have HAz := Lib.hid (HAq.out.alloc (.cells #[.int .i64 cb, .slice Ab tb.length cpb] 51))
              have HVb := Lib.hid (Blk.new wr 51 #[.int .i64 cb, .slice Ab tb.length cpb])
              have HFB := Lib.hid (HFK.out q _ hxq)
              simp only at HFB
              have r0 : (0 : Int) ≤ (q : Int) := by omega
              have r1 : (q : Int) < (j : Int) := by omega
              clear d0 d1 hxq htb hclb haq
              go_wp2_with fail
              generalize World.alloc _ (.cells #[.int .i64 cb, .slice Ab tb.length cpb] 51) = wz at *
              obtain ⟨gb, hgb⟩ : ∃ gb, gb = wr.heap.size := ⟨_, rfl⟩
              rw [← hgb] at HVb
              rw [← hgb]
              clear hgb e0 e1
              have HCW := Lib.hid (fun c W (h : Below wz.heap.size wz W) => HCMP.out c W (HT.out W (below_next hbelz h)))
              cases hca : T.comp ca
              · have HCA := Lib.hid (HCW.out ca)
                rw [show T.compF T.decomps.length ca = false from hca] at HCA
                have HN : Hid (∀ i b, i < q + 1 → T.decomps[i]? = some b → conflB T (ca, ta) b = false) := Lib.hid (fun i b _ _ => by unfold conflB; simp only; rw [hca]; rfl)
                clear hca HCW
                obtain ⟨x0, x1, x2, x3, x4, x5, x6, x7, x8, x9, x10, x11⟩ := (show Blk _ _ _ #[_, _, _, _, _, _, _, _, _, _, _, _] from by have h := HBz.out; rw [HTC.out] at h; exact h).tabG
                obtain ⟨v0, v1⟩ := grown2 HAz.out
                obtain ⟨y0, y1⟩ := grown2 HVb.out
                refine wp_region_quiet_below (by kernel_rfl) (by kernel_rfl) ?_
                repeat (go_big_quiet_step ((go_at_call 50; exact quiet_t (fun W hW => HCA.out W hW))))
                refine wpQuiet_nil ?_
                rintro _ ⟨⟨dq, osq⟩, rfl⟩
                clear x0 x1 x2 x3 x4 x5 x6 x7 x8 x9 x10 x11 v0 v1 y0 y1
                go_wp2_with fail
                go_roundw
                case rel => exact ⟨q + 1, by omega, by go_num, HN, below_next hbelz (below_regrown _ dq osq), Lib.hid (HBz.out.later (below_regrown _ dq osq)), Lib.hid (HAz.out.later (below_regrown _ dq osq))⟩
                case measure => simp [intOf]; omega
              · have HCA := Lib.hid (HCW.out ca)
                rw [show T.compF T.decomps.length ca = true from hca] at HCA
                have HCAT := Lib.hid hca
                cases hcb : T.comp cb
                · have HCB := Lib.hid (HCW.out cb)
                  rw [show T.compF T.decomps.length cb = false from hcb] at HCB
                  have HN : Hid (∀ i b, i < q + 1 → T.decomps[i]? = some b → conflB T (ca, ta) b = false) := Lib.hid (fun i b hi hib => by
                    rcases Nat.lt_or_ge i q with h | h
                    · exact HSq.out i b h hib
                    · obtain rfl : i = q := by omega
                      rw [HXq.out] at hib; cases hib
                      unfold conflB; simp only; rw [hcb]; simp)
                  clear hca hcb HCW
                  obtain ⟨x0, x1, x2, x3, x4, x5, x6, x7, x8, x9, x10, x11⟩ := (show Blk _ _ _ #[_, _, _, _, _, _, _, _, _, _, _, _] from by have h := HBz.out; rw [HTC.out] at h; exact h).tabG
                  obtain ⟨v0, v1⟩ := grown2 HAz.out
                  obtain ⟨y0, y1⟩ := grown2 HVb.out
                  refine wp_region_quiet_below (by kernel_rfl) (by kernel_rfl) ?_
                  repeat (go_big_quiet_step ((go_at_call 50; first | (with_reducible exact quiet_t (fun W hW => HCA.out W hW)) | (with_reducible exact quiet_t (fun W hW => HCB.out W hW)))))
                  refine wpQuiet_nil ?_
                  rintro _ ⟨⟨dq, osq⟩, rfl⟩
                  clear x0 x1 x2 x3 x4 x5 x6 x7 x8 x9 x10 x11 v0 v1 y0 y1
                  go_wp2_with fail
                  go_roundw
                  case rel => exact ⟨q + 1, by omega, by go_num, HN, below_next hbelz (below_regrown _ dq osq), Lib.hid (HBz.out.later (below_regrown _ dq osq)), Lib.hid (HAz.out.later (below_regrown _ dq osq))⟩
                  case measure => simp [intOf]; omega
                · have HCB := Lib.hid (HCW.out cb)
                  rw [show T.compF T.decomps.length cb = true from hcb] at HCB
                  obtain ⟨a1, a2, hta⟩ := comp_to HFA.out hca
                  obtain ⟨b1, b2, htb⟩ := comp_to HFB.out hcb
                  obtain ⟨ada, hA', hda, h0⟩ := HTA.out 0 a1 (by rw [hta]; rfl)
                  subst hA'
                  obtain ⟨_, hA', _, h1⟩ := HTA.out 1 a2 (by rw [hta]; rfl)
                  cases hA'
                  obtain ⟨adb, hA', hdb, g0⟩ := HTB.out 0 b1 (by rw [htb]; rfl)
                  subst hA'
                  obtain ⟨_, hA', _, g1⟩ := HTB.out 1 b2 (by rw [htb]; rfl)
                  cases hA'
                  have HCE : Hid (conflB T (ca, ta) (cb, tb) = (decide (a1 = b1) && decide (a2 = b2))) := Lib.hid (by
                    unfold conflB; simp only; rw [hca, hcb, hta, htb, Bool.true_and, Bool.true_and]
                    by_cases h1 : a1 = b1
                    · by_cases h2 : a2 = b2
                      · rw [decide_eq_true h1, decide_eq_true h2, decide_eq_true (by rw [h1, h2])]; rfl
                      · rw [decide_eq_true h1, decide_eq_false h2, decide_eq_false (by intro e; simp at e; exact h2 e.2)]; rfl
                    · rw [decide_eq_false h1, decide_eq_false (by intro e; simp at e; exact h1 e.1)]; rfl)
                  have la : ta.length = 2 := by rw [hta]; rfl
                  have lb : tb.length = 2 := by rw [htb]; rfl
                  have la0 : (0 : Int) < (ta.length : Int) := by omega
                  have la1 : (1 : Int) < (ta.length : Int) := by omega
                  have la2 : 0 < ta.length := by omega
                  have la3 : 1 < ta.length := by omega
                  have lb0 : (0 : Int) < (tb.length : Int) := by omega
                  have lb1 : (1 : Int) < (tb.length : Int) := by omega
                  have lb2 : 0 < tb.length := by omega
                  have lb3 : 1 < tb.length := by omega
                  have HA1 := Lib.hid h0
                  have HA2 := Lib.hid (show w.cell? { block := ada.block, off := ada.off + 1, spot := none } = some (.int .i64 a2) from h1)
                  have HB1 := Lib.hid g0
                  have HB2 := Lib.hid (show w.cell? { block := adb.block, off := adb.off + 1, spot := none } = some (.int .i64 b2) from g1)
                  have HNC : Hid (conflB T (ca, ta) (cb, tb) = false → ∀ i b, i < q + 1 → T.decomps[i]? = some b → conflB T (ca, ta) b = false) := Lib.hid (fun hc i b hi hib => by
                    rcases Nat.lt_or_ge i q with h | h
                    · exact HSq.out i b h hib
                    · obtain rfl : i = q := by omega
                      rw [HXq.out] at hib; cases hib
                      exact hc)
                  clear hca hcb HCW hta htb h0 h1 g0 g1 la lb HTA HTB
                  by_cases h1 : a1 = b1
                  · have q1 : (a1 == b1) = true := by rw [beq_iff_eq]; exact h1
                    by_cases h2 : a2 = b2
                    · have q2 : (a2 == b2) = true := by rw [beq_iff_eq]; exact h2
                      have HN := Lib.hid (HR.out.trans (HH7.out.fail (by show some T.rule8 = some false; rw [nodup_fail HX.out (by omega) HXq.out (by rw [HCE.out, decide_eq_true h1, decide_eq_true h2]; rfl)])))
                      clear h1 h2
                      obtain ⟨x0, x1, x2, x3, x4, x5, x6, x7, x8, x9, x10, x11⟩ := (show Blk _ _ _ #[_, _, _, _, _, _, _, _, _, _, _, _] from by have h := HBz.out; rw [HTC.out] at h; exact h).tabG
                      obtain ⟨v0, v1⟩ := grown2 HAz.out
                      obtain ⟨y0, y1⟩ := grown2 HVb.out
                      have n0 := cell_regrown ((hbelz.cell (p := ada.add 0) (by rw [block_of_add]; exact hda)).trans HA1.out)
                      have n0' : ∀ d os, (Go.Sort.grow (redrawn wz d) os).cell? ada = some (.int .i64 a1) := n0
                      have n1 := cell_regrown ((hbelz.cell (p := { block := ada.block, off := ada.off + 1, spot := none }) hda).trans HA2.out)
                      have o0 := cell_regrown ((hbelz.cell (p := adb.add 0) (by rw [block_of_add]; exact hdb)).trans HB1.out)
                      have o0' : ∀ d os, (Go.Sort.grow (redrawn wz d) os).cell? adb = some (.int .i64 b1) := o0
                      have o1 := cell_regrown ((hbelz.cell (p := { block := adb.block, off := adb.off + 1, spot := none }) hdb).trans HB2.out)
                      refine wp_region_quiet_below (by kernel_rfl) (by kernel_rfl) ?_
                      repeat (go_big_quiet_step ((go_at_call 50; first | (with_reducible exact quiet_t (fun W hW => HCA.out W hW)) | (with_reducible exact quiet_t (fun W hW => HCB.out W hW)))))
                      refine wpQuiet_nil ?_
                      rintro _ ⟨⟨dq, osq⟩, rfl⟩
                      clear x0 x1 x2 x3 x4 x5 x6 x7 x8 x9 x10 x11 v0 v1 y0 y1 n0 n0' n1 o0 o0' o1
                      go_wp2_with fail
                      go_ret
                      rw [HN.out]
                      exact ⟨rfl, below_next hbelz (below_regrown _ dq osq)⟩
                    · have q2 : (a2 == b2) = false := by rw [beq_eq_false_iff_ne]; exact h2
                      have HN := Lib.hid (HNC.out (by rw [HCE.out, decide_eq_false h2, Bool.and_false]))
                      clear h1 h2
                      obtain ⟨x0, x1, x2, x3, x4, x5, x6, x7, x8, x9, x10, x11⟩ := (show Blk _ _ _ #[_, _, _, _, _, _, _, _, _, _, _, _] from by have h := HBz.out; rw [HTC.out] at h; exact h).tabG
                      obtain ⟨v0, v1⟩ := grown2 HAz.out
                      obtain ⟨y0, y1⟩ := grown2 HVb.out
                      have n0 := cell_regrown ((hbelz.cell (p := ada.add 0) (by rw [block_of_add]; exact hda)).trans HA1.out)
                      have n0' : ∀ d os, (Go.Sort.grow (redrawn wz d) os).cell? ada = some (.int .i64 a1) := n0
                      have n1 := cell_regrown ((hbelz.cell (p := { block := ada.block, off := ada.off + 1, spot := none }) hda).trans HA2.out)
                      have o0 := cell_regrown ((hbelz.cell (p := adb.add 0) (by rw [block_of_add]; exact hdb)).trans HB1.out)
                      have o0' : ∀ d os, (Go.Sort.grow (redrawn wz d) os).cell? adb = some (.int .i64 b1) := o0
                      have o1 := cell_regrown ((hbelz.cell (p := { block := adb.block, off := adb.off + 1, spot := none }) hdb).trans HB2.out)
                      refine wp_region_quiet_below (by kernel_rfl) (by kernel_rfl) ?_
                      repeat (go_big_quiet_step ((go_at_call 50; first | (with_reducible exact quiet_t (fun W hW => HCA.out W hW)) | (with_reducible exact quiet_t (fun W hW => HCB.out W hW)))))
                      refine wpQuiet_nil ?_
                      rintro _ ⟨⟨dq, osq⟩, rfl⟩
                      clear x0 x1 x2 x3 x4 x5 x6 x7 x8 x9 x10 x11 v0 v1 y0 y1 n0 n0' n1 o0 o0' o1
                      go_wp2_with fail
                      go_roundw
                      case rel => exact ⟨q + 1, by omega, by go_num, HN, below_next hbelz (below_regrown _ dq osq), Lib.hid (HBz.out.later (below_regrown _ dq osq)), Lib.hid (HAz.out.later (below_regrown _ dq osq))⟩
                      case measure => simp [intOf]; omega
                  · have q1 : (a1 == b1) = false := by rw [beq_eq_false_iff_ne]; exact h1
                    have HN := Lib.hid (HNC.out (by rw [HCE.out, decide_eq_false h1, Bool.false_and]))
                    clear h1
                    obtain ⟨x0, x1, x2, x3, x4, x5, x6, x7, x8, x9, x10, x11⟩ := (show Blk _ _ _ #[_, _, _, _, _, _, _, _, _, _, _, _] from by have h := HBz.out; rw [HTC.out] at h; exact h).tabG
                    obtain ⟨v0, v1⟩ := grown2 HAz.out
                    obtain ⟨y0, y1⟩ := grown2 HVb.out
                    have n0 := cell_regrown ((hbelz.cell (p := ada.add 0) (by rw [block_of_add]; exact hda)).trans HA1.out)
                    have n0' : ∀ d os, (Go.Sort.grow (redrawn wz d) os).cell? ada = some (.int .i64 a1) := n0
                    have n1 := cell_regrown ((hbelz.cell (p := { block := ada.block, off := ada.off + 1, spot := none }) hda).trans HA2.out)
                    have o0 := cell_regrown ((hbelz.cell (p := adb.add 0) (by rw [block_of_add]; exact hdb)).trans HB1.out)
                    have o0' : ∀ d os, (Go.Sort.grow (redrawn wz d) os).cell? adb = some (.int .i64 b1) := o0
                    have o1 := cell_regrown ((hbelz.cell (p := { block := adb.block, off := adb.off + 1, spot := none }) hdb).trans HB2.out)
                    refine wp_region_quiet_below (by kernel_rfl) (by kernel_rfl) ?_
                    repeat (go_big_quiet_step ((go_at_call 50; first | (with_reducible exact quiet_t (fun W hW => HCA.out W hW)) | (with_reducible exact quiet_t (fun W hW => HCB.out W hW)))))
                    refine wpQuiet_nil ?_
                    rintro _ ⟨⟨dq, osq⟩, rfl⟩
                    clear x0 x1 x2 x3 x4 x5 x6 x7 x8 x9 x10 x11 v0 v1 y0 y1 n0 n0' n1 o0 o0' o1
                    go_wp2_with fail
                    go_roundw
                    case rel => exact ⟨q + 1, by omega, by go_num, HN, below_next hbelz (below_regrown _ dq osq), Lib.hid (HBz.out.later (below_regrown _ dq osq)), Lib.hid (HAz.out.later (below_regrown _ dq osq))⟩
                    case measure => simp [intOf]; omega
            · obtain rfl : q = j := by omega
              have HN := Lib.hid (nodup_next HX.out HS.out HSq.out)
              go_wp2_with fail
              go_roundw
              case rel => exact ⟨q + 1, by omega, by go_num, HN, hbelq, HBq⟩
              case measure => simp [intOf]; omega
        · obtain rfl : j = T.decomps.length := by omega
          have HH8 := Lib.hid (HH7.out.next (by show some T.rule8 = some true; rw [nodup_end HS.out]))
          have x11 := (show Blk _ _ _ #[_, _, _, _, _, _, _, _, _, _, _, _] from by have h := HB.out; rw [HTC.out] at h; exact h).at_ (i := 11) rfl
          clear HS HDC HH7 HCMP HFK
          go_wp2_with fail
          clear x11
          go_loopw [105] (fun i wr => ∃ (j : Nat), j ≤ T.prototypes.length ∧ i = .int .i64 j ∧ Hid ((T.prototypes.drop j).all T.protoOk = T.rule9) ∧ Below w.heap.size w wr ∧ Hid (Blk wr w.heap.size 29 tc)) (fun i _ => T.prototypes.length - (intOf i).toNat)
          case atStart => exact ⟨0, by omega, rfl, Lib.hid rfl, hbel, HB⟩
          case round =>
            obtain ⟨j, hj, rfl, HS, hbel, HB⟩ := hrel
            by_cases hjl : j < T.prototypes.length
            · obtain ⟨⟨cc, tg⟩, hxj, _⟩ := get_el hjl
              obtain ⟨aj, sv, rfl, ha, d0, d1, hto⟩ := HPR.out j _ hxj
              simp only at d0 d1 hto
              obtain ⟨A', c', rfl, he1, he2, _, hcl⟩ := id hto
              have HTO := Lib.hid hcl
              have hlt : tg.length ≤ 9223372036854775807 := by unfold maxLen at he2; omega
              obtain ⟨e0, e1⟩ := map_cells hbel ha d0 d1
              have HX := Lib.hid hxj
              have hbelw := hbel.alloc hbel.size (.cells #[.int .i64 cc, .slice A' tg.length c'] 51)
              have HB' := Lib.hid (HB.out.alloc (.cells #[.int .i64 cc, .slice A' tg.length c'] 51))
              have HM := Lib.hid (Blk.new wr 51 #[.int .i64 cc, .slice A' tg.length c'])
              have x9 := (show Blk _ _ _ #[_, _, _, _, _, _, _, _, _, _, _, _] from by have h := HB'.out; rw [HTC.out] at h; exact h).at_ (i := 9) rfl
              have HCA := Lib.hid (HFD.out cc _ (HT.out _ hbelw))
              clear d0 d1 hxj ha hto hcl he1 he2 HB
              have r0 : (0 : Int) ≤ (j : Int) := by omega
              have r1 : (j : Int) < (T.prototypes.length : Int) := by omega
              by_cases hn : findL T.decomps cc = []
              · rw [hn] at HCA
                have q3 : ([] : List Int).length = 0 := rfl
                have HNN := Lib.hid hn
                clear hn
                go_wp2_with fail
                refine HCA.out.mono ?_
                rintro e w2 ⟨u, rfl, hu, b2⟩
                obtain ⟨Au, cu, rfl, _⟩ := hu
                have hbel2 := below_next hbelw b2
                have HB2 := Lib.hid (HB'.out.later b2)
                have HM2 := Lib.hid (HM.out.later b2)
                have m0 := HM2.out.at_ (i := 0) (u := .int .i64 cc) rfl
                have HIA := Lib.hid (HIG.out cc _ (HT.out _ hbel2))
                clear x9
                obtain ⟨x0, x1, x2, x3, x4, x5, x6, x7, x8, x9, x10, x11⟩ := (show Blk _ _ _ #[_, _, _, _, _, _, _, _, _, _, _, _] from by have h := HB2.out; rw [HTC.out] at h; exact h).tab
                clear e0 e1 HB' HM b2 hbel hbelw
                cases hig : T.ignB cc
                · rw [hig] at HIA
                  obtain ⟨Rt, hRt⟩ : ∃ Rt, Rt = tg.all T.protoEl := ⟨_, rfl⟩
                  have HO : Hid ((tg.drop 0).all T.protoEl = Rt) := Lib.hid hRt.symm
                  have HOK : Hid (T.protoOk (cc, tg) = Rt) := Lib.hid (by rw [hRt]; unfold Tab.protoOk Tab.plainB; simp only; rw [HNN.out, hig]; rfl)
                  clear hig hRt
                  go_wp2_with fail
                  refine HIA.out.mono ?_
                  rintro e w3 ⟨rfl, b3⟩
                  have hbel3 := below_next hbel2 b3
                  have HB3 := Lib.hid (HB2.out.later b3)
                  have m1 := (HM2.out.later b3).at_ (i := 1) (u := .slice A' tg.length c') rfl
                  clear x0 x1 x2 x3 x4 x5 x6 x7 x8 x9 x10 x11 m0 HB2 HM2 b3 hbel2 q3
                  go_wp2_with fail
                  clear m1
                  go_loopw [125] (fun i wr => ∃ (q : Nat), q ≤ tg.length ∧ i = .int .i64 q ∧ Hid ((tg.drop q).all T.protoEl = Rt) ∧ Below w.heap.size w wr ∧ Hid (Blk wr w.heap.size 29 tc)) (fun i _ => tg.length - (intOf i).toNat)
                  case atStart => exact ⟨0, by omega, rfl, HO, hbel3, HB3⟩
                  case round =>
                    obtain ⟨q, hq, rfl, HSq, hbelq, HBq⟩ := hrel
                    clear HO HB3 hbel3
                    by_cases hql : q < tg.length
                    · obtain ⟨y, hyq, _⟩ := get_el hql
                      obtain ⟨ay, rfl, hay, d0⟩ := HTO.out q _ hyq
                      have e0 := (hbelq.cell (p := ay.add q) (by rw [block_of_add]; exact hay)).trans d0
                      have HXq := Lib.hid hyq
                      have x9 := (show Blk _ _ _ #[_, _, _, _, _, _, _, _, _, _, _, _] from by have h := HBq.out; rw [HTC.out] at h; exact h).at_ (i := 9) rfl
                      have HC1 := Lib.hid (HFD.out y _ (HT.out _ hbelq))
                      have HSY := Lib.hid (fun W => refSyl_any y W)
                      clear d0 hyq hay
                      have s0 : (0 : Int) ≤ (q : Int) := by omega
                      have s1 : (q : Int) < (tg.length : Int) := by omega
                      by_cases hyn : findL T.decomps y = []
                      · rw [hyn] at HC1
                        have q3 : ([] : List Int).length = 0 := rfl
                        have HYN := Lib.hid hyn
                        clear hyn
                        go_wp2_with fail
                        refine HC1.out.mono ?_
                        rintro e w4 ⟨u, rfl, hu, b4⟩
                        obtain ⟨Av, cv, rfl, _⟩ := hu
                        have hbel4 := below_next hbelq b4
                        have HB4 := Lib.hid (HBq.out.later b4)
                        have HIY := Lib.hid (HIG.out y _ (HT.out _ hbel4))
                        obtain ⟨x0, x1, x2, x3, x4, x5, x6, x7, x8, x9, x10, x11⟩ := (show Blk _ _ _ #[_, _, _, _, _, _, _, _, _, _, _, _] from by have h := HB4.out; rw [HTC.out] at h; exact h).tab
                        clear e0 b4 HBq
                        cases hiy : T.ignB y
                        · rw [hiy] at HIY
                          cases hsy : sylB y
                          · rw [hsy] at HSY
                            have HOE : Hid (T.protoEl y = decide (findL T.prototypes y = [])) := Lib.hid (by unfold Tab.protoEl Tab.plainB; rw [HYN.out, hiy, hsy]; rfl)
                            clear hiy hsy
                            go_wp2_with fail
                            refine HIY.out.mono ?_
                            rintro e w5 ⟨rfl, b5⟩
                            have hbel5 := below_next hbel4 b5
                            have HB5 := Lib.hid (HB4.out.later b5)
                            have y11 := (show Blk _ _ _ #[_, _, _, _, _, _, _, _, _, _, _, _] from by have h := HB5.out; rw [HTC.out] at h; exact h).at_ (i := 11) rfl
                            have HFY := Lib.hid (HFP.out y _ (HT.out _ hbel5))
                            clear x0 x1 x2 x3 x4 x5 x6 x7 x8 x9 x10 x11 HB4 b5
                            go_wp2_with fail
                            refine (HSY.out _).mono ?_
                            rintro e w6 ⟨rfl, rfl⟩
                            by_cases hpn : findL T.prototypes y = []
                            · have HN := Lib.hid (each_go HXq.out HSq.out (HOE.out.trans (decide_eq_true hpn)))
                              rw [hpn] at HFY
                              clear hpn
                              go_wp2_with fail
                              refine HFY.out.mono ?_
                              rintro e w6 ⟨u, rfl, hu, b6⟩
                              obtain ⟨Aw, cw, rfl, _⟩ := hu
                              have HB6 := Lib.hid (HB5.out.later b6)
                              clear y11 HB5
                              go_wp2_with fail
                              go_roundw
                              case rel => exact ⟨q + 1, by omega, by go_num, HN, below_next hbel5 b6, HB6⟩
                              case measure => simp [intOf]; omega
                            · have HN := Lib.hid (HR.out.trans (HH8.out.fail (by show some T.rule9 = some false; rw [each_no HX.out HS.out (HOK.out.trans (each_no HXq.out HSq.out (HOE.out.trans (decide_eq_false hpn))))])))
                              have hp := length_pos_ne hpn
                              have p3 : (0 : Int) < ((findL T.prototypes y).length : Int) := by omega
                              clear hpn
                              go_wp2_with fail
                              refine HFY.out.mono ?_
                              rintro e w6 ⟨u, rfl, hu, b6⟩
                              obtain ⟨Aw, cw, rfl, _⟩ := hu
                              clear y11 HB5
                              go_wp2_with fail
                              go_ret
                              rw [HN.out]
                              exact ⟨rfl, below_next hbel5 b6⟩
                          · rw [hsy] at HSY
                            have HN := Lib.hid (HR.out.trans (HH8.out.fail (by show some T.rule9 = some false; rw [each_no HX.out HS.out (HOK.out.trans (each_no HXq.out HSq.out (by unfold Tab.protoEl; rw [hsy]; simp)))])))
                            clear hiy hsy
                            go_wp2_with fail
                            refine HIY.out.mono ?_
                            rintro e w5 ⟨rfl, b5⟩
                            clear x0 x1 x2 x3 x4 x5 x6 x7 x8 x9 x10 x11 HB4
                            go_wp2_with fail
                            refine (HSY.out _).mono ?_
                            rintro e w6 ⟨rfl, rfl⟩
                            go_wp2_with fail
                            go_ret
                            rw [HN.out]
                            exact ⟨rfl, below_next hbel4 b5⟩
                        · rw [hiy] at HIY
                          have HN := Lib.hid (HR.out.trans (HH8.out.fail (by show some T.rule9 = some false; rw [each_no HX.out HS.out (HOK.out.trans (each_no HXq.out HSq.out (by unfold Tab.protoEl Tab.plainB; rw [hiy]; simp)))])))
                          clear hiy
                          go_wp2_with fail
                          refine HIY.out.mono ?_
                          rintro e w5 ⟨rfl, b5⟩
                          clear x0 x1 x2 x3 x4 x5 x6 x7 x8 x9 x10 x11 HB4
                          go_wp2_with fail
                          go_ret
                          rw [HN.out]
                          exact ⟨rfl, below_next hbel4 b5⟩
                      · have HN := Lib.hid (HR.out.trans (HH8.out.fail (by show some T.rule9 = some false; rw [each_no HX.out HS.out (HOK.out.trans (each_no HXq.out HSq.out (by unfold Tab.protoEl Tab.plainB; rw [decide_eq_false hyn]; rfl)))])))
                        have hp := length_pos_ne hyn
                        have p3 : (0 : Int) < ((findL T.decomps y).length : Int) := by omega
                        clear hyn
                        go_wp2_with fail
                        refine HC1.out.mono ?_
                        rintro e w4 ⟨u, rfl, hu, b4⟩
                        obtain ⟨Av, cv, rfl, _⟩ := hu
                        clear x9 e0
                        go_wp2_with fail
                        go_ret
                        rw [HN.out]
                        exact ⟨rfl, below_next hbelq b4⟩
                    · have HN := Lib.hid (each_go HX.out HS.out (HOK.out.trans (each_end (by omega) HSq.out)))
                      go_wp2_with fail
                      go_roundw
                      case rel => exact ⟨j + 1, by omega, by go_num, HN, hbelq, HBq⟩
                      case measure => simp [intOf]; omega
                · rw [hig] at HIA
                  have HN := Lib.hid (HR.out.trans (HH8.out.fail (by show some T.rule9 = some false; rw [each_no HX.out HS.out (by unfold Tab.protoOk Tab.plainB; simp only; rw [hig]; simp)])))
                  clear hig
                  go_wp2_with fail
                  refine HIA.out.mono ?_
                  rintro e w3 ⟨rfl, b3⟩
                  clear x0 x1 x2 x3 x4 x5 x6 x7 x8 x9 x10 x11 m0
                  go_wp2_with fail
                  go_ret
                  rw [HN.out]
                  exact ⟨rfl, below_next hbel2 b3⟩
              · have HN := Lib.hid (HR.out.trans (HH8.out.fail (by show some T.rule9 = some false; rw [each_no HX.out HS.out (by unfold Tab.protoOk Tab.plainB; simp only; rw [decide_eq_false hn]; rfl)])))
                have hp := length_pos_ne hn
                have p3 : (0 : Int) < ((findL T.decomps cc).length : Int) := by omega
                clear hn
                go_wp2_with fail
                refine HCA.out.mono ?_
                rintro e w2 ⟨u, rfl, hu, b2⟩
                obtain ⟨Au, cu, rfl, _⟩ := hu
                clear x9 e0 e1
                go_wp2_with fail
                go_ret
                rw [HN.out]
                exact ⟨rfl, below_next hbelw b2⟩
            · obtain rfl : j = T.prototypes.length := by omega
              have HN := Lib.hid (HR.out.trans ((HH8.out.next (by show some T.rule9 = some true; rw [each_end (by omega) HS.out])).all))
              go_wp2_with fail
              go_ret
              rw [HN.out]
              exact ⟨rfl, hbel⟩
end Go.Proofs.YtikcfoobfobmnaaGreatDoor
