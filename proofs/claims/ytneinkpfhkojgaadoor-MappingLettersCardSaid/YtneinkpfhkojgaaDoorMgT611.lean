/-
  Merged texts: lemmas and walks that the last text of this claim leans on.
-/
import Derived.Test.YtneinkpfhkojgaaDoorMgT69
import Derived.Test.YtneinkpfhkojgaaDoorMgT610
import Derived.Test.YtneinkpfhkojgaaDoorMgT62
import Derived.Test.YtneinkpfhkojgaaDoorMgT67
/-
  The walk through the reference's Check.
-/
namespace Go.Proofs.YtneinkpfhkojgaaDoor
open Go.RowKit ND

/-- Two rows that may not stand beside each other. -/
def conflB (T : Tab) (a b : Mp) : Bool := T.comp a.1 && (T.comp b.1 && decide (a.2 = b.2))
theorem nodup_next {T : Tab} {i : Nat} {a : Mp} (hx : T.decomps[i]? = some a) (h : (pairsTo T i).Nodup) (hc : ∀ j b, j < i → T.decomps[j]? = some b → conflB T a b = false) : (pairsTo T (i + 1)).Nodup := by
  cases hca : T.comp a.1
  · rw [pairsTo_no hx hca]; exact h
  · rw [pairsTo_yes hx hca, List.nodup_append]
    refine ⟨h, by simp, fun x hx' y hy e => ?_⟩
    rw [List.mem_singleton] at hy
    subst hy; subst e
    obtain ⟨b, hb, he⟩ := List.mem_map.1 hx'
    obtain ⟨hb1, hb2⟩ := List.mem_filter.1 hb
    obtain ⟨j, hj, hje⟩ := List.mem_iff_getElem.1 hb1
    have hj1 : j < i := by rw [List.length_take] at hj; omega
    have hj2 : T.decomps[j]? = some b := by
      rw [← hje, List.getElem_take]
      exact List.getElem?_eq_getElem _
    have := hc j b hj1 hj2
    unfold conflB at this
    rw [hca, hb2, decide_eq_true he.symm] at this
    cases this
theorem nodup_fail {T : Tab} {i j : Nat} {a b : Mp} (hx : T.decomps[i]? = some a) (hj : j < i) (hb : T.decomps[j]? = some b) (h : conflB T a b = true) : T.rule8 = false := by
  unfold conflB at h
  simp only [Bool.and_eq_true, decide_eq_true_eq] at h
  unfold Tab.rule8
  rw [decide_eq_false_iff_not]
  intro hn
  have h1 := hn.sublist (pairsTo_sub T (i + 1))
  rw [pairsTo_yes hx h.1, List.nodup_append] at h1
  refine h1.2.2 b.2 ?_ a.2 (List.mem_singleton.2 rfl) h.2.2.symm
  refine List.mem_map_of_mem (List.mem_filter.2 ⟨?_, h.2.1⟩)
  obtain ⟨hj', he⟩ := List.getElem?_eq_some_iff.1 hb
  exact List.mem_iff_getElem.2 ⟨j, by rw [List.length_take]; have := (List.getElem?_eq_some_iff.1 hx).1; omega, by rw [List.getElem_take]; exact he⟩
theorem nodup_end {T : Tab} (h : (pairsTo T T.decomps.length).Nodup) : T.rule8 = true := by
  rw [pairsTo_all] at h; unfold Tab.rule8; exact decide_eq_true h
theorem comp_to {T : Tab} {c : Int} {tg : List Int} (hf : findL T.decomps c = tg) (h : T.comp c = true) : ∃ a b, tg = [a, b] := by
  obtain ⟨a, b, he⟩ := comp_form h; exact ⟨a, b, hf.symm.trans he⟩

/-- The two cells of a mapping in a block, and a list's first cells, in every world that may come within a region. -/
theorem grown2 {w : World} {g : Nat} {e : TypeId} {u v : Value} (h : Blk w g e #[u, v]) : (∀ d os, (Go.Sort.grow (redrawn w d) os).cell? ⟨g, 0, none⟩ = some u) ∧ (∀ d os, (Go.Sort.grow (redrawn w d) os).cell? ⟨g, 1, none⟩ = some v) :=
  ⟨cell_regrown (h.at_ rfl), cell_regrown (h.at_ rfl)⟩

set_option maxRecDepth 100000 in
set_option maxHeartbeats 16000000 in
theorem check_ref (t : Tv) (T : Tab) (w : World) (ht : TabR w w.heap.size t T) :
    Calls Tryd.prog 84 #[t.val] w fun e w' => e = .returned (.int .i64 T.check) ∧ Below w.heap.size w w' := by
  obtain ⟨tc, htc⟩ : ∃ tc, tc = t.cells := ⟨_, rfl⟩
  have HT := Lib.hid (fun W (h : Below w.heap.size w W) => ht.later h)
  have H0 := Lib.hid (fun W h => small_any t T W h)
  have H1 := Lib.hid (fun W h => placed_any t T W h)
  have H2 := Lib.hid (fun W h => ranged_any t T W h)
  have H3 := Lib.hid (fun W h => sized_any t T W h)
  have H4 := Lib.hid (fun (hs : Shape T) W h => refMapped_any t T W h hs.c5)
  have H5 := Lib.hid (fun (hs : Shape T) (hz : Sized T) W h => finite_any t T W h hz.nd hs.ld)
  have HFD := Lib.hid (fun c W (h : TabR W W.heap.size t T) => refFind_any t.c9 T.decomps c W h.r9)
  have HFP := Lib.hid (fun c W (h : TabR W W.heap.size t T) => refFind_any t.c11 T.prototypes c W h.r11)
  have HIG := Lib.hid (fun c W h => refIgnorable_any t T c W h)
  have HCM := Lib.hid (fun (hs : Shape T) (hz : Sized T) (he : Ends T) c W h => refComposable_any t T hs hz.nd he T.decomps.length c W h (he c).1)
  have hex := ht.r10
  have hdc := ht.r9
  have hpr := ht.r11
  obtain ⟨A0, A1, A2, A3, A4, A5, A6, A7, A8, A9, A10, A11, k0, k1, k2, k3, k4, k5, k6, k7, k8, k9, k10, k11, rfl⟩ := ht.shape
  obtain ⟨_, _, he, ha1, ha2, _, hexc⟩ := hex
  cases he
  obtain ⟨_, _, he, hb1, hb2, _, hdcc⟩ := hdc
  cases he
  obtain ⟨_, _, he, hc1, hc2, _, hprc⟩ := hpr
  cases he
  have hxl : T.excluded.length ≤ 9223372036854775807 := by unfold maxLen at ha2; omega
  have hdl : T.decomps.length ≤ 9223372036854775807 := by unfold maxLen at hb2; omega
  have hpl : T.prototypes.length ≤ 9223372036854775807 := by unfold maxLen at hc2; omega
  have HEX := Lib.hid hexc
  have HDC := Lib.hid hdcc
  have HPR := Lib.hid hprc
  have HTC := Lib.hid htc
  have HK9 := Lib.hid (And.intro hb1 hb2)
  clear ht htc hexc hdcc hprc ha1 ha2 hb1 hb2 hc1 hc2
  obtain ⟨R, hR⟩ : ∃ R, R = T.check := ⟨_, rfl⟩
  rw [← hR]
  have HR := Lib.hid hR
  clear hR
  have HW0 := Lib.hid (show Below w.heap.size w (w.alloc (.cells tc 26)) from (Below.refl _ _).alloc (Nat.le_refl _) _)
  have HB0 := Lib.hid (Blk.new w 26 tc)
  have HH0 := Lib.hid (HoldTo.zero T)
  rw [HTC.out] at HW0 HB0
  go_enter Tryd.func84, Tryd.ntmps84
  go_wp2_with fail
  generalize World.alloc w _ = v0 at *
  have HB0' : Hid (Blk v0 w.heap.size 26 tc) := Lib.hid (by rw [HTC.out]; exact HB0.out)
  clear HB0
  have HP0 := Lib.hid (HH0.out.parts (by omega))
  have HCA := Lib.hid (H0.out _ (HT.out _ HW0.out))
  obtain ⟨x0, x1, x2, x3, x4, x5, x6, x7, x8, x9, x10, x11⟩ := (show Blk _ _ _ #[_, _, _, _, _, _, _, _, _, _, _, _] from by have h := HB0'.out; rw [HTC.out] at h; exact h).tab
  cases hr : T.rule1
  · rw [hr] at HCA
    have HN := Lib.hid (HR.out.trans (HH0.out.fail (by show some T.rule1 = some false; rw [hr])))
    clear hr
    go_wp2_with fail
    refine HCA.out.mono ?_
    rintro e v1 ⟨rfl, b2⟩
    clear x0 x1 x2 x3 x4 x5 x6 x7 x8 x9 x10 x11
    go_wp2_with fail
    go_ret
    rw [HN.out]
    exact ⟨rfl, below_next HW0.out b2⟩
  rw [hr] at HCA
  have HH1 := Lib.hid (HH0.out.next (by show some T.rule1 = some true; rw [hr]))
  clear hr
  go_wp2_with fail
  refine HCA.out.mono ?_
  rintro e v1 ⟨rfl, b2⟩
  have HB1' := Lib.hid (HB0'.out.later b2)
  have HW1 := Lib.hid (below_next HW0.out b2)
  clear HB0' HW0 HP0 HH0 HCA b2
  clear x0 x1 x2 x3 x4 x5 x6 x7 x8 x9 x10 x11
  have HP1 := Lib.hid (HH1.out.parts (by omega))
  have HCA := Lib.hid (H1.out _ (HT.out _ HW1.out))
  obtain ⟨x0, x1, x2, x3, x4, x5, x6, x7, x8, x9, x10, x11⟩ := (show Blk _ _ _ #[_, _, _, _, _, _, _, _, _, _, _, _] from by have h := HB1'.out; rw [HTC.out] at h; exact h).tab
  cases hr : T.rule2
  · rw [hr] at HCA
    have HN := Lib.hid (HR.out.trans (HH1.out.fail (by show some T.rule2 = some false; rw [hr])))
    clear hr
    go_wp2_with fail
    refine HCA.out.mono ?_
    rintro e v2 ⟨rfl, b2⟩
    clear x0 x1 x2 x3 x4 x5 x6 x7 x8 x9 x10 x11
    go_wp2_with fail
    go_ret
    rw [HN.out]
    exact ⟨rfl, below_next HW1.out b2⟩
  rw [hr] at HCA
  have HH2 := Lib.hid (HH1.out.next (by show some T.rule2 = some true; rw [hr]))
  clear hr
  go_wp2_with fail
  refine HCA.out.mono ?_
  rintro e v2 ⟨rfl, b2⟩
  have HB2' := Lib.hid (HB1'.out.later b2)
  have HW2 := Lib.hid (below_next HW1.out b2)
  clear HB1' HW1 HP1 HH1 HCA b2
  clear x0 x1 x2 x3 x4 x5 x6 x7 x8 x9 x10 x11
  have HP2 := Lib.hid (HH2.out.parts (by omega))
  have HCA := Lib.hid (H2.out _ (HT.out _ HW2.out))
  obtain ⟨x0, x1, x2, x3, x4, x5, x6, x7, x8, x9, x10, x11⟩ := (show Blk _ _ _ #[_, _, _, _, _, _, _, _, _, _, _, _] from by have h := HB2'.out; rw [HTC.out] at h; exact h).tab
  cases hr : T.rule3
  · rw [hr] at HCA
    have HN := Lib.hid (HR.out.trans (HH2.out.fail (by show some T.rule3 = some false; rw [hr])))
    clear hr
    go_wp2_with fail
    refine HCA.out.mono ?_
    rintro e v3 ⟨rfl, b2⟩
    clear x0 x1 x2 x3 x4 x5 x6 x7 x8 x9 x10 x11
    go_wp2_with fail
    go_ret
    rw [HN.out]
    exact ⟨rfl, below_next HW2.out b2⟩
  rw [hr] at HCA
  have HH3 := Lib.hid (HH2.out.next (by show some T.rule3 = some true; rw [hr]))
  clear hr
  go_wp2_with fail
  refine HCA.out.mono ?_
  rintro e v3 ⟨rfl, b2⟩
  have HB3' := Lib.hid (HB2'.out.later b2)
  have HW3 := Lib.hid (below_next HW2.out b2)
  clear HB2' HW2 HP2 HH2 HCA b2
  clear x0 x1 x2 x3 x4 x5 x6 x7 x8 x9 x10 x11
  have HP3 := Lib.hid (HH3.out.parts (by omega))
  have HCA := Lib.hid (H3.out _ (HT.out _ HW3.out))
  obtain ⟨x0, x1, x2, x3, x4, x5, x6, x7, x8, x9, x10, x11⟩ := (show Blk _ _ _ #[_, _, _, _, _, _, _, _, _, _, _, _] from by have h := HB3'.out; rw [HTC.out] at h; exact h).tab
  cases hr : T.rule4
  · rw [hr] at HCA
    have HN := Lib.hid (HR.out.trans (HH3.out.fail (by show some T.rule4 = some false; rw [hr])))
    clear hr
    go_wp2_with fail
    refine HCA.out.mono ?_
    rintro e v4 ⟨rfl, b2⟩
    clear x0 x1 x2 x3 x4 x5 x6 x7 x8 x9 x10 x11
    go_wp2_with fail
    go_ret
    rw [HN.out]
    exact ⟨rfl, below_next HW3.out b2⟩
  rw [hr] at HCA
  have HH4 := Lib.hid (HH3.out.next (by show some T.rule4 = some true; rw [hr]))
  clear hr
  go_wp2_with fail
  refine HCA.out.mono ?_
  rintro e v4 ⟨rfl, b2⟩
  have HB4' := Lib.hid (HB3'.out.later b2)
  have HW4 := Lib.hid (below_next HW3.out b2)
  clear HB3' HW3 HP3 HH3 HCA b2
  clear x0 x1 x2 x3 x4 x5 x6 x7 x8 x9 x10 x11
  have HP4 := Lib.hid (HH4.out.parts (by omega))
  have HCA := Lib.hid (H4.out (Shape.of (HP4.out.1 (by omega)) (HP4.out.2.1 (by omega))) _ (HT.out _ HW4.out))
  obtain ⟨x0, x1, x2, x3, x4, x5, x6, x7, x8, x9, x10, x11⟩ := (show Blk _ _ _ #[_, _, _, _, _, _, _, _, _, _, _, _] from by have h := HB4'.out; rw [HTC.out] at h; exact h).tab
  cases hr : T.rule5
  · rw [hr] at HCA
    have HN := Lib.hid (HR.out.trans (HH4.out.fail (by show some T.rule5 = some false; rw [hr])))
    clear hr
    go_wp2_with fail
    refine HCA.out.mono ?_
    rintro e v5 ⟨rfl, b2⟩
    clear x0 x1 x2 x3 x4 x5 x6 x7 x8 x9 x10 x11
    go_wp2_with fail
    go_ret
    rw [HN.out]
    exact ⟨rfl, below_next HW4.out b2⟩
  rw [hr] at HCA
  have HH5 := Lib.hid (HH4.out.next (by show some T.rule5 = some true; rw [hr]))
  clear hr
  go_wp2_with fail
  refine HCA.out.mono ?_
  rintro e v5 ⟨rfl, b2⟩
  have HB5' := Lib.hid (HB4'.out.later b2)
  have HW5 := Lib.hid (below_next HW4.out b2)
  clear HB4' HW4 HP4 HH4 HCA b2
  clear x0 x1 x2 x3 x4 x5 x6 x7 x8 x9 x10 x11
  have HP5 := Lib.hid (HH5.out.parts (by omega))
  have HCA := Lib.hid (H5.out (Shape.of (HP5.out.1 (by omega)) (HP5.out.2.1 (by omega))) (Sized.of (HP5.out.2.2.2.1 (by omega))) _ (HT.out _ HW5.out))
  obtain ⟨x0, x1, x2, x3, x4, x5, x6, x7, x8, x9, x10, x11⟩ := (show Blk _ _ _ #[_, _, _, _, _, _, _, _, _, _, _, _] from by have h := HB5'.out; rw [HTC.out] at h; exact h).tab
  cases hr : T.rule6
  · rw [hr] at HCA
    have HN := Lib.hid (HR.out.trans (HH5.out.fail (by show some T.rule6 = some false; rw [hr])))
    clear hr
    go_wp2_with fail
    refine HCA.out.mono ?_
    rintro e v6 ⟨rfl, b2⟩
    clear x0 x1 x2 x3 x4 x5 x6 x7 x8 x9 x10 x11
    go_wp2_with fail
    go_ret
    rw [HN.out]
    exact ⟨rfl, below_next HW5.out b2⟩
  rw [hr] at HCA
  have HH6 := Lib.hid (HH5.out.next (by show some T.rule6 = some true; rw [hr]))
  clear hr
  go_wp2_with fail
  refine HCA.out.mono ?_
  rintro e v6 ⟨rfl, b2⟩
  have HB6' := Lib.hid (HB5'.out.later b2)
  have HW6 := Lib.hid (below_next HW5.out b2)
  clear HB5' HW5 HP5 HH5 HCA b2
  clear x0 x1 x2 x3 x4 x5 x6 x7 x8 x9 x10 x11
  have HP6 := Lib.hid (HH6.out.parts (by omega))
  have HSH := Lib.hid (Shape.of (HP6.out.1 (by omega)) (HP6.out.2.1 (by omega)))
  have HSZ := Lib.hid (Sized.of (HP6.out.2.2.2.1 (by omega)))
  have HEN := Lib.hid (Ends.of HSH.out.ld (HP6.out.2.2.2.2.2.1 (by omega)))
  have HCMP := Lib.hid (fun c W h => HCM.out HSH.out HSZ.out HEN.out c W h)
  have HFK := Lib.hid (fun i m (h : T.decomps[i]? = some m) => (findL_at (fun k a hk ha => keysB_sort HSH.out.kd k i a m hk ha h) h rfl : findL T.decomps m.1 = m.2))
  clear H0 H1 H2 H3 H4 H5 HCM HP6
  have HX0 : Hid ((T.excluded.drop 0).all T.exOk = T.rule7) := Lib.hid rfl
  have x10 := HB6'.out
  rw [HTC.out] at x10
  have x10 := x10.at_ (i := 10) rfl
  go_wp2_with fail
  clear x10
  go_loopw [40] (fun i wr => ∃ (j : Nat), j ≤ T.excluded.length ∧ i = .int .i64 j ∧ Hid ((T.excluded.drop j).all T.exOk = T.rule7) ∧ Below w.heap.size w wr ∧ Hid (Blk wr w.heap.size 26 tc)) (fun i _ => T.excluded.length - (intOf i).toNat)
  case atStart => exact ⟨0, by omega, rfl, HX0, HW6.out, HB6'⟩
  case round =>
    obtain ⟨j, hj, rfl, HS, hbel, HB⟩ := hrel
    clear HX0 HW6 HB6'
    by_cases hjl : j < T.excluded.length
    · obtain ⟨x, hxj, _⟩ := get_el hjl
      obtain ⟨aj, rfl, ha, d0⟩ := HEX.out j _ hxj
      have e0 := (hbel.cell (p := aj.add j) (by rw [block_of_add]; exact ha)).trans d0
      have x9 := (show Blk _ _ _ #[_, _, _, _, _, _, _, _, _, _, _, _] from by have h := HB.out; rw [HTC.out] at h; exact h).at_ (i := 9) rfl
      have HX := Lib.hid hxj
      have HCA := Lib.hid (HFD.out x _ (HT.out _ hbel))
      clear d0 hxj ha
      have r0 : (0 : Int) ≤ (j : Int) := by omega
      have r1 : (j : Int) < (T.excluded.length : Int) := by omega
      by_cases hn : findL T.decomps x = []
      · have HN := Lib.hid (HR.out.trans (HH6.out.fail (by show some T.rule7 = some false; rw [each_no HX.out HS.out (show T.exOk x = false from decide_eq_false (fun h => h hn))])))
        rw [hn] at HCA
        have q3 : ([] : List Int).length = 0 := rfl
        clear hn
        go_wp2_with fail
        refine HCA.out.mono ?_
        rintro e w2 ⟨u, rfl, hu, b2⟩
        obtain ⟨Au, cu, rfl, _⟩ := hu
        clear x9 e0 HB
        go_wp2_with fail
        go_ret
        rw [HN.out]
        exact ⟨rfl, below_next hbel b2⟩
      · have HN := Lib.hid (each_go HX.out HS.out (show T.exOk x = true from decide_eq_true hn))
        have hp := length_pos_ne hn
        have q3 : (((findL T.decomps x).length : Int) == 0) = false := by rw [beq_eq_false_iff_ne]; omega
        clear hn hp
        go_wp2_with fail
        refine HCA.out.mono ?_
        rintro e w2 ⟨u, rfl, hu, b2⟩
        have HB2 := Lib.hid (HB.out.later b2)
        obtain ⟨Au, cu, rfl, _⟩ := hu
        clear x9 e0 HB
        go_wp2_with fail
        go_roundw
        case rel => exact ⟨j + 1, by omega, by go_num, HN, below_next hbel b2, HB2⟩
        case measure => simp [intOf]; omega
    · have HH7 := Lib.hid (HH6.out.next (by show some T.rule7 = some true; rw [each_end (by omega) HS.out]))
      have x9 := (show Blk _ _ _ #[_, _, _, _, _, _, _, _, _, _, _, _] from by have h := HB.out; rw [HTC.out] at h; exact h).at_ (i := 9) rfl
      clear HS HEX HH6
      go_wp2_with fail
      clear x9
      go_loopw [54] (fun i wr => ∃ (j : Nat), j ≤ T.decomps.length ∧ i = .int .i64 j ∧ Hid ((pairsTo T j).Nodup) ∧ Below w.heap.size w wr ∧ Hid (Blk wr w.heap.size 26 tc)) (fun i _ => T.decomps.length - (intOf i).toNat)
      case atStart => exact ⟨0, by omega, rfl, Lib.hid List.nodup_nil, hbel, HB⟩
      case round =>
        obtain ⟨j, hj, rfl, HS, hbel, HB⟩ := hrel
        by_cases hjl : j < T.decomps.length
        · obtain ⟨⟨ca, ta⟩, hxj, _⟩ := get_el hjl
          obtain ⟨aj, sv, rfl, ha, d0, d1, hta⟩ := HDC.out j _ hxj
          simp only at d0 d1 hta
          obtain ⟨Aa, cpa, rfl, _, _, _, hcla⟩ := id hta
          have HTA := Lib.hid hcla
          obtain ⟨e0, e1⟩ := map_cells hbel ha d0 d1
          have HX := Lib.hid hxj
          have hbelw := hbel.alloc hbel.size (.cells #[.int .i64 ca, .slice Aa ta.length cpa] 46)
          have HB' := Lib.hid (HB.out.alloc (.cells #[.int .i64 ca, .slice Aa ta.length cpa] 46))
          have HVA := Lib.hid (Blk.new wr 46 #[.int .i64 ca, .slice Aa ta.length cpa])
          have x9 := (show Blk _ _ _ #[_, _, _, _, _, _, _, _, _, _, _, _] from by have h := HB'.out; rw [HTC.out] at h; exact h).at_ (i := 9) rfl
          have s0 : (0 : Int) ≤ (j : Int) := by omega
          have s1 : (j : Int) ≤ (k9 : Int) := by have := HK9.out.1; omega
          have s2 : (j : Int) < (T.decomps.length : Int) := by omega
          obtain ⟨ga, hga⟩ : ∃ ga, ga = wr.heap.size := ⟨_, rfl⟩
          have HGA := Lib.hid hga
          have HFA := Lib.hid (HFK.out j _ hxj)
          simp only at HFA
          have HWA := Lib.hid hbelw
          have HLT : Hid (ga < (wr.alloc (.cells #[.int .i64 ca, .slice Aa ta.length cpa] 46)).heap.size) := Lib.hid (by rw [hga]; simp)
          rw [← hga] at HVA
          clear d0 d1 hxj hta hcla hga
          go_wp2_with fail
          clear x9 e0 e1
          generalize World.alloc _ (.cells #[.int .i64 ca, .slice Aa ta.length cpa] 46) = wo at *
          rw [← HGA.out]
          go_loopw [64] (fun i wr => ∃ (q : Nat), q ≤ j ∧ i = .int .i64 q ∧ Hid (∀ i b, i < q → T.decomps[i]? = some b → conflB T (ca, ta) b = false) ∧ Below w.heap.size w wr ∧ Hid (Blk wr w.heap.size 26 tc) ∧ Hid (Blk wr ga 46 #[.int .i64 ca, .slice Aa ta.length cpa])) (fun i _ => j - (intOf i).toNat)
          case atStart => exact ⟨0, by omega, rfl, Lib.hid (fun i b h => by omega), hbelw, HB', HVA⟩
          case round =>
            obtain ⟨q, hq, rfl, HSq, hbelq, HBq, HAq⟩ := hrel
            by_cases hql : q < j
            · obtain ⟨⟨cb, tb⟩, hxq, _⟩ := get_el (xs := T.decomps) (k := q) (by omega)
              obtain ⟨aq, sv, he, haq, d0, d1, htb⟩ := HDC.out q _ hxq
              cases he
              simp only at d0 d1 htb
              obtain ⟨Ab, cpb, rfl, _, _, _, hclb⟩ := id htb
              have HTB := Lib.hid hclb
              obtain ⟨e0, e1⟩ := map_cells hbelq haq d0 d1
              have HXq := Lib.hid hxq
              have hbelz := hbelq.alloc hbelq.size (.cells #[.int .i64 cb, .slice Ab tb.length cpb] 46)
              have HBz := Lib.hid (HBq.out.alloc (.cells #[.int .i64 cb, .slice Ab tb.length cpb] 46))
              have HAz := Lib.hid (HAq.out.alloc (.cells #[.int .i64 cb, .slice Ab tb.length cpb] 46))
              have HVb := Lib.hid (Blk.new wr 46 #[.int .i64 cb, .slice Ab tb.length cpb])
              have HFB := Lib.hid (HFK.out q _ hxq)
              simp only at HFB
              have r0 : (0 : Int) ≤ (q : Int) := by omega
              have r1 : (q : Int) < (j : Int) := by omega
              clear d0 d1 hxq htb hclb haq
              go_wp2_with fail
              generalize World.alloc _ (.cells #[.int .i64 cb, .slice Ab tb.length cpb] 46) = wz at *
              obtain ⟨gb, hgb⟩ : ∃ gb, gb = wr.heap.size := ⟨_, rfl⟩
              rw [← hgb] at HVb
              rw [← hgb]
              clear hgb e0 e1
              have HCW := Lib.hid (fun c W (h : Below wz.heap.size wz W) => HCMP.out c W (HT.out W (below_next hbelz h)))
              cases hca : T.comp ca
              · have HCA := Lib.hid (HCW.out ca)
                rw [show T.compF T.decomps.length ca = false from hca] at HCA
                have HN : Hid (∀ i b, i < q + 1 → T.decomps[i]? = some b → conflB T (ca, ta) b = false) := Lib.hid (fun i b _ _ => by unfold conflB; simp only; rw [hca]; rfl)
                clear hca HCW
                obtain ⟨x0, x1, x2, x3, x4, x5, x6, x7, x8, x9, x10, x11⟩ := (show Blk _ _ _ #[_, _, _, _, _, _, _, _, _, _, _, _] from by have h := HBz.out; rw [HTC.out] at h; exact h).tabG
                obtain ⟨v0, v1⟩ := grown2 HAz.out
                obtain ⟨y0, y1⟩ := grown2 HVb.out
                refine wp_region_quiet_below (by kernel_rfl) (by kernel_rfl) ?_
                repeat (go_big_quiet_step ((go_at_call 106; exact quiet_t (fun W hW => HCA.out W hW))))
                refine wpQuiet_nil ?_
                rintro _ ⟨⟨dq, osq⟩, rfl⟩
                clear x0 x1 x2 x3 x4 x5 x6 x7 x8 x9 x10 x11 v0 v1 y0 y1
                go_wp2_with fail
                go_roundw
                case rel => exact ⟨q + 1, by omega, by go_num, HN, below_next hbelz (below_regrown _ dq osq), Lib.hid (HBz.out.later (below_regrown _ dq osq)), Lib.hid (HAz.out.later (below_regrown _ dq osq))⟩
                case measure => simp [intOf]; omega
              · have HCA := Lib.hid (HCW.out ca)
                rw [show T.compF T.decomps.length ca = true from hca] at HCA
                have HCAT := Lib.hid hca
                cases hcb : T.comp cb
                · have HCB := Lib.hid (HCW.out cb)
                  rw [show T.compF T.decomps.length cb = false from hcb] at HCB
                  have HN : Hid (∀ i b, i < q + 1 → T.decomps[i]? = some b → conflB T (ca, ta) b = false) := Lib.hid (fun i b hi hib => by
                    rcases Nat.lt_or_ge i q with h | h
                    · exact HSq.out i b h hib
                    · obtain rfl : i = q := by omega
                      rw [HXq.out] at hib; cases hib
                      unfold conflB; simp only; rw [hcb]; simp)
                  clear hca hcb HCW
                  obtain ⟨x0, x1, x2, x3, x4, x5, x6, x7, x8, x9, x10, x11⟩ := (show Blk _ _ _ #[_, _, _, _, _, _, _, _, _, _, _, _] from by have h := HBz.out; rw [HTC.out] at h; exact h).tabG
                  obtain ⟨v0, v1⟩ := grown2 HAz.out
                  obtain ⟨y0, y1⟩ := grown2 HVb.out
                  refine wp_region_quiet_below (by kernel_rfl) (by kernel_rfl) ?_
                  repeat (go_big_quiet_step ((go_at_call 106; first | (with_reducible exact quiet_t (fun W hW => HCA.out W hW)) | (with_reducible exact quiet_t (fun W hW => HCB.out W hW)))))
                  refine wpQuiet_nil ?_
                  rintro _ ⟨⟨dq, osq⟩, rfl⟩
                  clear x0 x1 x2 x3 x4 x5 x6 x7 x8 x9 x10 x11 v0 v1 y0 y1
                  go_wp2_with fail
                  go_roundw
                  case rel => exact ⟨q + 1, by omega, by go_num, HN, below_next hbelz (below_regrown _ dq osq), Lib.hid (HBz.out.later (below_regrown _ dq osq)), Lib.hid (HAz.out.later (below_regrown _ dq osq))⟩
                  case measure => simp [intOf]; omega
                · have HCB := Lib.hid (HCW.out cb)
                  rw [show T.compF T.decomps.length cb = true from hcb] at HCB
                  obtain ⟨a1, a2, hta⟩ := comp_to HFA.out hca
                  obtain ⟨b1, b2, htb⟩ := comp_to HFB.out hcb
                  obtain ⟨ada, hA', hda, h0⟩ := HTA.out 0 a1 (by rw [hta]; rfl)
                  subst hA'
                  obtain ⟨_, hA', _, h1⟩ := HTA.out 1 a2 (by rw [hta]; rfl)
                  cases hA'
                  obtain ⟨adb, hA', hdb, g0⟩ := HTB.out 0 b1 (by rw [htb]; rfl)
                  subst hA'
                  obtain ⟨_, hA', _, g1⟩ := HTB.out 1 b2 (by rw [htb]; rfl)
                  cases hA'
                  have HCE : Hid (conflB T (ca, ta) (cb, tb) = (decide (a1 = b1) && decide (a2 = b2))) := Lib.hid (by
                    unfold conflB; simp only; rw [hca, hcb, hta, htb, Bool.true_and, Bool.true_and]
                    by_cases h1 : a1 = b1
                    · by_cases h2 : a2 = b2
                      · rw [decide_eq_true h1, decide_eq_true h2, decide_eq_true (by rw [h1, h2])]; rfl
                      · rw [decide_eq_true h1, decide_eq_false h2, decide_eq_false (by intro e; simp at e; exact h2 e.2)]; rfl
                    · rw [decide_eq_false h1, decide_eq_false (by intro e; simp at e; exact h1 e.1)]; rfl)
                  have la : ta.length = 2 := by rw [hta]; rfl
                  have lb : tb.length = 2 := by rw [htb]; rfl
                  have la0 : (0 : Int) < (ta.length : Int) := by omega
                  have la1 : (1 : Int) < (ta.length : Int) := by omega
                  have la2 : 0 < ta.length := by omega
                  have la3 : 1 < ta.length := by omega
                  have lb0 : (0 : Int) < (tb.length : Int) := by omega
                  have lb1 : (1 : Int) < (tb.length : Int) := by omega
                  have lb2 : 0 < tb.length := by omega
                  have lb3 : 1 < tb.length := by omega
                  have HA1 := Lib.hid h0
                  have HA2 := Lib.hid (show w.cell? { block := ada.block, off := ada.off + 1, spot := none } = some (.int .i64 a2) from h1)
                  have HB1 := Lib.hid g0
                  have HB2 := Lib.hid (show w.cell? { block := adb.block, off := adb.off + 1, spot := none } = some (.int .i64 b2) from g1)
                  have HNC : Hid (conflB T (ca, ta) (cb, tb) = false → ∀ i b, i < q + 1 → T.decomps[i]? = some b → conflB T (ca, ta) b = false) := Lib.hid (fun hc i b hi hib => by
                    rcases Nat.lt_or_ge i q with h | h
                    · exact HSq.out i b h hib
                    · obtain rfl : i = q := by omega
                      rw [HXq.out] at hib; cases hib
                      exact hc)
                  clear hca hcb HCW hta htb h0 h1 g0 g1 la lb HTA HTB
                  by_cases h1 : a1 = b1
                  · have q1 : (a1 == b1) = true := by rw [beq_iff_eq]; exact h1
                    by_cases h2 : a2 = b2
                    · have q2 : (a2 == b2) = true := by rw [beq_iff_eq]; exact h2
                      have HN := Lib.hid (HR.out.trans (HH7.out.fail (by show some T.rule8 = some false; rw [nodup_fail HX.out (by omega) HXq.out (by rw [HCE.out, decide_eq_true h1, decide_eq_true h2]; rfl)])))
                      clear h1 h2
                      obtain ⟨x0, x1, x2, x3, x4, x5, x6, x7, x8, x9, x10, x11⟩ := (show Blk _ _ _ #[_, _, _, _, _, _, _, _, _, _, _, _] from by have h := HBz.out; rw [HTC.out] at h; exact h).tabG
                      obtain ⟨v0, v1⟩ := grown2 HAz.out
                      obtain ⟨y0, y1⟩ := grown2 HVb.out
                      have n0 := cell_regrown ((hbelz.cell (p := ada.add 0) (by rw [block_of_add]; exact hda)).trans HA1.out)
                      have n0' : ∀ d os, (Go.Sort.grow (redrawn wz d) os).cell? ada = some (.int .i64 a1) := n0
                      have n1 := cell_regrown ((hbelz.cell (p := { block := ada.block, off := ada.off + 1, spot := none }) hda).trans HA2.out)
                      have o0 := cell_regrown ((hbelz.cell (p := adb.add 0) (by rw [block_of_add]; exact hdb)).trans HB1.out)
                      have o0' : ∀ d os, (Go.Sort.grow (redrawn wz d) os).cell? adb = some (.int .i64 b1) := o0
                      have o1 := cell_regrown ((hbelz.cell (p := { block := adb.block, off := adb.off + 1, spot := none }) hdb).trans HB2.out)
                      refine wp_region_quiet_below (by kernel_rfl) (by kernel_rfl) ?_
                      repeat (go_big_quiet_step ((go_at_call 106; first | (with_reducible exact quiet_t (fun W hW => HCA.out W hW)) | (with_reducible exact quiet_t (fun W hW => HCB.out W hW)))))
                      refine wpQuiet_nil ?_
                      rintro _ ⟨⟨dq, osq⟩, rfl⟩
                      clear x0 x1 x2 x3 x4 x5 x6 x7 x8 x9 x10 x11 v0 v1 y0 y1 n0 n0' n1 o0 o0' o1
                      go_wp2_with fail
                      go_ret
                      rw [HN.out]
                      exact ⟨rfl, below_next hbelz (below_regrown _ dq osq)⟩
                    · have q2 : (a2 == b2) = false := by rw [beq_eq_false_iff_ne]; exact h2
                      have HN := Lib.hid (HNC.out (by rw [HCE.out, decide_eq_false h2, Bool.and_false]))
                      clear h1 h2
                      obtain ⟨x0, x1, x2, x3, x4, x5, x6, x7, x8, x9, x10, x11⟩ := (show Blk _ _ _ #[_, _, _, _, _, _, _, _, _, _, _, _] from by have h := HBz.out; rw [HTC.out] at h; exact h).tabG
                      obtain ⟨v0, v1⟩ := grown2 HAz.out
                      obtain ⟨y0, y1⟩ := grown2 HVb.out
                      have n0 := cell_regrown ((hbelz.cell (p := ada.add 0) (by rw [block_of_add]; exact hda)).trans HA1.out)
                      have n0' : ∀ d os, (Go.Sort.grow (redrawn wz d) os).cell? ada = some (.int .i64 a1) := n0
                      have n1 := cell_regrown ((hbelz.cell (p := { block := ada.block, off := ada.off + 1, spot := none }) hda).trans HA2.out)
                      have o0 := cell_regrown ((hbelz.cell (p := adb.add 0) (by rw [block_of_add]; exact hdb)).trans HB1.out)
                      have o0' : ∀ d os, (Go.Sort.grow (redrawn wz d) os).cell? adb = some (.int .i64 b1) := o0
                      have o1 := cell_regrown ((hbelz.cell (p := { block := adb.block, off := adb.off + 1, spot := none }) hdb).trans HB2.out)
                      refine wp_region_quiet_below (by kernel_rfl) (by kernel_rfl) ?_
                      repeat (go_big_quiet_step ((go_at_call 106; first | (with_reducible exact quiet_t (fun W hW => HCA.out W hW)) | (with_reducible exact quiet_t (fun W hW => HCB.out W hW)))))
                      refine wpQuiet_nil ?_
                      rintro _ ⟨⟨dq, osq⟩, rfl⟩
                      clear x0 x1 x2 x3 x4 x5 x6 x7 x8 x9 x10 x11 v0 v1 y0 y1 n0 n0' n1 o0 o0' o1
                      go_wp2_with fail
                      go_roundw
                      case rel => exact ⟨q + 1, by omega, by go_num, HN, below_next hbelz (below_regrown _ dq osq), Lib.hid (HBz.out.later (below_regrown _ dq osq)), Lib.hid (HAz.out.later (below_regrown _ dq osq))⟩
                      case measure => simp [intOf]; omega
                  · have q1 : (a1 == b1) = false := by rw [beq_eq_false_iff_ne]; exact h1
                    have HN := Lib.hid (HNC.out (by rw [HCE.out, decide_eq_false h1, Bool.false_and]))
                    clear h1
                    obtain ⟨x0, x1, x2, x3, x4, x5, x6, x7, x8, x9, x10, x11⟩ := (show Blk _ _ _ #[_, _, _, _, _, _, _, _, _, _, _, _] from by have h := HBz.out; rw [HTC.out] at h; exact h).tabG
                    obtain ⟨v0, v1⟩ := grown2 HAz.out
                    obtain ⟨y0, y1⟩ := grown2 HVb.out
                    have n0 := cell_regrown ((hbelz.cell (p := ada.add 0) (by rw [block_of_add]; exact hda)).trans HA1.out)
                    have n0' : ∀ d os, (Go.Sort.grow (redrawn wz d) os).cell? ada = some (.int .i64 a1) := n0
                    have n1 := cell_regrown ((hbelz.cell (p := { block := ada.block, off := ada.off + 1, spot := none }) hda).trans HA2.out)
                    have o0 := cell_regrown ((hbelz.cell (p := adb.add 0) (by rw [block_of_add]; exact hdb)).trans HB1.out)
                    have o0' : ∀ d os, (Go.Sort.grow (redrawn wz d) os).cell? adb = some (.int .i64 b1) := o0
                    have o1 := cell_regrown ((hbelz.cell (p := { block := adb.block, off := adb.off + 1, spot := none }) hdb).trans HB2.out)
                    refine wp_region_quiet_below (by kernel_rfl) (by kernel_rfl) ?_
                    repeat (go_big_quiet_step ((go_at_call 106; first | (with_reducible exact quiet_t (fun W hW => HCA.out W hW)) | (with_reducible exact quiet_t (fun W hW => HCB.out W hW)))))
                    refine wpQuiet_nil ?_
                    rintro _ ⟨⟨dq, osq⟩, rfl⟩
                    clear x0 x1 x2 x3 x4 x5 x6 x7 x8 x9 x10 x11 v0 v1 y0 y1 n0 n0' n1 o0 o0' o1
                    go_wp2_with fail
                    go_roundw
                    case rel => exact ⟨q + 1, by omega, by go_num, HN, below_next hbelz (below_regrown _ dq osq), Lib.hid (HBz.out.later (below_regrown _ dq osq)), Lib.hid (HAz.out.later (below_regrown _ dq osq))⟩
                    case measure => simp [intOf]; omega
            · obtain rfl : q = j := by omega
              have HN := Lib.hid (nodup_next HX.out HS.out HSq.out)
              go_wp2_with fail
              go_roundw
              case rel => exact ⟨q + 1, by omega, by go_num, HN, hbelq, HBq⟩
              case measure => simp [intOf]; omega
        · obtain rfl : j = T.decomps.length := by omega
          have HH8 := Lib.hid (HH7.out.next (by show some T.rule8 = some true; rw [nodup_end HS.out]))
          have x11 := (show Blk _ _ _ #[_, _, _, _, _, _, _, _, _, _, _, _] from by have h := HB.out; rw [HTC.out] at h; exact h).at_ (i := 11) rfl
          clear HS HDC HH7 HCMP HFK
          go_wp2_with fail
          clear x11
          go_loopw [105] (fun i wr => ∃ (j : Nat), j ≤ T.prototypes.length ∧ i = .int .i64 j ∧ Hid ((T.prototypes.drop j).all T.protoOk = T.rule9) ∧ Below w.heap.size w wr ∧ Hid (Blk wr w.heap.size 26 tc)) (fun i _ => T.prototypes.length - (intOf i).toNat)
          case atStart => exact ⟨0, by omega, rfl, Lib.hid rfl, hbel, HB⟩
          case round =>
            obtain ⟨j, hj, rfl, HS, hbel, HB⟩ := hrel
            by_cases hjl : j < T.prototypes.length
            · obtain ⟨⟨cc, tg⟩, hxj, _⟩ := get_el hjl
              obtain ⟨aj, sv, rfl, ha, d0, d1, hto⟩ := HPR.out j _ hxj
              simp only at d0 d1 hto
              obtain ⟨A', c', rfl, he1, he2, _, hcl⟩ := id hto
              have HTO := Lib.hid hcl
              have hlt : tg.length ≤ 9223372036854775807 := by unfold maxLen at he2; omega
              obtain ⟨e0, e1⟩ := map_cells hbel ha d0 d1
              have HX := Lib.hid hxj
              have hbelw := hbel.alloc hbel.size (.cells #[.int .i64 cc, .slice A' tg.length c'] 46)
              have HB' := Lib.hid (HB.out.alloc (.cells #[.int .i64 cc, .slice A' tg.length c'] 46))
              have HM := Lib.hid (Blk.new wr 46 #[.int .i64 cc, .slice A' tg.length c'])
              have x9 := (show Blk _ _ _ #[_, _, _, _, _, _, _, _, _, _, _, _] from by have h := HB'.out; rw [HTC.out] at h; exact h).at_ (i := 9) rfl
              have HCA := Lib.hid (HFD.out cc _ (HT.out _ hbelw))
              clear d0 d1 hxj ha hto hcl he1 he2 HB
              have r0 : (0 : Int) ≤ (j : Int) := by omega
              have r1 : (j : Int) < (T.prototypes.length : Int) := by omega
              by_cases hn : findL T.decomps cc = []
              · rw [hn] at HCA
                have q3 : ([] : List Int).length = 0 := rfl
                have HNN := Lib.hid hn
                clear hn
                go_wp2_with fail
                refine HCA.out.mono ?_
                rintro e w2 ⟨u, rfl, hu, b2⟩
                obtain ⟨Au, cu, rfl, _⟩ := hu
                have hbel2 := below_next hbelw b2
                have HB2 := Lib.hid (HB'.out.later b2)
                have HM2 := Lib.hid (HM.out.later b2)
                have m0 := HM2.out.at_ (i := 0) (u := .int .i64 cc) rfl
                have HIA := Lib.hid (HIG.out cc _ (HT.out _ hbel2))
                clear x9
                obtain ⟨x0, x1, x2, x3, x4, x5, x6, x7, x8, x9, x10, x11⟩ := (show Blk _ _ _ #[_, _, _, _, _, _, _, _, _, _, _, _] from by have h := HB2.out; rw [HTC.out] at h; exact h).tab
                clear e0 e1 HB' HM b2 hbel hbelw
                cases hig : T.ignB cc
                · rw [hig] at HIA
                  obtain ⟨Rt, hRt⟩ : ∃ Rt, Rt = tg.all T.protoEl := ⟨_, rfl⟩
                  have HO : Hid ((tg.drop 0).all T.protoEl = Rt) := Lib.hid hRt.symm
                  have HOK : Hid (T.protoOk (cc, tg) = Rt) := Lib.hid (by rw [hRt]; unfold Tab.protoOk Tab.plainB; simp only; rw [HNN.out, hig]; rfl)
                  clear hig hRt
                  go_wp2_with fail
                  refine HIA.out.mono ?_
                  rintro e w3 ⟨rfl, b3⟩
                  have hbel3 := below_next hbel2 b3
                  have HB3 := Lib.hid (HB2.out.later b3)
                  have m1 := (HM2.out.later b3).at_ (i := 1) (u := .slice A' tg.length c') rfl
                  clear x0 x1 x2 x3 x4 x5 x6 x7 x8 x9 x10 x11 m0 HB2 HM2 b3 hbel2 q3
                  go_wp2_with fail
                  clear m1
                  go_loopw [125] (fun i wr => ∃ (q : Nat), q ≤ tg.length ∧ i = .int .i64 q ∧ Hid ((tg.drop q).all T.protoEl = Rt) ∧ Below w.heap.size w wr ∧ Hid (Blk wr w.heap.size 26 tc)) (fun i _ => tg.length - (intOf i).toNat)
                  case atStart => exact ⟨0, by omega, rfl, HO, hbel3, HB3⟩
                  case round =>
                    obtain ⟨q, hq, rfl, HSq, hbelq, HBq⟩ := hrel
                    clear HO HB3 hbel3
                    by_cases hql : q < tg.length
                    · obtain ⟨y, hyq, _⟩ := get_el hql
                      obtain ⟨ay, rfl, hay, d0⟩ := HTO.out q _ hyq
                      have e0 := (hbelq.cell (p := ay.add q) (by rw [block_of_add]; exact hay)).trans d0
                      have HXq := Lib.hid hyq
                      have x9 := (show Blk _ _ _ #[_, _, _, _, _, _, _, _, _, _, _, _] from by have h := HBq.out; rw [HTC.out] at h; exact h).at_ (i := 9) rfl
                      have HC1 := Lib.hid (HFD.out y _ (HT.out _ hbelq))
                      have HSY := Lib.hid (fun W => refSyl_any y W)
                      clear d0 hyq hay
                      have s0 : (0 : Int) ≤ (q : Int) := by omega
                      have s1 : (q : Int) < (tg.length : Int) := by omega
                      by_cases hyn : findL T.decomps y = []
                      · rw [hyn] at HC1
                        have q3 : ([] : List Int).length = 0 := rfl
                        have HYN := Lib.hid hyn
                        clear hyn
                        go_wp2_with fail
                        refine HC1.out.mono ?_
                        rintro e w4 ⟨u, rfl, hu, b4⟩
                        obtain ⟨Av, cv, rfl, _⟩ := hu
                        have hbel4 := below_next hbelq b4
                        have HB4 := Lib.hid (HBq.out.later b4)
                        have HIY := Lib.hid (HIG.out y _ (HT.out _ hbel4))
                        obtain ⟨x0, x1, x2, x3, x4, x5, x6, x7, x8, x9, x10, x11⟩ := (show Blk _ _ _ #[_, _, _, _, _, _, _, _, _, _, _, _] from by have h := HB4.out; rw [HTC.out] at h; exact h).tab
                        clear e0 b4 HBq
                        cases hiy : T.ignB y
                        · rw [hiy] at HIY
                          cases hsy : sylB y
                          · rw [hsy] at HSY
                            have HOE : Hid (T.protoEl y = decide (findL T.prototypes y = [])) := Lib.hid (by unfold Tab.protoEl Tab.plainB; rw [HYN.out, hiy, hsy]; rfl)
                            clear hiy hsy
                            go_wp2_with fail
                            refine HIY.out.mono ?_
                            rintro e w5 ⟨rfl, b5⟩
                            have hbel5 := below_next hbel4 b5
                            have HB5 := Lib.hid (HB4.out.later b5)
                            have y11 := (show Blk _ _ _ #[_, _, _, _, _, _, _, _, _, _, _, _] from by have h := HB5.out; rw [HTC.out] at h; exact h).at_ (i := 11) rfl
                            have HFY := Lib.hid (HFP.out y _ (HT.out _ hbel5))
                            clear x0 x1 x2 x3 x4 x5 x6 x7 x8 x9 x10 x11 HB4 b5
                            go_wp2_with fail
                            refine (HSY.out _).mono ?_
                            rintro e w6 ⟨rfl, rfl⟩
                            by_cases hpn : findL T.prototypes y = []
                            · have HN := Lib.hid (each_go HXq.out HSq.out (HOE.out.trans (decide_eq_true hpn)))
                              rw [hpn] at HFY
                              clear hpn
                              go_wp2_with fail
                              refine HFY.out.mono ?_
                              rintro e w6 ⟨u, rfl, hu, b6⟩
                              obtain ⟨Aw, cw, rfl, _⟩ := hu
                              have HB6 := Lib.hid (HB5.out.later b6)
                              clear y11 HB5
                              go_wp2_with fail
                              go_roundw
                              case rel => exact ⟨q + 1, by omega, by go_num, HN, below_next hbel5 b6, HB6⟩
                              case measure => simp [intOf]; omega
                            · have HN := Lib.hid (HR.out.trans (HH8.out.fail (by show some T.rule9 = some false; rw [each_no HX.out HS.out (HOK.out.trans (each_no HXq.out HSq.out (HOE.out.trans (decide_eq_false hpn))))])))
                              have hp := length_pos_ne hpn
                              have p3 : (0 : Int) < ((findL T.prototypes y).length : Int) := by omega
                              clear hpn
                              go_wp2_with fail
                              refine HFY.out.mono ?_
                              rintro e w6 ⟨u, rfl, hu, b6⟩
                              obtain ⟨Aw, cw, rfl, _⟩ := hu
                              clear y11 HB5
                              go_wp2_with fail
                              go_ret
                              rw [HN.out]
                              exact ⟨rfl, below_next hbel5 b6⟩
                          · rw [hsy] at HSY
                            have HN := Lib.hid (HR.out.trans (HH8.out.fail (by show some T.rule9 = some false; rw [each_no HX.out HS.out (HOK.out.trans (each_no HXq.out HSq.out (by unfold Tab.protoEl; rw [hsy]; simp)))])))
                            clear hiy hsy
                            go_wp2_with fail
                            refine HIY.out.mono ?_
                            rintro e w5 ⟨rfl, b5⟩
                            clear x0 x1 x2 x3 x4 x5 x6 x7 x8 x9 x10 x11 HB4
                            go_wp2_with fail
                            refine (HSY.out _).mono ?_
                            rintro e w6 ⟨rfl, rfl⟩
                            go_wp2_with fail
                            go_ret
                            rw [HN.out]
                            exact ⟨rfl, below_next hbel4 b5⟩
                        · rw [hiy] at HIY
                          have HN := Lib.hid (HR.out.trans (HH8.out.fail (by show some T.rule9 = some false; rw [each_no HX.out HS.out (HOK.out.trans (each_no HXq.out HSq.out (by unfold Tab.protoEl Tab.plainB; rw [hiy]; simp)))])))
                          clear hiy
                          go_wp2_with fail
                          refine HIY.out.mono ?_
                          rintro e w5 ⟨rfl, b5⟩
                          clear x0 x1 x2 x3 x4 x5 x6 x7 x8 x9 x10 x11 HB4
                          go_wp2_with fail
                          go_ret
                          rw [HN.out]
                          exact ⟨rfl, below_next hbel4 b5⟩
                      · have HN := Lib.hid (HR.out.trans (HH8.out.fail (by show some T.rule9 = some false; rw [each_no HX.out HS.out (HOK.out.trans (each_no HXq.out HSq.out (by unfold Tab.protoEl Tab.plainB; rw [decide_eq_false hyn]; rfl)))])))
                        have hp := length_pos_ne hyn
                        have p3 : (0 : Int) < ((findL T.decomps y).length : Int) := by omega
                        clear hyn
                        go_wp2_with fail
                        refine HC1.out.mono ?_
                        rintro e w4 ⟨u, rfl, hu, b4⟩
                        obtain ⟨Av, cv, rfl, _⟩ := hu
                        clear x9 e0
                        go_wp2_with fail
                        go_ret
                        rw [HN.out]
                        exact ⟨rfl, below_next hbelq b4⟩
                    · have HN := Lib.hid (each_go HX.out HS.out (HOK.out.trans (each_end (by omega) HSq.out)))
                      go_wp2_with fail
                      go_roundw
                      case rel => exact ⟨j + 1, by omega, by go_num, HN, hbelq, HBq⟩
                      case measure => simp [intOf]; omega
                · rw [hig] at HIA
                  have HN := Lib.hid (HR.out.trans (HH8.out.fail (by show some T.rule9 = some false; rw [each_no HX.out HS.out (by unfold Tab.protoOk Tab.plainB; simp only; rw [hig]; simp)])))
                  clear hig
                  go_wp2_with fail
                  refine HIA.out.mono ?_
                  rintro e w3 ⟨rfl, b3⟩
                  clear x0 x1 x2 x3 x4 x5 x6 x7 x8 x9 x10 x11 m0
                  go_wp2_with fail
                  go_ret
                  rw [HN.out]
                  exact ⟨rfl, below_next hbel2 b3⟩
              · have HN := Lib.hid (HR.out.trans (HH8.out.fail (by show some T.rule9 = some false; rw [each_no HX.out HS.out (by unfold Tab.protoOk Tab.plainB; simp only; rw [decide_eq_false hn]; rfl)])))
                have hp := length_pos_ne hn
                have p3 : (0 : Int) < ((findL T.decomps cc).length : Int) := by omega
                clear hn
                go_wp2_with fail
                refine HCA.out.mono ?_
                rintro e w2 ⟨u, rfl, hu, b2⟩
                obtain ⟨Au, cu, rfl, _⟩ := hu
                clear x9 e0 e1
                go_wp2_with fail
                go_ret
                rw [HN.out]
                exact ⟨rfl, below_next hbelw b2⟩
            · obtain rfl : j = T.prototypes.length := by omega
              have HN := Lib.hid (HR.out.trans ((HH8.out.next (by show some T.rule9 = some true; rw [each_end (by omega) HS.out])).all))
              go_wp2_with fail
              go_ret
              rw [HN.out]
              exact ⟨rfl, hbel⟩
end Go.Proofs.YtneinkpfhkojgaaDoor
/-
  The walks through the reference's acceptable and ordered.
-/
namespace Go.Proofs.YtneinkpfhkojgaaDoor
open Go.RowKit ND

set_option maxRecDepth 100000 in
set_option maxHeartbeats 1000000 in
theorem refAcc_any (t : Tv) (T : Tab) (v : Value) (xs : List Int) (w : World) (ht : TabR w w.heap.size t T) (hv : Ints w w.heap.size .i64 v xs) :
    Calls Tryd.prog 65 #[t.val, v] w fun e w' => e = .returned (.int .i64 (accE T xs)) ∧ Below w.heap.size w w' := by
  obtain ⟨A, c, rfl, _⟩ := id hv
  have HB0 : Hid (Below w.heap.size w (w.alloc (.cells t.cells 26))) := Lib.hid ((Below.refl _ _).alloc (Nat.le_refl _) _)
  have HT := Lib.hid (check_ref t T _ (ht.later HB0.out))
  have HTB : Hid (Tbl (w.alloc (.cells t.cells 26)) w.heap.size t T) := Lib.hid ⟨Blk.new _ _ _, ht.later HB0.out⟩
  have HV := Lib.hid (hv.later HB0.out)
  clear hv ht
  obtain ⟨R, hR⟩ : ∃ R, R = accE T xs := ⟨_, rfl⟩
  rw [← hR]
  have HR := Lib.hid hR
  clear hR
  go_enter Tryd.func65, Tryd.ntmps65
  go_upto_region 1 with fail
  generalize w.alloc (.cells t.cells 26) = w1 at *
  obtain ⟨x0, x1, x2, x3, x4, x5, x6, x7, x8, x9, x10, x11⟩ := HTB.out.1.tab
  by_cases h1 : T.check = 0
  · have hc1 : (T.check != 0) = false := by rw [h1]; rfl
    by_cases h2 : xs.length ≤ 4096
    · have h4 : ¬ (4096 : Int) < (xs.length : Int) := by omega
      have H1 := Lib.hid h1
      clear h1
      go_wp2_with (go_at_call 84; refine HT.out.mono ?_; rintro e w2 ⟨rfl, b2⟩)
      have HV2 := Lib.hid (HV.out.later b2)
      have HB2 := Lib.hid (below_next HB0.out b2)
      clear x0 x1 x2 x3 x4 x5 x6 x7 x8 x9 x10 x11 HT HTB HV HB0 b2
      go_loopw [15] (fun i wr => ∃ k : Nat, k ≤ xs.length ∧ i = .int .i64 k ∧ Hid ((xs.take k).all scalarB = true) ∧ Hid (Below w2.heap.size w2 wr)) (fun i _ => xs.length - (intOf i).toNat)
      case atStart => exact ⟨0, by omega, rfl, Lib.hid (by simp), Lib.hid (Below.refl _ _)⟩
      case round =>
        obtain ⟨k, hk, rfl, HS, HBr⟩ := hrel
        by_cases hlt : k < xs.length
        · obtain ⟨x, hxk, _⟩ := get_of hlt
          obtain ⟨_, _, hve, _, _, _, hcell⟩ := HV2.out
          cases hve
          obtain ⟨ad, rfl, ha, hce⟩ := hcell k x hxk
          have e1 := (HBr.out.cell (p := ad.add k) (by rw [block_of_add]; exact ha)).trans hce
          have HX := Lib.hid hxk
          have k0 : (0 : Int) ≤ (k : Int) := by omega
          have k1 : (k : Int) < (xs.length : Int) := by omega
          have hb := Lib.hid (fun w => refScalar_any x w)
          clear hce hxk ha hcell
          cases hs : scalarB x
          · have HE := Lib.hid (accE_bad H1.out h2 (all_bad HX.out hs))
            rw [hs] at hb
            clear hs
            go_wp2_with (go_at_call 85; refine (hb.out _).mono ?_; rintro e w4 ⟨rfl, rfl⟩)
            go_ret
            rw [HR.out, HE.out]
            exact ⟨rfl, below_next HB2.out HBr.out⟩
          · have HE := Lib.hid (all_step HS.out HX.out hs)
            rw [hs] at hb
            clear hs
            go_wp2_with (go_at_call 85; refine (hb.out _).mono ?_; rintro e w4 ⟨rfl, rfl⟩)
            go_roundw
            case rel => exact ⟨k + 1, by omega, by go_num, HE, HBr⟩
            case measure => simp [intOf]; omega
        · have HE := Lib.hid (accE_ok H1.out h2 (by have := HS.out; rwa [List.take_of_length_le (by omega)] at this))
          go_wp2_with fail
          go_ret
          rw [HR.out, HE.out]
          exact ⟨rfl, below_next HB2.out HBr.out⟩
    · have HE := Lib.hid (accE_full (l := xs) h1 (by omega))
      have h4 : (4096 : Int) < (xs.length : Int) := by omega
      clear h1 h2
      go_wp2_with (go_at_call 84; refine HT.out.mono ?_; rintro e w2 ⟨rfl, b2⟩)
      go_ret
      rw [HR.out, HE.out]
      exact ⟨rfl, below_next HB0.out b2⟩
  · have HE := Lib.hid (accE_check (l := xs) h1)
    have hc1 : (T.check != 0) = true := by simpa using h1
    clear h1
    go_wp2_with (go_at_call 84; refine HT.out.mono ?_; rintro e w2 ⟨rfl, b2⟩)
    go_ret
    rw [HR.out, HE.out]
    exact ⟨rfl, below_next HB0.out b2⟩

set_option maxRecDepth 100000 in
set_option maxHeartbeats 4000000 in
theorem ordered_any (t : Tv) (T : Tab) (v : Value) (xs : List Int) (w : World) (ht : TabR w w.heap.size t T) (hck : T.check = 0) (hlen : xs.length ≤ 4096) (hv : Ints w w.heap.size .i64 v xs) :
    Calls Tryd.prog 66 #[t.val, v] w (RetRow w (can T.classOf xs)) := by
  obtain ⟨A, c, rfl, _⟩ := id hv
  have HF := Lib.hid (fun x => cls_range hck x)
  obtain ⟨f, hf⟩ : ∃ f, T.classOf = f := ⟨_, rfl⟩
  have HC : Hid (∀ (b : Nat) (W : World) (x : Int), Tbl W b t T → Calls Tryd.prog 18 #[.agg #[t.c0, t.c1, t.c2, t.c3, t.c4, t.c5, t.c6, t.c7, t.c8, t.c9, t.c10, t.c11], .int .i64 x] W fun e W' => e = .returned (.int .i64 (f x)) ∧ Below W.heap.size W W') := Lib.hid fun b W x h => by
    have h2 := refClass_any t T x W h.2
    rw [hf] at h2; exact h2
  rw [hf] at HF ⊢
  have HB0 : Hid (Below w.heap.size w (w.alloc (.cells t.cells 26))) := Lib.hid ((Below.refl _ _).alloc (Nat.le_refl _) _)
  have HT : Hid (Tbl (w.alloc (.cells t.cells 26)) w.heap.size t T) := Lib.hid ⟨Blk.new _ _ _, ht.later HB0.out⟩
  have HV := Lib.hid (hv.later HB0.out)
  clear hv ht hck hf
  go_enter Tryd.func66, Tryd.ntmps66
  go_upto_region 1 with fail
  generalize w.alloc (.cells t.cells 26) = w1 at *
  obtain ⟨tb, htb⟩ : ∃ tb, w.heap.size = tb := ⟨_, rfl⟩
  rw [htb] at HT
  simp only [htb]
  obtain ⟨i0, hi, hz0, hz1, hz2⟩ := info_parts Tryd.infoInt'
  go_upto_region 2 with (at_builtin; refine wpList_append_ints (by rfl) (.const (.slice none 0 0)) (.tmp 10) rfl Tryd.underlying22 hi hz0 hz1 hz2 w1.heap.size w1.heap.size (.slice none 0 0) [] (.slice A xs.length c) xs rfl (World.ownsRow_nil _ _ _ _) rfl HV.out (by simp; omega) (Nat.le_refl _) ?_; intro v5 w2 ho hg _; simp only [List.nil_append] at ho; obtain ⟨A5, c5, rfl, _⟩ := id (Ints.of_own ho); have HO := Lib.hid ho; have HB2 := Lib.hid ((Below.refl _ _).grown hg (Nat.le_refl _) (fun k hk => by cases hk)); clear ho hg)
  go_wp2_with fail
  go_loopg [6] (leftO f xs + 1) (fun gk s6 wr => ∃ (o : List Int) (b : Bool), s6 = .bool b ∧ Hid (o.length = xs.length ∧ can f o = can f xs ∧ (b = false → SortN f xs.length o) ∧ (b = true → leftO f o < gk)) ∧ Hid (wr.ownsRow w1.heap.size 3 1 (.slice A5 xs.length c5) xs.length (o.map (Value.int .i64))) ∧ Hid (Below w1.heap.size w1 wr))
  case atStart => exact ⟨xs, true, rfl, Lib.hid ⟨rfl, rfl, (fun h => by cases h), fun _ => by omega⟩, HO, HB2⟩
  case round =>
    obtain ⟨o, b, rfl, HS, HOr, HBr⟩ := hrel
    cases b
    · have HD := Lib.hid (sorted_done HS.out.1 HS.out.2.1 (Nat.le_refl _) (HS.out.2.2.1 rfl))
      go_wp2_with fail
      go_ret
      refine ⟨_, rfl, ?_, HB0.out.trans (HBr.out.mono HB0.out.size)⟩
      rw [can_length, ← HD.out]
      exact row_le HOr.out HB0.out.size
    · have HG := Lib.hid (HS.out.2.2.2 rfl)
      have HI := Lib.hid (Bub.start (f := f) HS.out.1 HS.out.2.1)
      clear HS
      go_wp2_with fail
      go_loopw [7, 6] (fun s7 s6 wr => ∃ (p : Nat) (o' : List Int) (more : Bool), s7 = .int .i64 ((p + 1 : Nat) : Int) ∧ s6 = .bool more ∧ Hid (Bub f xs o o' (p + 1) more) ∧ Hid (wr.ownsRow w1.heap.size 3 1 (.slice A5 xs.length c5) xs.length (o'.map (Value.int .i64))) ∧ Hid (Below w1.heap.size w1 wr) ∧ p ≤ xs.length) (fun i _ _ => xs.length + 1 - (intOf i).toNat)
      case atStart => exact ⟨0, o, false, rfl, rfl, HI, HOr, HBr, by omega⟩
      case round =>
        clear HI HOr HBr
        obtain ⟨p, o', more, rfl, rfl, HI, HO6, HB6, hpl⟩ := hrel
        by_cases hlt : p + 1 < xs.length
        · have hol := HI.out.len
          obtain ⟨x, hx⟩ : ∃ x, o'[p]? = some x := ⟨_, List.getElem?_eq_getElem (by omega)⟩
          obtain ⟨y, hy⟩ : ∃ y, o'[p + 1]? = some y := ⟨_, List.getElem?_eq_getElem (by omega)⟩
          obtain ⟨gb, cap, e, hgb, _⟩ := HO6.out.form (by omega)
          cases e
          have hcp := (HO6.out.cellAt p (by omega)).trans (by rw [List.getElem?_map, hx]; rfl : (o'.map (Value.int .i64))[p]? = some (.int .i64 x))
          have hcq := (HO6.out.cellAt (p + 1) (by omega)).trans (by rw [List.getElem?_map, hy]; rfl : (o'.map (Value.int .i64))[p + 1]? = some (.int .i64 y))
          have ep := cell_regrown hcp
          have eq := cell_regrown hcq
          have HX := Lib.hid hx
          have HY := Lib.hid hy
          have HTr := Lib.hid (HT.out.later HB6.out)
          have HCx : Hid (∀ V, Below wr.heap.size wr V → Calls Tryd.prog 18 #[.agg #[t.c0, t.c1, t.c2, t.c3, t.c4, t.c5, t.c6, t.c7, t.c8, t.c9, t.c10, t.c11], .int .i64 x] V fun e V' => e = .returned (.int .i64 (f x)) ∧ Below V.heap.size V V') := Lib.hid fun V hV => HC.out tb V x (HTr.out.later hV)
          have HCy : Hid (∀ V, Below wr.heap.size wr V → Calls Tryd.prog 18 #[.agg #[t.c0, t.c1, t.c2, t.c3, t.c4, t.c5, t.c6, t.c7, t.c8, t.c9, t.c10, t.c11], .int .i64 y] V fun e V' => e = .returned (.int .i64 (f y)) ∧ Below V.heap.size V V') := Lib.hid fun V hV => HC.out tb V y (HTr.out.later hV)
          have w0 : IntKind.i64.wrap (((p + 1 : Nat) : Int) - 1) = (p : Int) := by rw [IntWalk.i64_in _ (by omega)]; omega
          have w2 : ((p + 1 : Nat) : Int) - 1 = (p : Int) := by omega
          have k2 : (0 : Int) ≤ ((p + 1 : Nat) : Int) := by omega
          have k3 : (0 : Int) ≤ (p : Int) := by omega
          have k4 : (p : Int) < (xs.length : Int) := by omega
          have k5 : ((p + 1 : Nat) : Int) < (xs.length : Int) := by omega
          clear hx hy hcp hcq hol
          go_upto_region 8 with fail
          obtain ⟨x0, x1, x2, x3, x4, x5, x6, x7, x8, x9, x10, x11⟩ := HTr.out.1.tabG
          refine wp_region_quiet_below (by kernel_rfl) (by kernel_rfl) ?_
          repeat (go_big_quiet_step (first | (go_at_call 18; with_reducible exact quiet_t HCx.out) | (go_at_call 18; with_reducible exact quiet_t HCy.out)))
          refine wpQuiet_nil ?_
          rintro _ ⟨⟨dq, osq⟩, rfl⟩
          have b7 := below_regrown wr dq osq
          clear x0 x1 x2 x3 x4 x5 x6 x7 x8 x9 x10 x11 ep eq HCx HCy HTr
          have HO7 := Lib.hid (own_later HO6.out b7)
          have HB7 := Lib.hid (below_then HB6.out (Nat.le_refl _) b7)
          generalize Go.Sort.grow (redrawn wr dq) osq = w7 at *
          clear HO6 HB6 b7
          by_cases h8 : 0 < f y
          · by_cases h9 : f y < f x
            · have g8 : decide (0 < f y) = true := decide_eq_true h8
              have g9 : decide (f y < f x) = true := decide_eq_true h9
              have HN := Lib.hid (HI.out.swap HF.out HX.out HY.out h8 h9)
              have hcp := (HO7.out.cellAt p (by omega)).trans (by rw [List.getElem?_map, HX.out]; rfl : (o'.map (Value.int .i64))[p]? = some (.int .i64 x))
              have hcq := (HO7.out.cellAt (p + 1) (by omega)).trans (by rw [List.getElem?_map, HY.out]; rfl : (o'.map (Value.int .i64))[p + 1]? = some (.int .i64 y))
              have fp := HO7.out.frozenAt p
              have fq := HO7.out.frozenAt (p + 1)
              go_wp2_with fail
              go_region
              clear hcp hcq fp fq
              have HO8 : Hid (((w7.setCell ⟨gb, p, none⟩ (.int .i64 y)).setCell ⟨gb, p + 1, none⟩ (.int .i64 x)).drew.ownsRow w1.heap.size 3 1 (.slice (some ⟨gb, 0, none⟩) xs.length c5) xs.length ((swapL o' p x y).map (Value.int .i64))) := by
                have h := ((HO7.out.stored p (.int .i64 y)).1.stored (p + 1) (.int .i64 x)).1
                rw [← List.map_set, ← List.map_set, List.set_comm _ _ (by omega : p ≠ p + 1)] at h
                exact Lib.hid h.drew
              have HB8 : Hid (Below w1.heap.size w1 ((w7.setCell ⟨gb, p, none⟩ (.int .i64 y)).setCell ⟨gb, p + 1, none⟩ (.int .i64 x)).drew) := Lib.hid (((HB7.out.setCell (p := ⟨gb, p, none⟩) hgb _).setCell (p := ⟨gb, p + 1, none⟩) hgb _).drew)
              generalize ((w7.setCell ⟨gb, p, none⟩ (.int .i64 y)).setCell ⟨gb, p + 1, none⟩ (.int .i64 x)).drew = w8 at *
              go_wp2_with fail
              go_roundw
              case rel => exact ⟨p + 1, swapL o' p x y, true, by go_num, rfl, HN, HO8, HB8, by omega⟩
              case measure => simp [intOf]; omega
            · have g8 : decide (0 < f y) = true := decide_eq_true h8
              have g9 : decide (f y < f x) = false := decide_eq_false h9
              have HN := Lib.hid (HI.out.next HX.out HY.out (fun e => h9 e.2))
              go_wp2_with fail
              go_roundw
              case rel => exact ⟨p + 1, o', more, by go_num, rfl, HN, HO7, HB7, by omega⟩
              case measure => simp [intOf]; omega
          · have g8 : decide (0 < f y) = false := decide_eq_false h8
            have HN := Lib.hid (HI.out.next HX.out HY.out (fun e => h8 e.1))
            go_wp2_with fail
            go_roundw
            case rel => exact ⟨p + 1, o', more, by go_num, rfl, HN, HO7, HB7, by omega⟩
            case measure => simp [intOf]; omega
        · have k5 : ¬ ((p + 1 : Nat) : Int) < (xs.length : Int) := by omega
          have HE : Hid (o'.length = xs.length ∧ can f o' = can f xs ∧ (more = false → SortN f xs.length o') ∧ (more = true → leftO f o' < leftO f o)) := Lib.hid ⟨HI.out.len, HI.out.can, fun h => (fun i x y h1 => (HI.out.no h).2 i x y (by omega)), HI.out.yes⟩
          go_wp2_with fail
          go_roundg (leftO f o)
          case measure => exact HG.out
          case rel => exact ⟨o', more, rfl, HE, HO6, HB6⟩
end Go.Proofs.YtneinkpfhkojgaaDoor
/-
  The walk through order.Runs.
-/
namespace Go.Proofs.YtneinkpfhkojgaaDoor
open Go.RowKit ND

/-- The runs, where there is no error. -/
def runL (T : Tab) (xs : List Int) : List Int := if accE T xs = 0 then runsL T.classOf xs else []
theorem runs_same {f : Int → Int} {xs acc : List Int} {k : Nat} {c : Int} {ins : Bool} (hx : xs[k]? = some c) (h : acc ++ runsGo f k ins (xs.drop k) = runsL f xs) (hb : ((f c != 0) != ins) = false) : acc ++ runsGo f (k + 1) ins (xs.drop (k + 1)) = runsL f xs := by
  rw [runsGo_step ins hx, if_pos (by simpa using hb)] at h; exact h
theorem runs_turn {f : Int → Int} {xs acc : List Int} {k : Nat} {c : Int} {ins : Bool} (hx : xs[k]? = some c) (h : acc ++ runsGo f k ins (xs.drop k) = runsL f xs) (hb : ((f c != 0) != ins) = true) : (acc ++ [(k : Int)]) ++ runsGo f (k + 1) (f c != 0) (xs.drop (k + 1)) = runsL f xs := by
  have hn : ((f c != 0) == ins) = false := by cases h1 : (f c != 0) <;> cases ins <;> rw [h1] at hb <;> simp at hb ⊢
  have e : (f c != 0) = !ins := by cases h1 : (f c != 0) <;> cases ins <;> rw [h1] at hb <;> simp at hb ⊢
  rw [runsGo_step ins hx, if_neg (by rw [hn]; simp)] at h
  rw [e, ← h]; simp

set_option maxRecDepth 100000 in
set_option maxHeartbeats 4000000 in
theorem runs_any (t : Tv) (T : Tab) (v : Value) (xs : List Int) (w : World) (ht : TabR w w.heap.size t T) (hg : Glob w) (hv : Ints w w.heap.size .i64 v xs) :
    Calls Tryd.prog 21 #[t.val, v] w (RetTwo w (runL T xs) (accE T xs)) := by
  obtain ⟨A, c, rfl, _⟩ := id hv
  have HB0 : Hid (Below w.heap.size w (w.alloc (.cells t.cells 26))) := Lib.hid ((Below.refl _ _).alloc (Nat.le_refl _) _)
  have HT : Hid (Tbl (w.alloc (.cells t.cells 26)) w.heap.size t T) := Lib.hid ⟨Blk.new _ _ _, ht.later HB0.out⟩
  have HV := Lib.hid (hv.later HB0.out)
  have HCK := Lib.hid (ocheck_any t T _ xs _ HT.out.2 (hg.later HB0.out) HV.out)
  clear hv ht hg
  by_cases h0 : accE T xs = 0
  · have HE : Hid (runL T xs = runsL T.classOf xs) := Lib.hid (by unfold runL; rw [if_pos h0])
    obtain ⟨hck, hlen, _⟩ := accE_zero h0
    have hsh := shape_of hck
    obtain ⟨f, hf⟩ : ∃ f, T.classOf = f := ⟨_, rfl⟩
    have HC : Hid (∀ (b : Nat) (W : World) (x : Int), Tbl W b t T → Calls Tryd.prog 44 #[.agg #[t.c0, t.c1, t.c2, t.c3, t.c4, t.c5, t.c6, t.c7, t.c8, t.c9, t.c10, t.c11], .int .i64 x] W fun e W' => e = .returned (.int .i64 (f x)) ∧ Below W.heap.size W W') := Lib.hid fun b W x h => by
      have h2 := class_any t T x 0 1114111 W h.2 hsh.c1.1 hsh.c1.2.1
      rw [hf] at h2; exact h2
    rw [hf] at HE
    rw [h0] at HCK ⊢
    clear h0 hck hsh hf
    go_enter Tryd.func21, Tryd.ntmps21
    go_upto_region 1 with fail
    generalize w.alloc (.cells t.cells 26) = w1 at *
    obtain ⟨x0, x1, x2, x3, x4, x5, x6, x7, x8, x9, x10, x11⟩ := HT.out.1.tab
    go_upto_region 2 with (go_at_call 42; refine HCK.out.mono ?_; rintro e w2 ⟨rfl, b2⟩)
    clear x0 x1 x2 x3 x4 x5 x6 x7 x8 x9 x10 x11
    have HT2 := Lib.hid (HT.out.later b2)
    have HV2 := Lib.hid (HV.out.later b2)
    have HB2 := Lib.hid (below_next HB0.out b2)
    clear HT HV HB0 HCK b2
    obtain ⟨i0, hi, hz0, hz1, hz2⟩ := info_parts Tryd.infoInt'
    go_wp2_with fail
    go_loopw [20, 7, 8] (fun s20 s7 s8 wr => ∃ (k : Nat) (acc : List Int) (ins : Bool) (A7 : Option Addr) (c7 : Nat), k ≤ xs.length ∧ s20 = .int .i64 k ∧ s7 = .slice A7 acc.length c7 ∧ s8 = .bool ins ∧ acc.length ≤ k ∧ Hid (acc ++ runsGo f k ins (xs.drop k) = runsL f xs) ∧ Hid (wr.ownsRow w2.heap.size 3 1 (.slice A7 acc.length c7) acc.length (acc.map (Value.int .i64))) ∧ Hid (Below w2.heap.size w2 wr)) (fun i _ _ _ => xs.length - (intOf i).toNat)
    case atStart => exact ⟨0, [], false, none, 0, by omega, rfl, rfl, rfl, by simp, Lib.hid rfl, Lib.hid (World.ownsRow_nil _ _ _ _), Lib.hid (Below.refl _ _)⟩
    case round =>
      obtain ⟨k, acc, ins, A7, c7, hk, rfl, rfl, rfl, hal, HS, HOr, HBr⟩ := hrel
      by_cases hlt : k < xs.length
      · obtain ⟨x, hxk, _⟩ := get_of hlt
        obtain ⟨_, _, hve, _, _, _, hcell⟩ := HV2.out
        cases hve
        obtain ⟨ad, rfl, ha, hce⟩ := hcell k x hxk
        have e1 := (HBr.out.cell (p := ad.add k) (by rw [block_of_add]; exact ha)).trans hce
        have HX := Lib.hid hxk
        have k0 : (0 : Int) ≤ (k : Int) := by omega
        have k1 : (k : Int) < (xs.length : Int) := by omega
        have HTr := Lib.hid (HT2.out.later HBr.out)
        obtain ⟨x0, x1, x2, x3, x4, x5, x6, x7, x8, x9, x10, x11⟩ := HTr.out.1.tab
        have HCx := Lib.hid (HC.out _ wr x HTr.out)
        clear hcell hxk ha hce
        cases hb : ((f x != 0) != ins)
        · have HN := Lib.hid (runs_same HX.out HS.out hb)
          have hb2 : ((f x != 0) == ins) = true := by simpa using hb
          go_wp2_with (go_at_call 44; refine HCx.out.mono ?_; rintro e w5 ⟨rfl, b5⟩)
          go_roundw
          case rel => exact ⟨k + 1, acc, ins, A7, c7, by omega, by go_num, rfl, rfl, by omega, HN, Lib.hid (own_later HOr.out b5), Lib.hid (below_then HBr.out (Nat.le_refl _) b5)⟩
          case measure => simp [intOf]; omega
        · have HN := Lib.hid (runs_turn HX.out HS.out hb)
          have hb2 : ((f x != 0) == ins) = false := by cases h : ((f x != 0) == ins) <;> simp_all
          go_upto_region 10 with (go_at_call 44; refine HCx.out.mono ?_; rintro e w5 ⟨rfl, b5⟩)
          have HO5 := Lib.hid (own_later HOr.out b5)
          have HB5 := Lib.hid (below_then HBr.out (Nat.le_refl _) b5)
          clear x0 x1 x2 x3 x4 x5 x6 x7 x8 x9 x10 x11 e1 HCx HTr HOr HBr b5 HS HX
          go_wp2_with (at_builtin; refine wpList_append_ints (by rfl) (.tmp 32) (.tmp 34) rfl Tryd.underlying22 hi hz0 hz1 hz2 (w5.heap.size + 1) w2.heap.size (.slice A7 acc.length c7) acc (.slice (some ⟨w5.heap.size, 0, none⟩) 1 1) [(k : Int)] rfl (HO5.out.alloc _) rfl (by have h := Ints.of_own (own_new w5 3 [(k : Int)] (by simp)); simpa using h) (by simp; omega) (by have := HB5.out.size; simp; omega) ?_; intro v6 w6 ho6 hg6 _; obtain ⟨A6, c6, rfl, _⟩ := id (Ints.of_own ho6); have HO6 := Lib.hid ho6; have HB6 := Lib.hid ((HB5.out.alloc HB5.out.size (.cells #[.int .i64 (k : Int)] 3)).grown hg6 (by have := HB5.out.size; simp; omega) (fun q hq => (HO5.out.lt q hq).1)); clear ho6 hg6)
          go_roundw
          case rel => exact ⟨k + 1, acc ++ [(k : Int)], (f x != 0), A6, c6, by omega, by go_num, by simp, rfl, by simp; omega, HN, HO6, HB6⟩
          case measure => simp [intOf]; omega
      · have HN := HS.out
        rw [runsGo_end ins (by omega)] at HN
        cases ins
        · have HD := Lib.hid (show acc = runsL f xs by simpa using HN)
          clear HN
          go_wp2_with fail
          go_ret2
          rw [HE.out, ← HD.out]
          exact ⟨_, rfl, row_le HOr.out HB2.out.size, below_next HB2.out HBr.out⟩
        · obtain rfl : k = xs.length := by omega
          have HD := Lib.hid (show acc ++ [(xs.length : Int)] = runsL f xs by simpa using HN)
          clear HN
          go_wp2_with (at_builtin; refine wpList_append_ints (by rfl) (.tmp 39) (.tmp 42) rfl Tryd.underlying22 hi hz0 hz1 hz2 (wr.heap.size + 1) w2.heap.size (.slice A7 acc.length c7) acc (.slice (some ⟨wr.heap.size, 0, none⟩) 1 1) [(xs.length : Int)] rfl (HOr.out.alloc _) rfl (by have h := Ints.of_own (own_new wr 3 [(xs.length : Int)] (by simp)); simpa using h) (by simp; omega) (by have := HBr.out.size; simp; omega) ?_; intro v6 w6 ho6 hg6 _; obtain ⟨A6, c6, rfl, _⟩ := id (Ints.of_own ho6); have HO6 := Lib.hid ho6; have HB6 := Lib.hid ((HBr.out.alloc HBr.out.size (.cells #[.int .i64 (xs.length : Int)] 3)).grown hg6 (by have := HBr.out.size; simp; omega) (fun q hq => (HOr.out.lt q hq).1)); clear ho6 hg6)
          go_ret2
          rw [HE.out, ← HD.out]
          refine ⟨_, rfl, ?_, below_next HB2.out HB6.out⟩
          have h := row_le HO6.out HB2.out.size
          simpa using h
  · have HE : Hid (runL T xs = []) := Lib.hid (by unfold runL; rw [if_neg h0])
    have hb : (accE T xs != 0) = true := by simpa using h0
    clear h0
    go_enter Tryd.func21, Tryd.ntmps21
    go_upto_region 1 with fail
    generalize w.alloc (.cells t.cells 26) = w1 at *
    obtain ⟨x0, x1, x2, x3, x4, x5, x6, x7, x8, x9, x10, x11⟩ := HT.out.1.tab
    go_wp2_with (go_at_call 42; refine HCK.out.mono ?_; rintro e w2 ⟨rfl, b2⟩)
    go_ret2
    rw [HE.out]
    exact ⟨_, rfl, World.ownsRow_nil _ _ _ _, below_next HB0.out b2⟩
end Go.Proofs.YtneinkpfhkojgaaDoor
/-
  The walk through the reference's Same.
-/
namespace Go.Proofs.YtneinkpfhkojgaaDoor
open Go.RowKit ND

set_option maxRecDepth 100000 in
set_option maxHeartbeats 1000000 in
theorem refSame_any (v u : Value) (xs ys : List Int) (w : World) (hv : Ints w w.heap.size .i64 v xs) (hu : Ints w w.heap.size .i64 u ys) :
    Calls Tryd.prog 67 #[v, u] w fun e w' => e = .returned (.bool (decide (xs = ys))) ∧ Below w.heap.size w w' := by
  obtain ⟨A, c, rfl, hc1, hc2, _, hcell⟩ := hv
  obtain ⟨A', c', rfl, hc1', hc2', _, hcell'⟩ := hu
  have HC := Lib.hid hcell; clear hcell
  have HC' := Lib.hid hcell'; clear hcell'
  have hl : xs.length ≤ 9223372036854775807 := by unfold maxLen at hc2; omega
  clear hc2 hc2' hc1 hc1'
  by_cases hlen : xs.length = ys.length
  · have hb : ((xs.length : Int) != (ys.length : Int)) = false := by rw [hlen]; simp
    have hl1 : xs.length ≤ ys.length := by omega
    have hl2 : ys.length ≤ xs.length := by omega
    clear hlen
    obtain ⟨R, hR⟩ : ∃ R, R = decide (xs = ys) := ⟨_, rfl⟩
    rw [← hR]
    have HR := Lib.hid hR; clear hR
    go_enter Tryd.func67, Tryd.ntmps67
    go_wp2_with fail
    go_loopw [13] (fun i wr => ∃ k : Nat, k ≤ xs.length ∧ i = .int .i64 k ∧ Hid (xs.take k = ys.take k) ∧ Below w.heap.size w wr) (fun i _ => xs.length - (intOf i).toNat)
    case atStart => exact ⟨0, by omega, rfl, Lib.hid (by simp), Below.refl _ _⟩
    case round =>
      obtain ⟨k, hk, rfl, HS, hbel⟩ := hrel
      by_cases hlt : k < xs.length
      · obtain ⟨x, hxk, _⟩ := get_of hlt
        obtain ⟨y, hyk, _⟩ := get_of (show k < ys.length by omega)
        obtain ⟨ad, rfl, ha, hce⟩ := HC.out k x hxk
        obtain ⟨ad', rfl, ha', hce'⟩ := HC'.out k y hyk
        have e1 := (hbel.cell (p := ad.add k) (by rw [block_of_add]; exact ha)).trans hce
        have e2 := (hbel.cell (p := ad'.add k) (by rw [block_of_add]; exact ha')).trans hce'
        have HX := Lib.hid hxk
        have HY := Lib.hid hyk
        clear hce hce' hxk hyk ha ha'
        have k0 : (0 : Int) ≤ (k : Int) := by omega
        have k1 : (k : Int) < (xs.length : Int) := by omega
        have k2 : (k : Int) < (ys.length : Int) := by omega
        by_cases hxy : x = y
        · have hb2 : (x != y) = false := by rw [hxy]; simp
          have HT := Lib.hid (same_step HS.out HX.out (by rw [hxy]; exact HY.out))
          clear hxy
          go_wp2_with fail
          go_quiet (fail)
          go_wp2_with fail
          go_roundw
          case rel => exact ⟨k + 1, by omega, by go_num, HT, below_drewN hbel nq⟩
          case measure => simp [intOf]; omega
        · have hb2 : (x != y) = true := by rw [bne_iff_ne]; exact hxy
          have HN : Hid (R = false) := by
            refine Lib.hid ?_
            rw [HR.out, decide_eq_false_iff_not]
            rintro rfl
            have := HX.out.symm.trans HY.out
            simp at this
            exact hxy this
          clear hxy
          go_wp2_with fail
          go_quiet (fail)
          go_wp2_with fail
          go_ret
          rw [HN.out]
          exact ⟨rfl, below_drewN hbel nq⟩
      · have HN : Hid (R = true) := by
          refine Lib.hid ?_
          rw [HR.out, decide_eq_true_iff]
          have h := HS.out
          rw [List.take_of_length_le (by omega), List.take_of_length_le (by omega)] at h
          exact h
        go_wp2_with fail
        go_ret
        rw [HN.out]
        exact ⟨rfl, hbel⟩
  · have hb : ((xs.length : Int) != (ys.length : Int)) = true := by rw [bne_iff_ne]; omega
    have hn : decide (xs = ys) = false := by
      rw [decide_eq_false_iff_not]; rintro rfl; exact hlen rfl
    rw [hn]
    clear hn hlen
    go_enter Tryd.func67, Tryd.ntmps67
    go_wp2_with fail
    go_ret
    exact ⟨rfl, Below.refl _ _⟩
end Go.Proofs.YtneinkpfhkojgaaDoor
/-
  The walks through the reference's Order, Sorted and Runs.
-/
namespace Go.Proofs.YtneinkpfhkojgaaDoor
open Go.RowKit ND

set_option maxRecDepth 100000 in
set_option maxHeartbeats 1000000 in
theorem refOrder_any (t : Tv) (T : Tab) (v : Value) (xs : List Int) (w : World) (ht : TabR w w.heap.size t T) (hv : Ints w w.heap.size .i64 v xs) :
    Calls Tryd.prog 51 #[t.val, v] w (RetTwo w (ordL T xs) (accE T xs)) := by
  obtain ⟨A, c, rfl, _⟩ := id hv
  have HB0 : Hid (Below w.heap.size w (w.alloc (.cells t.cells 26))) := Lib.hid ((Below.refl _ _).alloc (Nat.le_refl _) _)
  have HT : Hid (Tbl (w.alloc (.cells t.cells 26)) w.heap.size t T) := Lib.hid ⟨Blk.new _ _ _, ht.later HB0.out⟩
  have HV := Lib.hid (hv.later HB0.out)
  have HCK := Lib.hid (refAcc_any t T _ xs _ HT.out.2 HV.out)
  clear hv ht
  by_cases h0 : accE T xs = 0
  · have HE := Lib.hid (ordL_ok h0)
    obtain ⟨a1, a2, _⟩ := accE_zero h0
    have HS := Lib.hid (fun W (h : Below (w.alloc (.cells t.cells 26)).heap.size (w.alloc (.cells t.cells 26)) W) => ordered_any t T _ xs W (HT.out.later h).2 a1 a2 (HV.out.later h))
    rw [h0] at HCK ⊢
    clear h0 a1 a2
    go_enter Tryd.func51, Tryd.ntmps51
    go_upto_region 1 with fail
    generalize w.alloc (.cells t.cells 26) = w1 at *
    have HTB := HT.out.1.tab
    obtain ⟨x0, x1, x2, x3, x4, x5, x6, x7, x8, x9, x10, x11⟩ := HTB
    go_upto_region 2 with (go_at_call 65; refine HCK.out.mono ?_; rintro e w2 ⟨rfl, b2⟩)
    clear x0 x1 x2 x3 x4 x5 x6 x7 x8 x9 x10 x11
    have HTB := (HT.out.later b2).1.tab
    obtain ⟨x0, x1, x2, x3, x4, x5, x6, x7, x8, x9, x10, x11⟩ := HTB
    go_wp2_with (go_at_call 66; refine (HS.out _ b2).mono ?_; rintro e w3 ⟨u, rfl, ho3, b3⟩)
    go_ret2
    rw [HE.out]
    exact ⟨u, rfl, row_le ho3 (by have := HB0.out.size; have := b2.size; omega), below_next (below_next HB0.out b2) b3⟩
  · have HE := Lib.hid (ordL_bad h0)
    have hb : (accE T xs != 0) = true := by simpa using h0
    clear h0
    go_enter Tryd.func51, Tryd.ntmps51
    go_upto_region 1 with fail
    generalize w.alloc (.cells t.cells 26) = w1 at *
    have HTB := HT.out.1.tab
    obtain ⟨x0, x1, x2, x3, x4, x5, x6, x7, x8, x9, x10, x11⟩ := HTB
    go_wp2_with (go_at_call 65; refine HCK.out.mono ?_; rintro e w2 ⟨rfl, b2⟩)
    go_ret2
    rw [HE.out]
    exact ⟨_, rfl, World.ownsRow_nil _ _ _ _, below_next HB0.out b2⟩

set_option maxRecDepth 100000 in
set_option maxHeartbeats 1000000 in
theorem refSorted_any (t : Tv) (T : Tab) (v : Value) (xs : List Int) (w : World) (ht : TabR w w.heap.size t T) (hv : Ints w w.heap.size .i64 v xs) :
    Calls Tryd.prog 53 #[t.val, v] w fun e w' => e = .returned (.bool (sortedB T xs)) ∧ Below w.heap.size w w' := by
  obtain ⟨A, c, rfl, _⟩ := id hv
  have HB0 : Hid (Below w.heap.size w (w.alloc (.cells t.cells 26))) := Lib.hid ((Below.refl _ _).alloc (Nat.le_refl _) _)
  have HT : Hid (Tbl (w.alloc (.cells t.cells 26)) w.heap.size t T) := Lib.hid ⟨Blk.new _ _ _, ht.later HB0.out⟩
  have HV := Lib.hid (hv.later HB0.out)
  have HO := Lib.hid (refOrder_any t T _ xs _ HT.out.2 HV.out)
  clear hv ht
  obtain ⟨R, hR⟩ : ∃ R, R = decide (ordL T xs = xs) := ⟨_, rfl⟩
  have HR := Lib.hid hR
  unfold sortedB
  rw [← hR]
  clear hR
  generalize ordL T xs = ys at *
  generalize accE T xs = er at *
  go_enter Tryd.func53, Tryd.ntmps53
  go_upto_region 1 with fail
  generalize w.alloc (.cells t.cells 26) = w1 at *
  obtain ⟨x0, x1, x2, x3, x4, x5, x6, x7, x8, x9, x10, x11⟩ := HT.out.1.tab
  go_upto_region 2 with (go_at_call 51; refine HO.out.mono ?_; rintro e w2 ⟨u, rfl, ho2, b2⟩; obtain ⟨A2, c2, rfl, _⟩ := id (Ints.of_own ho2); have HU := Lib.hid (Ints.of_own ho2); clear ho2)
  have HEQ : Hid (∀ V, Below w2.heap.size w2 V → Calls Tryd.prog 67 #[.slice A2 ys.length c2, .slice A xs.length c] V fun e V' => e = .returned (.bool R) ∧ Below V.heap.size V V') := Lib.hid fun V hV => by
    have h := refSame_any _ _ ys xs V (HU.out.later hV) ((HV.out.later b2).later hV)
    rw [← HR.out] at h; exact h
  clear x0 x1 x2 x3 x4 x5 x6 x7 x8 x9 x10 x11
  by_cases h0 : er = 0
  · have hb : (er == 0) = true := by rw [h0]; rfl
    clear h0
    go_wp2_with (go_at_call 67; refine (HEQ.out _ (Below.refl _ _)).mono ?_; rintro e w3 ⟨rfl, b3⟩)
    go_ret
    exact ⟨by rw [hb]; rfl, below_next (below_next HB0.out b2) b3⟩
  · have hb : (er == 0) = false := by simpa using h0
    clear h0
    go_wp2_with fail
    go_ret
    exact ⟨by rw [hb]; rfl, below_next HB0.out b2⟩

/-- The reference's runs have come to i. -/
def RunI (f : Int → Int) (xs : List Int) (i : Nat) (acc : List Int) : Prop :=
  (i = 0 ∨ ∃ j y, i = j + 1 ∧ xs[j]? = some y ∧ f y = 0) ∧ acc ++ runsGo f i false (xs.drop i) = runsL f xs ∨ (∃ j y, i = j + 1 ∧ xs[j]? = some y ∧ f y ≠ 0) ∧ acc ++ (runsGo f i true (xs.drop i)).tail = runsL f xs
theorem runI_end {f : Int → Int} {xs acc : List Int} {i : Nat} (h : RunI f xs i acc) (hi : xs.length ≤ i) : acc = runsL f xs := by
  rcases h with ⟨_, h⟩ | ⟨_, h⟩
  · rw [runsGo_end false hi] at h; simpa using h
  · rw [runsGo_end true hi] at h; simpa using h
theorem runI_zero {f : Int → Int} {xs acc : List Int} {i : Nat} {x : Int} (h : RunI f xs i acc) (hx : xs[i]? = some x) (h0 : f x = 0) : RunI f xs (i + 1) acc := by
  refine .inl ⟨.inr ⟨i, x, rfl, hx, h0⟩, ?_⟩
  rcases h with ⟨_, h⟩ | ⟨_, h⟩
  · rw [runsGo_step false hx, if_pos (by simp [h0])] at h; exact h
  · rw [runsGo_step true hx, if_neg (by simp [h0])] at h; exact h
theorem runI_on {f : Int → Int} {xs acc : List Int} {j : Nat} {x y : Int} (h : RunI f xs (j + 1) acc) (hy : xs[j]? = some y) (hy0 : f y ≠ 0) (hx : xs[j + 1]? = some x) (h0 : f x ≠ 0) : RunI f xs (j + 1 + 1) acc := by
  refine .inr ⟨⟨j + 1, x, rfl, hx, h0⟩, ?_⟩
  rcases h with ⟨h1, _⟩ | ⟨_, h⟩
  · rcases h1 with h1 | ⟨j', y', e, e2, e3⟩
    · omega
    · obtain rfl : j = j' := by omega
      rw [hy] at e2; cases e2; exact absurd e3 hy0
  · rw [runsGo_step true hx, if_pos (by simp [h0])] at h; exact h
/-- A run has begun at i. -/
theorem runI_new {f : Int → Int} {xs acc : List Int} {i k : Nat} {x : Int} (h : RunI f xs i acc) (hn : i = 0 ∨ ∃ j y, i = j + 1 ∧ xs[j]? = some y ∧ f y = 0) (hx : xs[i]? = some x) (h0 : f x ≠ 0) (hE : runsGo f i true (xs.drop i) = (k : Int) :: (runsGo f i true (xs.drop i)).tail) : RunI f xs (i + 1) (acc ++ [(i : Int), (k : Int)]) := by
  refine .inr ⟨⟨i, x, rfl, hx, h0⟩, ?_⟩
  have hs : runsGo f i true (xs.drop i) = runsGo f (i + 1) true (xs.drop (i + 1)) := by rw [runsGo_step true hx, if_pos (by simp [h0])]
  rcases h with ⟨_, h⟩ | ⟨h1, _⟩
  · rw [runsGo_step false hx, if_neg (by simp [h0]), Bool.not_false, ← hs, hE] at h
    rw [← hs, ← h]; simp
  · exfalso
    obtain ⟨j, y, e, e2, e3⟩ := h1
    rcases hn with hn | ⟨j', y', d, d2, d3⟩
    · omega
    · obtain rfl : j = j' := by omega
      rw [e2] at d2; cases d2; exact e3 d3
theorem run_step {f : Int → Int} {xs E : List Int} {k : Nat} {c : Int} (h : runsGo f k true (xs.drop k) = E) (hc : xs[k]? = some c) (h0 : f c ≠ 0) : runsGo f (k + 1) true (xs.drop (k + 1)) = E := by
  rw [runsGo_step true hc, if_pos (by simp [h0])] at h; exact h
theorem run_stop {f : Int → Int} {xs E : List Int} {k : Nat} (h : runsGo f k true (xs.drop k) = E) (hs : xs.length ≤ k ∨ ∃ c, xs[k]? = some c ∧ f c = 0) : E = (k : Int) :: E.tail := by
  rcases hs with hs | ⟨c, hc, h0⟩
  · rw [runsGo_end true hs] at h; rw [← h]; rfl
  · rw [runsGo_step true hc, if_neg (by simp [h0])] at h; rw [← h]; rfl

set_option maxRecDepth 100000 in
set_option maxHeartbeats 4000000 in
theorem refRuns_any (t : Tv) (T : Tab) (v : Value) (xs : List Int) (w : World) (ht : TabR w w.heap.size t T) (hv : Ints w w.heap.size .i64 v xs) :
    Calls Tryd.prog 52 #[t.val, v] w (RetTwo w (runL T xs) (accE T xs)) := by
  obtain ⟨A, c, rfl, _⟩ := id hv
  have HB0 : Hid (Below w.heap.size w (w.alloc (.cells t.cells 26))) := Lib.hid ((Below.refl _ _).alloc (Nat.le_refl _) _)
  have HT : Hid (Tbl (w.alloc (.cells t.cells 26)) w.heap.size t T) := Lib.hid ⟨Blk.new _ _ _, ht.later HB0.out⟩
  have HV := Lib.hid (hv.later HB0.out)
  have HCK := Lib.hid (refAcc_any t T _ xs _ HT.out.2 HV.out)
  clear hv ht
  by_cases h0 : accE T xs = 0
  · have HE : Hid (runL T xs = runsL T.classOf xs) := Lib.hid (by unfold runL; rw [if_pos h0])
    obtain ⟨hck, hlen, _⟩ := accE_zero h0
    obtain ⟨f, hf⟩ : ∃ f, T.classOf = f := ⟨_, rfl⟩
    have HC : Hid (∀ (b : Nat) (W : World) (x : Int), Tbl W b t T → Calls Tryd.prog 18 #[.agg #[t.c0, t.c1, t.c2, t.c3, t.c4, t.c5, t.c6, t.c7, t.c8, t.c9, t.c10, t.c11], .int .i64 x] W fun e W' => e = .returned (.int .i64 (f x)) ∧ Below W.heap.size W W') := Lib.hid fun b W x h => by
      have h2 := refClass_any t T x W h.2
      rw [hf] at h2; exact h2
    rw [hf] at HE
    rw [h0] at HCK ⊢
    clear h0 hck hf
    go_enter Tryd.func52, Tryd.ntmps52
    go_upto_region 1 with fail
    generalize w.alloc (.cells t.cells 26) = w1 at *
    obtain ⟨x0, x1, x2, x3, x4, x5, x6, x7, x8, x9, x10, x11⟩ := HT.out.1.tab
    go_upto_region 2 with (go_at_call 65; refine HCK.out.mono ?_; rintro e w2 ⟨rfl, b2⟩)
    clear x0 x1 x2 x3 x4 x5 x6 x7 x8 x9 x10 x11
    obtain ⟨tb, htb⟩ : ∃ tb, w.heap.size = tb := ⟨_, rfl⟩
    have HT2 : Hid (Tbl w2 tb t T) := Lib.hid (htb ▸ HT.out.later b2)
    have HV2 := Lib.hid (HV.out.later b2)
    have HB2 := Lib.hid (below_next HB0.out b2)
    simp only [htb]
    clear HT HV HB0 HCK b2
    obtain ⟨i0, hi, hz0, hz1, hz2⟩ := info_parts Tryd.infoInt'
    go_wp2_with fail
    go_loopw [8, 7] (fun s8 s7 wr => ∃ (i : Nat) (acc : List Int) (A7 : Option Addr) (c7 : Nat), i ≤ xs.length ∧ s8 = .int .i64 i ∧ s7 = .slice A7 acc.length c7 ∧ acc.length ≤ 2 * i ∧ Hid (RunI f xs i acc) ∧ Hid (wr.ownsRow w2.heap.size 3 1 (.slice A7 acc.length c7) acc.length (acc.map (Value.int .i64))) ∧ Hid (Below w2.heap.size w2 wr)) (fun i _ _ => xs.length - (intOf i).toNat)
    case atStart => exact ⟨0, [], none, 0, by omega, rfl, rfl, by simp, Lib.hid (.inl ⟨.inl rfl, rfl⟩), Lib.hid (World.ownsRow_nil _ _ _ _), Lib.hid (Below.refl _ _)⟩
    case round =>
      obtain ⟨i, acc, A7, c7, hk, rfl, rfl, hal, HS, HOr, HBr⟩ := hrel
      by_cases hlt : i < xs.length
      · obtain ⟨x, hxk, _⟩ := get_of hlt
        obtain ⟨_, _, hve, _, _, _, hcell⟩ := HV2.out
        cases hve
        obtain ⟨ad, rfl, ha, hce⟩ := hcell i x hxk
        have HCL : Hid (∀ (V : World) (j : Nat) (y : Int), Below w2.heap.size w2 V → xs[j]? = some y → V.cell? (ad.add j) = some (.int .i64 y)) := Lib.hid fun V j y hV hy => by
          obtain ⟨ad', e, ha', hc'⟩ := hcell j y hy
          cases e
          exact (hV.cell (p := ad.add j) (by rw [block_of_add]; exact ha')).trans hc'
        have HX := Lib.hid hxk
        clear hcell ha hce hxk
        have e1 := cell_regrown (HCL.out wr i x HBr.out HX.out)
        have k0 : (0 : Int) ≤ (i : Int) := by omega
        have k1 : (i : Int) < (xs.length : Int) := by omega
        have HTr := Lib.hid (HT2.out.later HBr.out)
        have HCx : Hid (∀ V, Below wr.heap.size wr V → Calls Tryd.prog 18 #[.agg #[t.c0, t.c1, t.c2, t.c3, t.c4, t.c5, t.c6, t.c7, t.c8, t.c9, t.c10, t.c11], .int .i64 x] V fun e V' => e = .returned (.int .i64 (f x)) ∧ Below V.heap.size V V') := Lib.hid fun V hV => HC.out tb V x (HTr.out.later hV)
        by_cases hx0 : f x = 0
        · have b0 : (f x == 0) = true := by rw [hx0]; rfl
          have HN := Lib.hid (runI_zero HS.out HX.out hx0)
          go_upto_region 8 with fail
          obtain ⟨x0, x1, x2, x3, x4, x5, x6, x7, x8, x9, x10, x11⟩ := HTr.out.1.tabG
          refine wp_region_quiet_below (by kernel_rfl) (by kernel_rfl) ?_
          repeat (go_big_quiet_step (first | (go_at_call 18; with_reducible exact quiet_t HCx.out)))
          refine wpQuiet_nil ?_
          rintro _ ⟨⟨dq, osq⟩, rfl⟩
          have b5 := below_regrown wr dq osq
          clear x0 x1 x2 x3 x4 x5 x6 x7 x8 x9 x10 x11 e1 HCx HTr
          have HO5 := Lib.hid (own_later HOr.out b5)
          have HB5 := Lib.hid (below_then HBr.out (Nat.le_refl _) b5)
          generalize Go.Sort.grow (redrawn wr dq) osq = w5 at *
          clear HOr HBr b5
          go_wp2_with fail
          go_roundw
          case rel => exact ⟨i + 1, acc, A7, c7, by omega, by go_num, rfl, by omega, HN, HO5, HB5⟩
          case measure => simp [intOf]; omega
        · have b0 : (f x == 0) = false := by simpa using hx0
          have HX0 := Lib.hid hx0
          clear hx0
          cases i with
          | zero =>
            replace e1 : ∀ d os, (Go.Sort.grow (redrawn wr d) os).cell? ad = some (.int .i64 x) := fun d os => by have h := e1 d os; simpa [Addr.add] using h
            go_upto_region 8 with fail
            obtain ⟨x0, x1, x2, x3, x4, x5, x6, x7, x8, x9, x10, x11⟩ := HTr.out.1.tabG
            refine wp_region_quiet_below (by kernel_rfl) (by kernel_rfl) ?_
            repeat (go_big_quiet_step (first | (go_at_call 18; with_reducible exact quiet_t HCx.out)))
            refine wpQuiet_nil ?_
            rintro _ ⟨⟨dq, osq⟩, rfl⟩
            have b5 := below_regrown wr dq osq
            clear x0 x1 x2 x3 x4 x5 x6 x7 x8 x9 x10 x11 e1 HCx HTr
            have HO5 := Lib.hid (own_later HOr.out b5)
            have HB5 := Lib.hid (below_then HBr.out (Nat.le_refl _) b5)
            generalize Go.Sort.grow (redrawn wr dq) osq = w5 at *
            clear HOr HBr b5
            go_wp2_with fail
            go_loopw [9] (fun s9 wr => ∃ k : Nat, k ≤ xs.length ∧ s9 = .int .i64 k ∧ 0 ≤ k ∧ Hid (runsGo f k true (xs.drop k) = runsGo f (0) true (xs.drop (0))) ∧ Hid (wr.ownsRow w2.heap.size 3 1 (.slice A7 acc.length c7) acc.length (acc.map (Value.int .i64))) ∧ Hid (Below w2.heap.size w2 wr)) (fun i _ => xs.length - (intOf i).toNat)
            case atStart => exact ⟨0, by omega, by go_num, Nat.le_refl _, Lib.hid rfl, HO5, HB5⟩
            case round =>
              clear HO5 HB5
              obtain ⟨k, hkn, rfl, hik, HR, HOr, HBr⟩ := hrel
              have q0 : (0 : Int) ≤ (k : Int) := by omega
              by_cases hltk : k < xs.length
              · obtain ⟨z, hz, _⟩ := get_of hltk
                have q1 : (k : Int) < (xs.length : Int) := by omega
                have e3 := cell_regrown (HCL.out wr k z HBr.out hz)
                have HTr := Lib.hid (HT2.out.later HBr.out)
                have HCz : Hid (∀ V, Below wr.heap.size wr V → Calls Tryd.prog 18 #[.agg #[t.c0, t.c1, t.c2, t.c3, t.c4, t.c5, t.c6, t.c7, t.c8, t.c9, t.c10, t.c11], .int .i64 z] V fun e V' => e = .returned (.int .i64 (f z)) ∧ Below V.heap.size V V') := Lib.hid fun V hV => HC.out tb V z (HTr.out.later hV)
                by_cases hz0 : f z = 0
                · have b3 : (f z != 0) = false := by rw [hz0]; rfl
                  have HN := Lib.hid (runI_new HS.out (.inl rfl) HX.out HX0.out (run_stop HR.out (.inr ⟨z, hz, hz0⟩)))
                  clear hz0 hz
                  go_upto_region 10 with fail
                  obtain ⟨x0, x1, x2, x3, x4, x5, x6, x7, x8, x9, x10, x11⟩ := HTr.out.1.tabG
                  refine wp_region_quiet_below (by kernel_rfl) (by kernel_rfl) ?_
                  repeat (go_big_quiet_step ((go_at_call 18; with_reducible exact quiet_t HCz.out)))
                  refine wpQuiet_nil ?_
                  rintro _ ⟨⟨dq, osq⟩, rfl⟩
                  have b5 := below_regrown wr dq osq
                  clear x0 x1 x2 x3 x4 x5 x6 x7 x8 x9 x10 x11 e3 HCz HTr
                  have HO5 := Lib.hid (own_later HOr.out b5)
                  have HB5 := Lib.hid (below_then HBr.out (Nat.le_refl _) b5)
                  generalize Go.Sort.grow (redrawn wr dq) osq = w5 at *
                  clear HOr HBr b5
                  go_wp2_with (at_builtin; refine wpList_append_ints (by rfl) (.tmp 59) (.tmp 62) rfl Tryd.underlying22 hi hz0 hz1 hz2 (w5.heap.size + 1) w2.heap.size (.slice A7 acc.length c7) acc (.slice (some ⟨w5.heap.size, 0, none⟩) 2 2) [((0 : Nat) : Int), (k : Int)] rfl (HO5.out.alloc _) rfl (by have h := Ints.of_own (own_new w5 3 [((0 : Nat) : Int), (k : Int)] (by simp)); simpa using h) (by simp; omega) (by have := HB5.out.size; simp; omega) ?_; intro v6 w6 ho6 hg6 _; obtain ⟨A6, c6, rfl, _⟩ := id (Ints.of_own ho6); have HO6 := Lib.hid ho6; have HB6 := Lib.hid ((HB5.out.alloc HB5.out.size (.cells #[.int .i64 ((0 : Nat) : Int), .int .i64 (k : Int)] 3)).grown hg6 (by have := HB5.out.size; simp; omega) (fun q hq => (HO5.out.lt q hq).1)); clear ho6 hg6)
                  go_roundw
                  case rel => exact ⟨0 + 1, acc ++ [((0 : Nat) : Int), (k : Int)], A6, c6, by omega, by go_num, by simp, by simp only [List.length_append, List.length_cons, List.length_nil]; omega, HN, HO6, HB6⟩
                  case measure => simp [intOf]; omega
                · have b3 : (f z != 0) = true := by simpa using hz0
                  have HN := Lib.hid (run_step HR.out hz hz0)
                  clear hz0 hz
                  go_upto_region 10 with fail
                  obtain ⟨x0, x1, x2, x3, x4, x5, x6, x7, x8, x9, x10, x11⟩ := HTr.out.1.tabG
                  refine wp_region_quiet_below (by kernel_rfl) (by kernel_rfl) ?_
                  repeat (go_big_quiet_step ((go_at_call 18; with_reducible exact quiet_t HCz.out)))
                  refine wpQuiet_nil ?_
                  rintro _ ⟨⟨dq, osq⟩, rfl⟩
                  have b5 := below_regrown wr dq osq
                  clear x0 x1 x2 x3 x4 x5 x6 x7 x8 x9 x10 x11 e3 HCz HTr
                  have HO5 := Lib.hid (own_later HOr.out b5)
                  have HB5 := Lib.hid (below_then HBr.out (Nat.le_refl _) b5)
                  generalize Go.Sort.grow (redrawn wr dq) osq = w5 at *
                  clear HOr HBr b5
                  go_wp2_with fail
                  go_roundw
                  case rel => exact ⟨k + 1, by omega, by go_num, by omega, HN, HO5, HB5⟩
                  case measure => simp [intOf]; omega
              · have q1 : ¬ (k : Int) < (xs.length : Int) := by omega
                have HN := Lib.hid (runI_new HS.out (.inl rfl) HX.out HX0.out (run_stop HR.out (.inl (by omega))))
                go_upto_region 10 with fail
                refine wp_region_quiet_below (by kernel_rfl) (by kernel_rfl) ?_
                repeat (go_big_quiet_step (fail))
                refine wpQuiet_nil ?_
                rintro _ ⟨⟨dq, osq⟩, rfl⟩
                have b5 := below_regrown wr dq osq
                have HO5 := Lib.hid (own_later HOr.out b5)
                have HB5 := Lib.hid (below_then HBr.out (Nat.le_refl _) b5)
                generalize Go.Sort.grow (redrawn wr dq) osq = w5 at *
                clear HOr HBr b5
                go_wp2_with (at_builtin; refine wpList_append_ints (by rfl) (.tmp 59) (.tmp 62) rfl Tryd.underlying22 hi hz0 hz1 hz2 (w5.heap.size + 1) w2.heap.size (.slice A7 acc.length c7) acc (.slice (some ⟨w5.heap.size, 0, none⟩) 2 2) [((0 : Nat) : Int), (k : Int)] rfl (HO5.out.alloc _) rfl (by have h := Ints.of_own (own_new w5 3 [((0 : Nat) : Int), (k : Int)] (by simp)); simpa using h) (by simp; omega) (by have := HB5.out.size; simp; omega) ?_; intro v6 w6 ho6 hg6 _; obtain ⟨A6, c6, rfl, _⟩ := id (Ints.of_own ho6); have HO6 := Lib.hid ho6; have HB6 := Lib.hid ((HB5.out.alloc HB5.out.size (.cells #[.int .i64 ((0 : Nat) : Int), .int .i64 (k : Int)] 3)).grown hg6 (by have := HB5.out.size; simp; omega) (fun q hq => (HO5.out.lt q hq).1)); clear ho6 hg6)
                go_roundw
                case rel => exact ⟨0 + 1, acc ++ [((0 : Nat) : Int), (k : Int)], A6, c6, by omega, by go_num, by simp, by simp only [List.length_append, List.length_cons, List.length_nil]; omega, HN, HO6, HB6⟩
                case measure => simp [intOf]; omega
          | succ j =>
            obtain ⟨y, hy, _⟩ := get_of (show j < xs.length by omega)
            have HY := Lib.hid hy
            replace e1 : ∀ d os, (Go.Sort.grow (redrawn wr d) os).cell? ⟨ad.block, ad.off + (j + 1), none⟩ = some (.int .i64 x) := fun d os => by have h := e1 d os; simpa [Addr.add] using h
            have e2 := cell_regrown (HCL.out wr j y HBr.out hy)
            have HCy : Hid (∀ V, Below wr.heap.size wr V → Calls Tryd.prog 18 #[.agg #[t.c0, t.c1, t.c2, t.c3, t.c4, t.c5, t.c6, t.c7, t.c8, t.c9, t.c10, t.c11], .int .i64 y] V fun e V' => e = .returned (.int .i64 (f y)) ∧ Below V.heap.size V V') := Lib.hid fun V hV => HC.out tb V y (HTr.out.later hV)
            have v0 : IntKind.i64.wrap (((j + 1 : Nat) : Int) - 1) = (j : Int) := by rw [IntWalk.i64_in _ (by omega)]; omega
            have v2 : ((j + 1 : Nat) : Int) - 1 = (j : Int) := by omega
            have k2 : (0 : Int) < ((j + 1 : Nat) : Int) := by omega
            have k3 : (0 : Int) ≤ (j : Int) := by omega
            have k4 : (j : Int) < (xs.length : Int) := by omega
            clear hy
            by_cases hy0 : f y = 0
            · have b1 : (f y != 0) = false := by rw [hy0]; rfl
              have HNW : Hid (j + 1 = 0 ∨ ∃ j' y, j + 1 = j' + 1 ∧ xs[j']? = some y ∧ f y = 0) := Lib.hid (.inr ⟨j, y, rfl, HY.out, hy0⟩)
              clear hy0
              go_upto_region 8 with fail
              obtain ⟨x0, x1, x2, x3, x4, x5, x6, x7, x8, x9, x10, x11⟩ := HTr.out.1.tabG
              refine wp_region_quiet_below (by kernel_rfl) (by kernel_rfl) ?_
              repeat (go_big_quiet_step (first | (go_at_call 18; with_reducible exact quiet_t HCx.out) | (go_at_call 18; with_reducible exact quiet_t HCy.out)))
              refine wpQuiet_nil ?_
              rintro _ ⟨⟨dq, osq⟩, rfl⟩
              have b5 := below_regrown wr dq osq
              clear x0 x1 x2 x3 x4 x5 x6 x7 x8 x9 x10 x11 e1 e2 HCx HCy HTr
              have HO5 := Lib.hid (own_later HOr.out b5)
              have HB5 := Lib.hid (below_then HBr.out (Nat.le_refl _) b5)
              generalize Go.Sort.grow (redrawn wr dq) osq = w5 at *
              clear HOr HBr b5
              go_wp2_with fail
              go_loopw [9] (fun s9 wr => ∃ k : Nat, k ≤ xs.length ∧ s9 = .int .i64 k ∧ j + 1 ≤ k ∧ Hid (runsGo f k true (xs.drop k) = runsGo f (j + 1) true (xs.drop (j + 1))) ∧ Hid (wr.ownsRow w2.heap.size 3 1 (.slice A7 acc.length c7) acc.length (acc.map (Value.int .i64))) ∧ Hid (Below w2.heap.size w2 wr)) (fun i _ => xs.length - (intOf i).toNat)
              case atStart => exact ⟨j + 1, by omega, by go_num, Nat.le_refl _, Lib.hid rfl, HO5, HB5⟩
              case round =>
                clear HO5 HB5
                obtain ⟨k, hkn, rfl, hik, HR, HOr, HBr⟩ := hrel
                have q0 : (0 : Int) ≤ (k : Int) := by omega
                by_cases hltk : k < xs.length
                · obtain ⟨z, hz, _⟩ := get_of hltk
                  have q1 : (k : Int) < (xs.length : Int) := by omega
                  have e3 := cell_regrown (HCL.out wr k z HBr.out hz)
                  have HTr := Lib.hid (HT2.out.later HBr.out)
                  have HCz : Hid (∀ V, Below wr.heap.size wr V → Calls Tryd.prog 18 #[.agg #[t.c0, t.c1, t.c2, t.c3, t.c4, t.c5, t.c6, t.c7, t.c8, t.c9, t.c10, t.c11], .int .i64 z] V fun e V' => e = .returned (.int .i64 (f z)) ∧ Below V.heap.size V V') := Lib.hid fun V hV => HC.out tb V z (HTr.out.later hV)
                  by_cases hz0 : f z = 0
                  · have b3 : (f z != 0) = false := by rw [hz0]; rfl
                    have HN := Lib.hid (runI_new HS.out HNW.out HX.out HX0.out (run_stop HR.out (.inr ⟨z, hz, hz0⟩)))
                    clear hz0 hz
                    go_upto_region 10 with fail
                    obtain ⟨x0, x1, x2, x3, x4, x5, x6, x7, x8, x9, x10, x11⟩ := HTr.out.1.tabG
                    refine wp_region_quiet_below (by kernel_rfl) (by kernel_rfl) ?_
                    repeat (go_big_quiet_step ((go_at_call 18; with_reducible exact quiet_t HCz.out)))
                    refine wpQuiet_nil ?_
                    rintro _ ⟨⟨dq, osq⟩, rfl⟩
                    have b5 := below_regrown wr dq osq
                    clear x0 x1 x2 x3 x4 x5 x6 x7 x8 x9 x10 x11 e3 HCz HTr
                    have HO5 := Lib.hid (own_later HOr.out b5)
                    have HB5 := Lib.hid (below_then HBr.out (Nat.le_refl _) b5)
                    generalize Go.Sort.grow (redrawn wr dq) osq = w5 at *
                    clear HOr HBr b5
                    go_wp2_with (at_builtin; refine wpList_append_ints (by rfl) (.tmp 59) (.tmp 62) rfl Tryd.underlying22 hi hz0 hz1 hz2 (w5.heap.size + 1) w2.heap.size (.slice A7 acc.length c7) acc (.slice (some ⟨w5.heap.size, 0, none⟩) 2 2) [((j + 1 : Nat) : Int), (k : Int)] rfl (HO5.out.alloc _) rfl (by have h := Ints.of_own (own_new w5 3 [((j + 1 : Nat) : Int), (k : Int)] (by simp)); simpa using h) (by simp; omega) (by have := HB5.out.size; simp; omega) ?_; intro v6 w6 ho6 hg6 _; obtain ⟨A6, c6, rfl, _⟩ := id (Ints.of_own ho6); have HO6 := Lib.hid ho6; have HB6 := Lib.hid ((HB5.out.alloc HB5.out.size (.cells #[.int .i64 ((j + 1 : Nat) : Int), .int .i64 (k : Int)] 3)).grown hg6 (by have := HB5.out.size; simp; omega) (fun q hq => (HO5.out.lt q hq).1)); clear ho6 hg6)
                    go_roundw
                    case rel => exact ⟨j + 1 + 1, acc ++ [((j + 1 : Nat) : Int), (k : Int)], A6, c6, by omega, by go_num, by simp, by simp only [List.length_append, List.length_cons, List.length_nil]; omega, HN, HO6, HB6⟩
                    case measure => simp [intOf]; omega
                  · have b3 : (f z != 0) = true := by simpa using hz0
                    have HN := Lib.hid (run_step HR.out hz hz0)
                    clear hz0 hz
                    go_upto_region 10 with fail
                    obtain ⟨x0, x1, x2, x3, x4, x5, x6, x7, x8, x9, x10, x11⟩ := HTr.out.1.tabG
                    refine wp_region_quiet_below (by kernel_rfl) (by kernel_rfl) ?_
                    repeat (go_big_quiet_step ((go_at_call 18; with_reducible exact quiet_t HCz.out)))
                    refine wpQuiet_nil ?_
                    rintro _ ⟨⟨dq, osq⟩, rfl⟩
                    have b5 := below_regrown wr dq osq
                    clear x0 x1 x2 x3 x4 x5 x6 x7 x8 x9 x10 x11 e3 HCz HTr
                    have HO5 := Lib.hid (own_later HOr.out b5)
                    have HB5 := Lib.hid (below_then HBr.out (Nat.le_refl _) b5)
                    generalize Go.Sort.grow (redrawn wr dq) osq = w5 at *
                    clear HOr HBr b5
                    go_wp2_with fail
                    go_roundw
                    case rel => exact ⟨k + 1, by omega, by go_num, by omega, HN, HO5, HB5⟩
                    case measure => simp [intOf]; omega
                · have q1 : ¬ (k : Int) < (xs.length : Int) := by omega
                  have HN := Lib.hid (runI_new HS.out HNW.out HX.out HX0.out (run_stop HR.out (.inl (by omega))))
                  go_upto_region 10 with fail
                  refine wp_region_quiet_below (by kernel_rfl) (by kernel_rfl) ?_
                  repeat (go_big_quiet_step (fail))
                  refine wpQuiet_nil ?_
                  rintro _ ⟨⟨dq, osq⟩, rfl⟩
                  have b5 := below_regrown wr dq osq
                  have HO5 := Lib.hid (own_later HOr.out b5)
                  have HB5 := Lib.hid (below_then HBr.out (Nat.le_refl _) b5)
                  generalize Go.Sort.grow (redrawn wr dq) osq = w5 at *
                  clear HOr HBr b5
                  go_wp2_with (at_builtin; refine wpList_append_ints (by rfl) (.tmp 59) (.tmp 62) rfl Tryd.underlying22 hi hz0 hz1 hz2 (w5.heap.size + 1) w2.heap.size (.slice A7 acc.length c7) acc (.slice (some ⟨w5.heap.size, 0, none⟩) 2 2) [((j + 1 : Nat) : Int), (k : Int)] rfl (HO5.out.alloc _) rfl (by have h := Ints.of_own (own_new w5 3 [((j + 1 : Nat) : Int), (k : Int)] (by simp)); simpa using h) (by simp; omega) (by have := HB5.out.size; simp; omega) ?_; intro v6 w6 ho6 hg6 _; obtain ⟨A6, c6, rfl, _⟩ := id (Ints.of_own ho6); have HO6 := Lib.hid ho6; have HB6 := Lib.hid ((HB5.out.alloc HB5.out.size (.cells #[.int .i64 ((j + 1 : Nat) : Int), .int .i64 (k : Int)] 3)).grown hg6 (by have := HB5.out.size; simp; omega) (fun q hq => (HO5.out.lt q hq).1)); clear ho6 hg6)
                  go_roundw
                  case rel => exact ⟨j + 1 + 1, acc ++ [((j + 1 : Nat) : Int), (k : Int)], A6, c6, by omega, by go_num, by simp, by simp only [List.length_append, List.length_cons, List.length_nil]; omega, HN, HO6, HB6⟩
                  case measure => simp [intOf]; omega
            · have b1 : (f y != 0) = true := by simpa using hy0
              have HN := Lib.hid (runI_on HS.out HY.out hy0 HX.out HX0.out)
              clear hy0
              go_upto_region 8 with fail
              obtain ⟨x0, x1, x2, x3, x4, x5, x6, x7, x8, x9, x10, x11⟩ := HTr.out.1.tabG
              refine wp_region_quiet_below (by kernel_rfl) (by kernel_rfl) ?_
              repeat (go_big_quiet_step (first | (go_at_call 18; with_reducible exact quiet_t HCx.out) | (go_at_call 18; with_reducible exact quiet_t HCy.out)))
              refine wpQuiet_nil ?_
              rintro _ ⟨⟨dq, osq⟩, rfl⟩
              have b5 := below_regrown wr dq osq
              clear x0 x1 x2 x3 x4 x5 x6 x7 x8 x9 x10 x11 e1 e2 HCx HCy HTr
              have HO5 := Lib.hid (own_later HOr.out b5)
              have HB5 := Lib.hid (below_then HBr.out (Nat.le_refl _) b5)
              generalize Go.Sort.grow (redrawn wr dq) osq = w5 at *
              clear HOr HBr b5
              go_wp2_with fail
              go_roundw
              case rel => exact ⟨j + 1 + 1, acc, A7, c7, by omega, by go_num, rfl, by omega, HN, HO5, HB5⟩
              case measure => simp [intOf]; omega
      · have HD := Lib.hid (runI_end HS.out (by omega))
        go_wp2_with fail
        go_ret2
        rw [HE.out, ← HD.out]
        exact ⟨_, rfl, row_le HOr.out HB2.out.size, below_next HB2.out HBr.out⟩
  · have HE : Hid (runL T xs = []) := Lib.hid (by unfold runL; rw [if_neg h0])
    have hb : (accE T xs != 0) = true := by simpa using h0
    clear h0
    go_enter Tryd.func52, Tryd.ntmps52
    go_upto_region 1 with fail
    generalize w.alloc (.cells t.cells 26) = w1 at *
    obtain ⟨x0, x1, x2, x3, x4, x5, x6, x7, x8, x9, x10, x11⟩ := HT.out.1.tab
    go_wp2_with (go_at_call 65; refine HCK.out.mono ?_; rintro e w2 ⟨rfl, b2⟩)
    go_ret2
    rw [HE.out]
    exact ⟨_, rfl, World.ownsRow_nil _ _ _ _, below_next HB0.out b2⟩
end Go.Proofs.YtneinkpfhkojgaaDoor
/-
  The walk through agrees of the laws of layer 6: for whatever tables and sequence.
-/
namespace Go.Proofs.YtneinkpfhkojgaaDoor
open Go.RowKit ND

set_option maxRecDepth 100000 in
set_option maxHeartbeats 4000000 in
theorem agrees6_any (t : Tv) (T : Tab) (v : Value) (xs : List Int) (w : World) (ht : TabR w w.heap.size t T) (hg : Glob w) (hv : Ints w w.heap.size .i64 v xs) :
    Calls Tryd.prog 27 #[t.val, v] w fun e w' => e = .returned (.bool true) ∧ Below w.heap.size w w' := by
  obtain ⟨A, c, rfl, _⟩ := id hv
  have HB0 : Hid (Below w.heap.size w (w.alloc (.cells t.cells 26))) := Lib.hid ((Below.refl _ _).alloc (Nat.le_refl _) _)
  have HT : Hid (Tbl (w.alloc (.cells t.cells 26)) w.heap.size t T) := Lib.hid ⟨Blk.new _ _ _, ht.later HB0.out⟩
  have HV := Lib.hid (hv.later HB0.out)
  have HGL := Lib.hid (hg.later HB0.out)
  clear hv ht hg
  go_enter Tryd.func27, Tryd.ntmps27
  go_upto_region 1 with fail
  generalize w.alloc (.cells t.cells 26) = w1 at *
  obtain ⟨tb, htb⟩ : ∃ tb, w.heap.size = tb := ⟨_, rfl⟩
  rw [htb] at HT
  simp only [htb]
  have H1 := Lib.hid (fun W (h : Below w1.heap.size w1 W) => order_any t T _ xs W (HT.out.later h).2 (HGL.out.later h) (HV.out.later h))
  have H2 := Lib.hid (fun W (h : Below w1.heap.size w1 W) => refOrder_any t T _ xs W (HT.out.later h).2 (HV.out.later h))
  have H3 := Lib.hid (fun W (h : Below w1.heap.size w1 W) => runs_any t T _ xs W (HT.out.later h).2 (HGL.out.later h) (HV.out.later h))
  have H4 := Lib.hid (fun W (h : Below w1.heap.size w1 W) => refRuns_any t T _ xs W (HT.out.later h).2 (HV.out.later h))
  have H5 := Lib.hid (fun W (h : Below w1.heap.size w1 W) => sorted_any t T _ xs W (HT.out.later h).2 (HGL.out.later h) (HV.out.later h))
  have H6 := Lib.hid (fun W (h : Below w1.heap.size w1 W) => refSorted_any t T _ xs W (HT.out.later h).2 (HV.out.later h))
  generalize ordL T xs = ol at *
  generalize runL T xs = rl at *
  generalize accE T xs = er at *
  generalize sortedB T xs = sb at *
  obtain ⟨x0, x1, x2, x3, x4, x5, x6, x7, x8, x9, x10, x11⟩ := HT.out.1.tab
  go_upto_region 2 with (go_at_call 19; refine (H1.out _ (Below.refl _ _)).mono ?_; rintro e w2 ⟨u2, rfl, ho2, b2⟩; obtain ⟨A2, c2, rfl, _⟩ := id (Ints.of_own ho2); have HU2 := Lib.hid (Ints.of_own ho2); clear ho2)
  clear x0 x1 x2 x3 x4 x5 x6 x7 x8 x9 x10 x11
  have B2 := Lib.hid b2
  obtain ⟨x0, x1, x2, x3, x4, x5, x6, x7, x8, x9, x10, x11⟩ := (HT.out.later B2.out).1.tab
  go_upto_region 3 with (go_at_call 51; refine (H2.out _ b2).mono ?_; rintro e w3 ⟨u3, rfl, ho3, b3⟩; obtain ⟨A3, c3, rfl, _⟩ := id (Ints.of_own ho3); have HU3 := Lib.hid (Ints.of_own ho3); clear ho3)
  clear x0 x1 x2 x3 x4 x5 x6 x7 x8 x9 x10 x11
  have B3 := Lib.hid (below_next B2.out b3)
  have HU2' := Lib.hid (HU2.out.later b3)
  clear b2 b3 HU2
  obtain ⟨x0, x1, x2, x3, x4, x5, x6, x7, x8, x9, x10, x11⟩ := (HT.out.later B3.out).1.tab
  go_upto_region 4 with (go_at_call 21; refine (H3.out _ B3.out).mono ?_; rintro e w4 ⟨u4, rfl, ho4, b4⟩; obtain ⟨A4, c4, rfl, _⟩ := id (Ints.of_own ho4); have HU4 := Lib.hid (Ints.of_own ho4); clear ho4)
  clear x0 x1 x2 x3 x4 x5 x6 x7 x8 x9 x10 x11
  have B4 := Lib.hid (below_next B3.out b4)
  obtain ⟨x0, x1, x2, x3, x4, x5, x6, x7, x8, x9, x10, x11⟩ := (HT.out.later B4.out).1.tab
  go_upto_region 5 with (go_at_call 52; refine (H4.out _ B4.out).mono ?_; rintro e w5 ⟨u5, rfl, ho5, b5⟩; obtain ⟨A5, c5, rfl, _⟩ := id (Ints.of_own ho5); have HU5 := Lib.hid (Ints.of_own ho5); clear ho5)
  clear x0 x1 x2 x3 x4 x5 x6 x7 x8 x9 x10 x11
  have B5 := Lib.hid (below_next B4.out b5)
  have b45 := below_next b4 b5
  have HS1 : Hid (∀ V, Below w5.heap.size w5 V → Calls Tryd.prog 20 #[.slice A2 ol.length c2, .slice A3 ol.length c3] V fun e V' => e = .returned (.bool true) ∧ Below V.heap.size V V') := Lib.hid fun V hV => by
    have h := same_any _ _ ol ol V ((HU2'.out.later b45).later hV) ((HU3.out.later b45).later hV)
    rw [decide_eq_true rfl] at h; exact h
  have HS2 : Hid (∀ V, Below w5.heap.size w5 V → Calls Tryd.prog 20 #[.slice A4 rl.length c4, .slice A5 rl.length c5] V fun e V' => e = .returned (.bool true) ∧ Below V.heap.size V V') := Lib.hid fun V hV => by
    have h := same_any _ _ rl rl V ((HU4.out.later b5).later hV) (HU5.out.later hV)
    rw [decide_eq_true rfl] at h; exact h
  have HS3 : Hid (∀ V, Below w5.heap.size w5 V → Calls Tryd.prog 29 #[.agg #[t.c0, t.c1, t.c2, t.c3, t.c4, t.c5, t.c6, t.c7, t.c8, t.c9, t.c10, t.c11], .slice A xs.length c] V fun e V' => e = .returned (.bool sb) ∧ Below V.heap.size V V') := Lib.hid fun V hV => H5.out V (B5.out.trans (hV.mono B5.out.size))
  have HS4 : Hid (∀ V, Below w5.heap.size w5 V → Calls Tryd.prog 53 #[.agg #[t.c0, t.c1, t.c2, t.c3, t.c4, t.c5, t.c6, t.c7, t.c8, t.c9, t.c10, t.c11], .slice A xs.length c] V fun e V' => e = .returned (.bool sb) ∧ Below V.heap.size V V') := Lib.hid fun V hV => H6.out V (B5.out.trans (hV.mono B5.out.size))
  have HT5 := Lib.hid (HT.out.later B5.out)
  clear b4 b5 b45 HU2' HU3 HU4 HU5 H1 H2 H3 H4 H5 H6 HT HV HGL
  obtain ⟨x0, x1, x2, x3, x4, x5, x6, x7, x8, x9, x10, x11⟩ := HT5.out.1.tabG
  refine wp_region_quiet_below (by kernel_rfl) (by kernel_rfl) ?_
  repeat (go_big_quiet_step (first | (go_at_call 20; with_reducible exact quiet_t HS1.out) | (go_at_call 20; with_reducible exact quiet_t HS2.out) | (go_at_call 29; with_reducible exact quiet_t HS3.out) | (go_at_call 53; with_reducible exact quiet_t HS4.out)))
  refine wpQuiet_nil ?_
  rintro _ ⟨⟨dq, osq⟩, rfl⟩
  go_wp2
  go_ret
  exact ⟨rfl, below_next (below_next HB0.out B5.out) (below_regrown _ dq osq)⟩
end Go.Proofs.YtneinkpfhkojgaaDoor
/-
  The walk through awake of the laws of layer 6: the example of its chapter.
-/
namespace Go.Proofs.YtneinkpfhkojgaaDoor
open Go.RowKit ND

def exTab : Tab := ⟨[], [(769, 769, 230), (803, 803, 220)], [], [], [], [], [], [], [], [], [], []⟩
theorem exTab_check : exTab.check = 0 := by decide +kernel
theorem exTab_ord : ordL exTab [97, 769, 803] = [97, 803, 769] := by decide +kernel
theorem exTab_run : runL exTab [97, 769, 803] = [1, 3] := by decide +kernel
theorem exTab_err : accE exTab [97, 769, 803] = 0 := by decide +kernel
/-- The example's tables. -/
def RetEx (w : World) (e : Ending) (w' : World) : Prop := ∃ t : Tv, e = .returned t.val ∧ TabR w' w'.heap.size t exTab ∧ Below w.heap.size w w'

set_option maxRecDepth 100000 in
set_option maxHeartbeats 1000000 in
theorem example_any (w : World) : Calls Tryd.prog 40 #[] w (RetEx w) := by
  go_enter Tryd.func40, Tryd.ntmps40
  go_wp2
  have hX : Blk ((w.alloc (.cells #[.slice none 0 0, .slice (some ⟨w.heap.size + 1, 0, none⟩) 2 2, .slice none 0 0, .slice none 0 0, .slice none 0 0, .slice none 0 0, .slice none 0 0, .slice none 0 0, .slice none 0 0, .slice none 0 0, .slice none 0 0, .slice none 0 0] 26)).alloc (.cells #[.int .i64 769, .int .i64 769, .int .i64 230, .int .i64 803, .int .i64 803, .int .i64 220] 44)) w.heap.size 26 #[.slice none 0 0, .slice (some ⟨w.heap.size + 1, 0, none⟩) 2 2, .slice none 0 0, .slice none 0 0, .slice none 0 0, .slice none 0 0, .slice none 0 0, .slice none 0 0, .slice none 0 0, .slice none 0 0, .slice none 0 0, .slice none 0 0] := (Blk.new _ _ _).alloc _
  have hO : ((w.alloc (.cells #[.slice none 0 0, .slice (some ⟨w.heap.size + 1, 0, none⟩) 2 2, .slice none 0 0, .slice none 0 0, .slice none 0 0, .slice none 0 0, .slice none 0 0, .slice none 0 0, .slice none 0 0, .slice none 0 0, .slice none 0 0, .slice none 0 0] 26)).alloc (.cells #[.int .i64 769, .int .i64 769, .int .i64 230, .int .i64 803, .int .i64 803, .int .i64 220] 44)).ownsRow 0 44 3 (.slice (some ⟨w.heap.size + 1, 0, none⟩) 2 2) exTab.cls.length (exTab.cls.flatMap spCells) := by
    have h := World.ownsRow_lit (base := 0) (e := 44) (size := 3) (w.alloc (.cells #[.slice none 0 0, .slice (some ⟨w.heap.size + 1, 0, none⟩) 2 2, .slice none 0 0, .slice none 0 0, .slice none 0 0, .slice none 0 0, .slice none 0 0, .slice none 0 0, .slice none 0 0, .slice none 0 0, .slice none 0 0, .slice none 0 0] 26)) #[.int .i64 769, .int .i64 769, .int .i64 230, .int .i64 803, .int .i64 803, .int .i64 220] 2 (Nat.zero_le _) (by decide) rfl
    rw [show (w.alloc (.cells #[.slice none 0 0, .slice (some ⟨w.heap.size + 1, 0, none⟩) 2 2, .slice none 0 0, .slice none 0 0, .slice none 0 0, .slice none 0 0, .slice none 0 0, .slice none 0 0, .slice none 0 0, .slice none 0 0, .slice none 0 0, .slice none 0 0] 26)).heap.size = w.heap.size + 1 by simp] at h
    exact h
  have hb : Below w.heap.size w ((w.alloc (.cells #[.slice none 0 0, .slice (some ⟨w.heap.size + 1, 0, none⟩) 2 2, .slice none 0 0, .slice none 0 0, .slice none 0 0, .slice none 0 0, .slice none 0 0, .slice none 0 0, .slice none 0 0, .slice none 0 0, .slice none 0 0, .slice none 0 0] 26)).alloc (.cells #[.int .i64 769, .int .i64 769, .int .i64 230, .int .i64 803, .int .i64 803, .int .i64 220] 44)) := ((Below.refl _ _).alloc (Nat.le_refl _) _).alloc (by simp) _
  obtain ⟨x0, x1, x2, x3, x4, x5, x6, x7, x8, x9, x10, x11⟩ := hX.tab
  generalize ((w.alloc (.cells #[.slice none 0 0, .slice (some ⟨w.heap.size + 1, 0, none⟩) 2 2, .slice none 0 0, .slice none 0 0, .slice none 0 0, .slice none 0 0, .slice none 0 0, .slice none 0 0, .slice none 0 0, .slice none 0 0, .slice none 0 0, .slice none 0 0] 26)).alloc (.cells #[.int .i64 769, .int .i64 769, .int .i64 230, .int .i64 803, .int .i64 803, .int .i64 220] 44)) = W at *
  exact bodyPost_ret (v := Tv.val ⟨.slice none 0 0, .slice (some ⟨w.heap.size + 1, 0, none⟩) 2 2, .slice none 0 0, .slice none 0 0, .slice none 0 0, .slice none 0 0, .slice none 0 0, .slice none 0 0, .slice none 0 0, .slice none 0 0, .slice none 0 0, .slice none 0 0⟩) (by simp [results, Tryd.results40, go_sem, x0, x1, x2, x3, x4, x5, x6, x7, x8, x9, x10, x11]) rfl ⟨⟨.slice none 0 0, .slice (some ⟨w.heap.size + 1, 0, none⟩) 2 2, .slice none 0 0, .slice none 0 0, .slice none 0 0, .slice none 0 0, .slice none 0 0, .slice none 0 0, .slice none 0 0, .slice none 0 0, .slice none 0 0, .slice none 0 0⟩, rfl, ⟨Spans.none_, Spans.of_own hO, Spans.none_, Spans.none_, Spans.none_, Spans.none_, Spans.none_, Mapps.none_, Mapps.none_, Mapps.none_, Ints.none_, Mapps.none_⟩, hb⟩

/-- A literal of integers, later. -/
theorem lit_ints (w : World) (xs : List Int) (hl : xs.length ≤ 1000000) {V : World} (hV : Below (w.alloc (.cells (xs.map (Value.int .i64)).toArray 3)).heap.size (w.alloc (.cells (xs.map (Value.int .i64)).toArray 3)) V) : Ints V V.heap.size .i64 (.slice (some ⟨w.heap.size, 0, none⟩) xs.length xs.length) xs :=
  (Ints.of_own (own_new w 3 xs hl)).later hV

set_option maxRecDepth 100000 in
set_option maxHeartbeats 2000000 in
theorem awake6 (w : World) (hg : Glob w) : Calls Tryd.prog 16 #[] w fun e w' => e = .returned (.bool true) ∧ Below w.heap.size w w' := by
  have HG := Lib.hid (fun W (h : Below w.heap.size w W) => hg.later h)
  clear hg
  have HO := Lib.hid (fun t v W h h2 h3 => order_any t exTab v [97, 769, 803] W h h2 h3)
  have HR := Lib.hid (fun t v W h h2 h3 => runs_any t exTab v [97, 769, 803] W h h2 h3)
  rw [exTab_ord, exTab_err] at HO
  rw [exTab_run, exTab_err] at HR
  go_enter Tryd.func16, Tryd.ntmps16
  go_upto_region 2 with (first
    | (go_at_call 40; refine (example_any _).mono ?_; rintro e w1 ⟨t1, rfl, ht1, b1⟩)
    | (go_at_call 19; have bl := (Below.refl w1.heap.size w1).alloc (Nat.le_refl _) (.cells #[.int .i64 97, .int .i64 769, .int .i64 803] 3); refine (HO.out t1 _ _ (ht1.later bl) (HG.out _ (below_next b1 bl)) (lit_ints w1 [97, 769, 803] (by simp) (Below.refl _ _))).mono ?_; rintro e w2 ⟨u2, rfl, ho2, b2⟩; obtain ⟨A2, c2, rfl, _⟩ := id (Ints.of_own ho2); have HU2 := Lib.hid (Ints.of_own ho2); have HB2 := Lib.hid (below_next (below_next b1 bl) b2); clear ho2 b1 bl b2 ht1))
  go_upto_region 3 with (first
    | (go_at_call 40; refine (example_any _).mono ?_; rintro e w3 ⟨t3, rfl, ht3, b3⟩)
    | (go_at_call 21; have bl := (Below.refl w3.heap.size w3).alloc (Nat.le_refl _) (.cells #[.int .i64 97, .int .i64 769, .int .i64 803] 3); refine (HR.out t3 _ _ (ht3.later bl) (HG.out _ (below_next HB2.out (below_next b3 bl))) (lit_ints w3 [97, 769, 803] (by simp) (Below.refl _ _))).mono ?_; rintro e w4 ⟨u4, rfl, ho4, b4⟩; obtain ⟨A4, c4, rfl, _⟩ := id (Ints.of_own ho4); have HU4 := Lib.hid (Ints.of_own ho4); have b24 := below_next (below_next b3 bl) b4; have HU2' := Lib.hid (HU2.out.later b24); have HB4 := Lib.hid (below_next HB2.out b24); clear ho4 b3 bl b4 b24 ht3 HU2))
  have HS1 : Hid (∀ V, Below (w4.alloc (.cells #[.int .i64 97, .int .i64 803, .int .i64 769] 3)).heap.size (w4.alloc (.cells #[.int .i64 97, .int .i64 803, .int .i64 769] 3)) V → Calls Tryd.prog 20 #[.slice A2 3 c2, .slice (some ⟨w4.heap.size, 0, none⟩) 3 3] V fun e V' => e = .returned (.bool true) ∧ Below V.heap.size V V') := Lib.hid fun V hV => by
    have h := same_any _ _ [97, 803, 769] [97, 803, 769] V ((HU2'.out.later ((Below.refl _ _).alloc (Nat.le_refl _) _)).later hV) (lit_ints w4 [97, 803, 769] (by simp) hV)
    rw [decide_eq_true rfl] at h; exact h
  go_wp2_with (first
    | (go_at_call 20; refine (HS1.out _ (Below.refl _ _)).mono ?_; rintro e w5 ⟨rfl, b5⟩; have b45 := below_next ((Below.refl w4.heap.size w4).alloc (Nat.le_refl _) (.cells #[.int .i64 97, .int .i64 803, .int .i64 769] 3)) b5; have HB5 := Lib.hid (below_next HB4.out b45); have HU4' := Lib.hid (HU4.out.later b45); clear b5 b45 HS1)
    | (go_at_call 20; have bl := (Below.refl w5.heap.size w5).alloc (Nat.le_refl _) (.cells #[.int .i64 1, .int .i64 3] 3); have h := same_any _ _ [1, 3] [1, 3] _ (HU4'.out.later bl) (lit_ints w5 [1, 3] (by simp) (Below.refl _ _)); rw [decide_eq_true rfl] at h; refine h.mono ?_; rintro e w6 ⟨rfl, b6⟩; have HB6 := Lib.hid (below_next (below_next HB5.out bl) b6); clear bl h b6))
  go_ret
  exact ⟨rfl, HB6.out⟩
end Go.Proofs.YtneinkpfhkojgaaDoor
