/-
  Merged texts: lemmas and walks that the last text of this claim leans on.
-/
import Derived.Test.YtecpbicfiaifdaaDoorMgB77
import Derived.Test.YtecpbicfiaifdaaDoorMgB71
import Derived.Test.YtecpbicfiaifdaaDoorMgB73
import Derived.Deep.AppendLies
/-
  The walks through table.mapped and the reference's mapped: rule 5.
-/
namespace Go.Proofs.YtecpbicfiaifdaaDoor
open Go.RowKit ND

theorem count_go {l : List Sp} {k : Nat} {s : Sp} {n R : Int} (hx : l[k]? = some s) (h : n + mapCount (l.drop k) = R) : (s.2.2 = 3 → n + (s.2.1 - s.1 + 1) + mapCount (l.drop (k + 1)) = R) ∧ (s.2.2 ≠ 3 → n + mapCount (l.drop (k + 1)) = R) := by
  rw [drop_of_get hx, mapCount] at h
  constructor
  · intro h3; rw [if_pos h3] at h; omega
  · intro h3; rw [if_neg h3] at h; omega
theorem count_end {l : List Sp} {k : Nat} {n R : Int} (hk : l.length ≤ k) (h : n + mapCount (l.drop k) = R) : R = n := by
  rw [List.drop_eq_nil_of_le hk] at h; unfold mapCount at h; omega
def elOk (T : Tab) (c : Int) : Bool := okStat (T.statusOf c)
theorem mapOk_no {T : Tab} {c : Int} {tg : List Int} (h : T.statusOf c ≠ 3) : T.mapOk (c, tg) = false := by unfold Tab.mapOk; rw [decide_eq_false h]; rfl
theorem mapOk_yes {T : Tab} {c : Int} {tg : List Int} (h : T.statusOf c = 3) : T.mapOk (c, tg) = tg.all (elOk T) := by unfold Tab.mapOk; rw [decide_eq_true h]; rfl
theorem stat_ways (s : Int) : (okStat s = true ∧ (s != 1) = false) ∨ (okStat s = true ∧ (s != 1) = true ∧ (s != 4) = false) ∨ (okStat s = false ∧ (s != 1) = true ∧ (s != 4) = true) := by
  unfold okStat
  simp only [decide_eq_true_eq, decide_eq_false_iff_not, bne_iff_ne, ne_eq, bne_eq_false_iff_eq]
  omega

set_option maxRecDepth 100000 in
set_option maxHeartbeats 4000000 in
theorem mapped_any (t : Tv) (T : Tab) (w : World) (ht : TabR w w.heap.size t T) (hg : GoodS T.status) :
    Calls Tryd.prog 62 #[t.val] w fun e w' => e = .returned (.bool T.rule5) ∧ Below w.heap.size w w' := by
  obtain ⟨tc, htc⟩ : ∃ tc, tc = t.cells := ⟨_, rfl⟩
  have HST := Lib.hid (fun c W (h : TabR W W.heap.size t T) => status_any t T c 0 1114111 W h hg.1 hg.2.1)
  have HT := Lib.hid (fun W (h : Below w.heap.size w W) => ht.later h)
  have hsp := ht.r5
  have hmp := ht.r8
  obtain ⟨A0, A1, A2, A3, A4, A5, A6, A7, A8, A9, A10, A11, k0, k1, k2, k3, k4, k5, k6, k7, k8, k9, k10, k11, rfl⟩ := ht.shape
  clear ht
  have HTC := Lib.hid htc
  clear htc
  obtain ⟨A, cp, hA, hc1, hc2, _, hcell⟩ := hsp
  cases hA
  have HC := Lib.hid hcell
  have hlm : T.status.length ≤ 256 := hg.2.1
  obtain ⟨B, cq, hB, hd1, hd2, _, hcell2⟩ := hmp
  cases hB
  have HM := Lib.hid hcell2
  have hln : T.maps.length ≤ 9223372036854775807 := by unfold maxLen at hd2; omega
  have HEL := Lib.hid (fun i a (h : T.status[i]? = some a) => okS_el hg.1 h)
  clear hcell hc1 hc2 hcell2 hd1 hd2 hg
  obtain ⟨R, hR⟩ : ∃ R, R = T.rule5 := ⟨_, rfl⟩
  rw [← hR]
  obtain ⟨N, hN⟩ : ∃ N, N = mapCount T.status := ⟨_, rfl⟩
  obtain ⟨Rm, hRm⟩ : ∃ Rm, Rm = T.maps.all T.mapOk := ⟨_, rfl⟩
  have HN0 : Hid (0 + mapCount (T.status.drop 0) = N) := Lib.hid (by rw [hN, Int.zero_add]; rfl)
  have HM0 : Hid ((T.maps.drop 0).all T.mapOk = Rm) := Lib.hid hRm.symm
  have HRR : Hid (R = (decide (N = (T.maps.length : Int)) && Rm)) := Lib.hid (by rw [hR, hN, hRm]; rfl)
  clear hR hN hRm
  go_enter Tryd.func62, Tryd.ntmps62
  go_wp2_with fail
  go_loopw [3, 14] (fun n i wr => ∃ (j : Nat) (m : Int), j ≤ T.status.length ∧ i = .int .i64 j ∧ n = .int .i64 m ∧ 0 ≤ m ∧ m ≤ 1114112 * (j : Int) ∧ Hid (m + mapCount (T.status.drop j) = N) ∧ Below w.heap.size w wr ∧ Hid (Blk wr w.heap.size 31 tc)) (fun _ i _ => T.status.length - (intOf i).toNat)
  case atStart => exact ⟨0, 0, by omega, rfl, rfl, by omega, by omega, HN0, (Below.refl _ _).alloc (Nat.le_refl _) _, Lib.hid (by rw [HTC.out]; exact Blk.new _ _ _)⟩
  case round =>
    obtain ⟨j, m, hj, rfl, rfl, hm0, hm1, HS, hbel, HB⟩ := hrel
    clear HN0
    by_cases hjl : j < T.status.length
    · obtain ⟨⟨f, t, x⟩, hxj, _⟩ := get_el hjl
      obtain ⟨aj, rfl, ha, d0, d1, d2⟩ := HC.out j _ hxj
      simp only at d0 d1 d2
      obtain ⟨e0, e1, e2⟩ := span_cells hbel ha d0 d1 d2
      have hel := HEL.out j _ hxj
      simp only at hel
      have hcg := count_go hxj HS.out
      simp only at hcg
      have HCG := Lib.hid hcg
      have HB' := Lib.hid (HB.out.alloc (.cells #[.int .i64 f, .int .i64 t, .int .i64 x] 58))
      clear d0 d1 d2 hxj ha hcg HB
      have r0 : (0 : Int) ≤ (j : Int) := by omega
      have r1 : (j : Int) < (T.status.length : Int) := by omega
      by_cases hx3 : x = 3
      · have HNX := Lib.hid (HCG.out.1 hx3)
        have p1 : (x == 3) = true := by rw [beq_iff_eq]; exact hx3
        clear hx3 HCG
        go_wp2_with fail
        go_roundw
        case rel => exact ⟨j + 1, m + (t - f + 1), by omega, by go_num, rfl, by omega, by omega, HNX, hbel.alloc hbel.size _, HB'⟩
        case measure => simp [intOf]; omega
      · have HNX := Lib.hid (HCG.out.2 hx3)
        have p1 : (x == 3) = false := by rw [beq_eq_false_iff_ne]; exact hx3
        clear hx3 HCG
        go_wp2_with fail
        go_roundw
        case rel => exact ⟨j + 1, m, by omega, by go_num, rfl, by omega, by omega, HNX, hbel.alloc hbel.size _, HB'⟩
        case measure => simp [intOf]; omega
    · have hNm := count_end (by omega) HS.out
      obtain ⟨x0, x1, x2, x3, x4, x5, x6, x7, x8, x9, x10, x11⟩ := (show Blk _ _ _ #[_, _, _, _, _, _, _, _, _, _, _, _] from by have h := HB.out; rw [HTC.out] at h; exact h).tab
      have HBT := Lib.hid HB.out
      clear HS HC HEL HB
      by_cases hne : m = (T.maps.length : Int)
      · have p1 : (m != (T.maps.length : Int)) = false := by rw [bne_eq_false_iff_eq]; exact hne
        have HR2 : Hid (R = Rm) := Lib.hid (by rw [HRR.out, hNm, decide_eq_true hne, Bool.true_and])
        clear hne hNm HRR
        go_wp2_with fail
        clear x0 x1 x2 x3 x4 x5 x6 x7 x8 x9 x10 x11
        go_loopw [38] (fun i wr => ∃ (j : Nat), j ≤ T.maps.length ∧ i = .int .i64 j ∧ Hid ((T.maps.drop j).all T.mapOk = Rm) ∧ Below w.heap.size w wr ∧ Hid (Blk wr w.heap.size 31 tc)) (fun i _ => T.maps.length - (intOf i).toNat)
        case atStart => exact ⟨0, by omega, rfl, HM0, hbel, HBT⟩
        case round =>
          obtain ⟨j, hj, rfl, HS, hbel, HB⟩ := hrel
          clear HM0 HBT
          by_cases hjl : j < T.maps.length
          · obtain ⟨⟨cc, tg⟩, hxj, _⟩ := get_el hjl
            obtain ⟨aj, sv, rfl, ha, d0, d1, hto⟩ := HM.out j _ hxj
            simp only at d0 d1 hto
            obtain ⟨A', c', rfl, he1, he2, _, hcl⟩ := id hto
            have HTO := Lib.hid hcl
            have hlt : tg.length ≤ 9223372036854775807 := by unfold maxLen at he2; omega
            obtain ⟨e0, e1⟩ := map_cells hbel ha d0 d1
            have HX := Lib.hid hxj
            have HTR := Lib.hid (fun o => HT.out _ (hbel.alloc hbel.size o))
            have HB' := Lib.hid (HB.out.alloc (.cells #[.int .i64 cc, .slice A' tg.length c'] 49))
            obtain ⟨x0, x1, x2, x3, x4, x5, x6, x7, x8, x9, x10, x11⟩ := (show Blk _ _ _ #[_, _, _, _, _, _, _, _, _, _, _, _] from by have h := HB'.out; rw [HTC.out] at h; exact h).tab
            clear d0 d1 hxj ha hto hcl he1 he2 HB
            have r0 : (0 : Int) ≤ (j : Int) := by omega
            have r1 : (j : Int) < (T.maps.length : Int) := by omega
            have HS1 := Lib.hid (HST.out cc)
            by_cases hs3 : T.statusOf cc = 3
            · have HOK := Lib.hid (mapOk_yes (T := T) (tg := tg) hs3)
              have p2 : (T.statusOf cc != 3) = false := by rw [bne_eq_false_iff_eq]; exact hs3
              obtain ⟨Rt, hRt⟩ : ∃ Rt, Rt = tg.all (elOk T) := ⟨_, rfl⟩
              have HO : Hid ((tg.drop 0).all (elOk T) = Rt) := Lib.hid hRt.symm
              have HOK2 : Hid (T.mapOk (cc, tg) = Rt) := Lib.hid (HOK.out.trans hRt.symm)
              clear hs3 HOK hRt
              go_wp2_with fail
              refine (HS1.out _ (HTR.out _)).mono ?_
              rintro e w2 ⟨rfl, b2⟩
              have hbel2 := below_next (hbel.alloc hbel.size (.cells #[.int .i64 cc, .slice A' tg.length c'] 49)) b2
              have HB2 := Lib.hid (HB'.out.later b2)
              have d1 := ((Blk.new wr 49 #[.int .i64 cc, .slice A' tg.length c']).later b2).at_ (i := 1) (u := .slice A' tg.length c') rfl
              clear HB' b2 hbel e0 e1 x0 x1 x2 x3 x4 x5 x6 x7 x8 x9 x10 x11
              go_wp2_with fail
              clear d1
              go_loopw [50] (fun i wr => ∃ (q : Nat), q ≤ tg.length ∧ i = .int .i64 q ∧ Hid ((tg.drop q).all (elOk T) = Rt) ∧ Below w.heap.size w wr ∧ Hid (Blk wr w.heap.size 31 tc)) (fun i _ => tg.length - (intOf i).toNat)
              case atStart => exact ⟨0, by omega, rfl, HO, hbel2, HB2⟩
              case round =>
                obtain ⟨q, hq, rfl, HSq, hbelq, HBq⟩ := hrel
                clear HO HB2 hbel2
                by_cases hql : q < tg.length
                · obtain ⟨y, hyq, _⟩ := get_el hql
                  obtain ⟨ay, rfl, hay, d0⟩ := HTO.out q _ hyq
                  have e0 := (hbelq.cell (p := ay.add q) (by rw [block_of_add]; exact hay)).trans d0
                  have HXq := Lib.hid hyq
                  obtain ⟨x0, x1, x2, x3, x4, x5, x6, x7, x8, x9, x10, x11⟩ := (show Blk _ _ _ #[_, _, _, _, _, _, _, _, _, _, _, _] from by have h := HBq.out; rw [HTC.out] at h; exact h).tab
                  clear d0 hyq hay
                  have s0 : (0 : Int) ≤ (q : Int) := by omega
                  have s1 : (q : Int) < (tg.length : Int) := by omega
                  have HS2 := Lib.hid (HST.out y)
                  have HTq := Lib.hid (HT.out _ hbelq)
                  rcases stat_ways (T.statusOf y) with ⟨ho, u0⟩ | ⟨ho, u0, u1⟩ | ⟨ho, u0, u1⟩
                  · have HNX := Lib.hid (each_go HXq.out HSq.out ho)
                    clear ho
                    go_wp2_with fail
                    refine (HS2.out _ HTq.out).mono ?_
                    rintro e w2 ⟨rfl, b2⟩
                    have HB3 := Lib.hid (HBq.out.later b2)
                    clear HBq x0 x1 x2 x3 x4 x5 x6 x7 x8 x9 x10 x11 e0
                    go_wp2_with fail
                    go_roundw
                    case rel => exact ⟨q + 1, by omega, by go_num, HNX, below_next hbelq b2, HB3⟩
                    case measure => simp [intOf]; omega
                  · have HNX := Lib.hid (each_go HXq.out HSq.out ho)
                    clear ho
                    go_wp2_with fail
                    refine (HS2.out _ HTq.out).mono ?_
                    rintro e w2 ⟨rfl, b2⟩
                    have HB3 := Lib.hid (HBq.out.later b2)
                    clear HBq x0 x1 x2 x3 x4 x5 x6 x7 x8 x9 x10 x11 e0
                    go_wp2_with fail
                    go_roundw
                    case rel => exact ⟨q + 1, by omega, by go_num, HNX, below_next hbelq b2, HB3⟩
                    case measure => simp [intOf]; omega
                  · have HNX := Lib.hid (each_no HXq.out HSq.out ho)
                    clear ho
                    go_wp2_with fail
                    refine (HS2.out _ HTq.out).mono ?_
                    rintro e w2 ⟨rfl, b2⟩
                    clear HBq x0 x1 x2 x3 x4 x5 x6 x7 x8 x9 x10 x11 e0
                    go_wp2_with fail
                    go_ret
                    rw [HR2.out, each_no HX.out HS.out (HOK2.out.trans HNX.out)]
                    exact ⟨rfl, below_next hbelq b2⟩
                · have HNX := Lib.hid (each_go HX.out HS.out (HOK2.out.trans (each_end (by omega) HSq.out)))
                  go_wp2_with fail
                  go_roundw
                  case rel => exact ⟨j + 1, by omega, by go_num, HNX, hbelq, HBq⟩
                  case measure => simp [intOf]; omega
            · have HNX := Lib.hid (each_no HX.out HS.out (mapOk_no (tg := tg) hs3))
              have p2 : (T.statusOf cc != 3) = true := by rw [bne_iff_ne]; exact hs3
              clear hs3
              go_wp2_with fail
              refine (HS1.out _ (HTR.out _)).mono ?_
              rintro e w2 ⟨rfl, b2⟩
              clear x0 x1 x2 x3 x4 x5 x6 x7 x8 x9 x10 x11 e0 e1
              go_wp2_with fail
              go_ret
              rw [HR2.out, HNX.out]
              exact ⟨rfl, below_next (hbel.alloc hbel.size _) b2⟩
          · have HNX := Lib.hid (each_end (by omega) HS.out)
            go_wp2_with fail
            go_ret
            rw [HR2.out, HNX.out]
            exact ⟨rfl, hbel⟩
      · have p1 : (m != (T.maps.length : Int)) = true := by rw [bne_iff_ne]; exact hne
        have HR2 : Hid (R = false) := Lib.hid (by rw [HRR.out, hNm, decide_eq_false hne, Bool.false_and])
        clear hne hNm HRR
        go_wp2_with fail
        go_ret
        rw [HR2.out]
        exact ⟨rfl, hbel⟩

end Go.Proofs.YtecpbicfiaifdaaDoor
/-
  table.find hands back a value that is known ahead of the call.
-/
namespace Go.Proofs.YtecpbicfiaifdaaDoor
open Go.RowKit ND

theorem findL_len {l : List Mp} {c : Int} (h : ∀ m ∈ l, m.2.length ≤ 1000) : (findL l c).length ≤ 1000 := by
  by_cases hf : findL l c = []
  · rw [hf]; simp
  · exact h _ (findL_mem hf)
/-- What find hands back in whatever later world. -/
def FindsIn (w : World) (v : Value) (c : Int) (u : Value) : Prop := ∀ W, Below w.heap.size w W → Calls Tryd.prog 55 #[v, .int .i64 c] W fun e W' => e = .returned u ∧ Below W.heap.size W W'

set_option maxRecDepth 100000 in
set_option maxHeartbeats 1000000 in
theorem find_v (v : Value) (xs : List Mp) (c : Int) (w : World) (hv : Mapps w w.heap.size v xs) (hs : sortM xs) (hne : ∀ m ∈ xs, m.2 ≠ []) (hlen : xs.length ≤ 256) :
    ∃ u, Ints w w.heap.size .i64 u (findL xs c) ∧ (findL xs c = [] → u = .slice none 0 0) ∧ FindsIn w v c u := by
  have eg := enters_of Tryd.func74 (by kernel_rfl) rfl
  have HV := Lib.hid hv
  obtain ⟨A, cap, rfl, _, _, _, hcell⟩ := hv
  by_cases hk : ∃ (k0 : Nat) (a : Mp), xs[k0]? = some a ∧ a.1 = c
  · obtain ⟨k0, ⟨f, ys⟩, hx0, hfc⟩ := hk
    simp only at hfc
    subst hfc
    obtain ⟨ad, sv, rfl, ha, d0, d1, hsv⟩ := hcell k0 _ hx0
    simp only at d0 d1 hsv
    have hlow0 : ∀ i a, i < k0 → xs[i]? = some a → a.1 < f := fun i a hi hxi => hs i k0 a (f, ys) hi hxi hx0
    have hfind : findL xs f = ys := findL_at hlow0 hx0 rfl
    rw [hfind]
    refine ⟨sv, hsv, fun e => absurd e (hne _ (List.mem_of_getElem? hx0)), fun W hW => ?_⟩
    obtain ⟨e0, e1⟩ := map_cells hW ha d0 d1
    have hk0 : k0 < xs.length := (List.getElem?_eq_some_iff.1 hx0).1
    have HU : Hid (∀ k, k ≤ xs.length → (∀ i, i < k → pF xs f i = false) → (k < xs.length → pF xs f k = true) → k = k0) := Lib.hid (fun k hk hl hh => by
      have h1 : k ≤ k0 := by
        rcases Nat.lt_or_ge k0 k with h | h
        · have := hl k0 h
          rw [pF_some hx0, decide_eq_false_iff_not] at this
          simp at this
        · exact h
      have h2 : k < xs.length := by omega
      have h3 := hh h2
      obtain ⟨b, hxb, _⟩ := get_el h2
      rw [pF_some hxb, decide_eq_true_eq] at h3
      rcases Nat.lt_or_ge k k0 with h | h
      · have := hlow0 k b h hxb; omega
      · omega)
    have HVW := Lib.hid (HV.out.later hW)
    have HE0 := Lib.hid e0
    have HE1 := Lib.hid e1
    have hsvs : ∃ A' c', sv = .slice A' ys.length c' := by obtain ⟨A', c', h, _⟩ := hsv; exact ⟨A', c', h⟩
    obtain ⟨A', c', rfl⟩ := hsvs
    have hbA := Nat.lt_of_lt_of_le ha hW.size
    clear hcell hsv d0 d1 e0 e1 hfind hne ha hx0 hlow0 HV hW
    have hbw : Below W.heap.size W ((W.alloc (.cells #[.slice (some ad) xs.length cap] 29)).alloc (.cells #[.int .i64 f] 3)) := ((Below.refl _ _).alloc (Nat.le_refl _) _).alloc (by simp) _
    have hboxes : ∀ V, Below ((W.alloc (.cells #[.slice (some ad) xs.length cap] 29)).alloc (.cells #[.int .i64 f] 3)).heap.size ((W.alloc (.cells #[.slice (some ad) xs.length cap] 29)).alloc (.cells #[.int .i64 f] 3)) V →
        V.cell? ⟨W.heap.size, 0, none⟩ = some (.slice (some ad) xs.length cap) ∧ V.cell? ⟨W.heap.size + 1, 0, none⟩ = some (.int .i64 f) := by
      intro V hb
      have hsz : (W.alloc (.cells #[.slice (some ad) xs.length cap] 29)).heap.size = W.heap.size + 1 := by simp
      have h1 := cell_new1 W (.slice (some ad) xs.length cap) 29
      have h2 := cell_new1 (W.alloc (.cells #[.slice (some ad) xs.length cap] 29)) (.int .i64 f) 3
      rw [hsz] at h2
      have h1' := (World.cell?_alloc_lt (W.alloc (.cells #[.slice (some ad) xs.length cap] 29)) (.cells #[.int .i64 f] 3) ⟨W.heap.size, 0, none⟩ (by simp)).trans h1
      exact ⟨(hb.cell (p := ⟨W.heap.size, 0, none⟩) (by simp; omega)).trans h1', (hb.cell (p := ⟨W.heap.size + 1, 0, none⟩) (by simp)).trans h2⟩
    have HB := Lib.hid hboxes
    have HBW := Lib.hid hbw
    clear hboxes hbw
    have HSR := Lib.hid (search_any 74 #[.pointer (some ⟨W.heap.size, 0, none⟩), .pointer (some ⟨W.heap.size + 1, 0, none⟩)] xs.length (pF xs f) ((W.alloc (.cells #[.slice (some ad) xs.length cap] 29)).alloc (.cells #[.int .i64 f] 3)) eg (by omega) (by
      intro V i hb hi
      exact findClos _ _ (some ad) cap xs f V i hi (HB.out V hb).1 (HB.out V hb).2 ((HVW.out.later HBW.out).later hb)) (pF_mono hs))
    go_enter Tryd.func55, Tryd.ntmps55
    go_wp2_with fail
    refine HSR.out.mono ?_
    rintro e w2 ⟨k, rfl, hk, hlow, hhigh, b2⟩
    obtain rfl := HU.out k hk hlow hhigh
    obtain ⟨q0, q1⟩ := HB.out w2 b2
    have hbel := HBW.out.trans (b2.mono HBW.out.size)
    have e0 := (hbel.cell (p := ad.add (k * 2)) (by rw [block_of_add]; exact hbA)).trans HE0.out
    have e1 := (hbel.cell (p := { block := (ad.add (k * 2)).block, off := (ad.add (k * 2)).off + 1, spot := none }) (by show (ad.add (k * 2)).block < _; rw [block_of_add]; exact hbA)).trans HE1.out
    clear HSR HB HBW HVW b2 hlow hhigh eg HU HE0 HE1 hs
    have k0' : (0 : Int) ≤ (k : Int) := by omega
    have k1' : (k : Int) < (xs.length : Int) := by omega
    have hb0 : ((k : Int) == (xs.length : Int)) = false := by rw [beq_eq_false_iff_ne]; omega
    go_wp2_with fail
    go_quiet (fail)
    go_wp2_with fail
    go_ret
    exact ⟨rfl, below_drewN hbel nq⟩
  · have hfind : findL xs c = [] := findL_no fun i a hi e => hk ⟨i, a, hi, e⟩
    rw [hfind]
    refine ⟨.slice none 0 0, Ints.none_, fun _ => rfl, fun W hW => ?_⟩
    refine (find_any _ xs c W (HV.out.later hW) hs hne hlen).mono ?_
    rintro e w1 ⟨u, rfl, _, hn, b1⟩
    rw [hn hfind]
    exact ⟨rfl, b1⟩
end Go.Proofs.YtecpbicfiaifdaaDoor
/-
  The walks through table.size and table.decomposed: rule 6.
-/
namespace Go.Proofs.YtecpbicfiaifdaaDoor
open Go.RowKit ND

/-- A list that is not empty lies somewhere. -/
theorem Ints.some_ {w : World} {B : Nat} {k : IntKind} {v : Value} {xs : List Int} (h : Ints w B k v xs) (hne : xs ≠ []) : ∃ ad c, v = .slice (some ad) xs.length c ∧ ad.block < B ∧ xs.length ≤ c ∧ c ≤ maxLen ∧ ∀ i x, xs[i]? = some x → w.cell? (ad.add i) = some (.int k x) := by
  obtain ⟨A, c, rfl, h1, h2, h3, h4⟩ := h
  obtain ⟨x, r, rfl⟩ := List.exists_cons_of_ne_nil hne
  obtain ⟨ad, rfl, ha, _⟩ := h4 0 x rfl
  refine ⟨ad, c, rfl, ha, h1, h2, fun i y hi => ?_⟩
  obtain ⟨ad', e, _, hc⟩ := h4 i y hi
  cases e
  exact hc
theorem sizeF_some {D : List Mp} {f : Nat} {c : Int} (h : findL D c ≠ []) : sizeF D (f + 1) c = min 19 ((findL D c).map (sizeF D f)).sum := by rw [sizeF, if_neg h]
theorem sizeF_none {D : List Mp} {f : Nat} {c : Int} (h : findL D c = []) : sizeF D f c = 1 := by
  cases f with
  | zero => rw [sizeF, if_pos h]
  | succ f => rw [sizeF, if_pos h]
theorem sizeF_19 (D : List Mp) (f : Nat) (c : Int) : sizeF D f c ≤ 19 := by
  rw [sizeF_eq]; split <;> omega
theorem sum_go {D : List Mp} {f : Nat} {ys : List Int} {k n S : Nat} {y : Int} (hx : ys[k]? = some y) (h : n + ((ys.drop k).map (sizeF D f)).sum = S) : n + sizeF D f y + ((ys.drop (k + 1)).map (sizeF D f)).sum = S := by
  rw [drop_of_get hx, List.map_cons, List.sum_cons] at h; omega
theorem sum_end {D : List Mp} {f : Nat} {ys : List Int} {k n S : Nat} (hk : ys.length ≤ k) (h : n + ((ys.drop k).map (sizeF D f)).sum = S) : S = n := by
  rw [List.drop_eq_nil_of_le hk] at h; simpa using h.symm

set_option maxRecDepth 100000 in
set_option maxHeartbeats 2000000 in
theorem size_any (t : Tv) (T : Tab) (hs : sortM T.decomps) (hne : ∀ m ∈ T.decomps, m.2 ≠ [] ∧ m.2.length ≤ 1000) (hlen : T.decomps.length ≤ 256) : ∀ (f : Nat) (c depth : Int) (w : World), TabR w w.heap.size t T → depth = (T.decomps.length : Int) + 1 - f → 0 ≤ depth →
    Calls Tryd.prog 85 #[t.val, .int .i64 c, .int .i64 depth] w fun e w' => e = .returned (.int .i64 (sizeF T.decomps f c : Nat)) ∧ Below w.heap.size w w' := by
  intro f
  induction f with
  | zero =>
    intro c depth w ht hd hd0
    obtain ⟨tc, htc⟩ : ∃ tc, tc = t.cells := ⟨_, rfl⟩
    obtain ⟨A0, A1, A2, A3, A4, A5, A6, A7, A8, A9, A10, A11, k0, k1, k2, k3, k4, k5, k6, k7, k8, k9, k10, k11, rfl⟩ := ht.shape
    have HR := Lib.hid (fun o : Obj => ht.r9.later ((Below.refl _ _).alloc (Nat.le_refl _) o))
    have HF := Lib.hid (fun W (h : Mapps W W.heap.size (.slice A9 T.decomps.length k9) T.decomps) => find_any _ T.decomps c W h hs (fun m hm => (hne m hm).1) hlen)
    have hdl : (T.decomps.length : Int) < depth := by omega
    have HD := Lib.hid hd
    clear ht hs hne htc hd
    by_cases hn : findL T.decomps c = []
    · rw [sizeF_none hn]
      have HN := Lib.hid hn
      clear hn
      have heq := fun (w : World) (a : Option Addr) (n c : Nat) => Lib.run_eql_slice_nil (P := Tryd.prog) w 24 3 a n c 0 0 Tryd.underlying24
      go_enter Tryd.func85, Tryd.ntmps85
      go_wp2_with fail
      refine (HF.out _ (HR.out _)).mono ?_
      rintro e w1 ⟨u, rfl, hu, hun, b1⟩
      obtain rfl := hun HN.out
      clear hu hun
      go_wp2_with fail
      go_ret
      exact ⟨rfl, below_next ((Below.refl _ _).alloc (Nat.le_refl _) _) b1⟩
    · have h19 : sizeF T.decomps 0 c = 19 := by rw [sizeF, if_neg hn]
      rw [h19]
      have HN := Lib.hid hn
      clear hn h19
      have heq := fun (w : World) (a : Option Addr) (n c : Nat) => Lib.run_eql_slice_nil (P := Tryd.prog) w 24 3 a n c 0 0 Tryd.underlying24
      go_enter Tryd.func85, Tryd.ntmps85
      go_wp2_with fail
      have hB0 : Blk (w.alloc (.cells #[.slice A0 T.category.length k0, .slice A1 T.cls.length k1, .slice A2 T.joining.length k2, .slice A3 T.bidi.length k3, .slice A4 T.script.length k4, .slice A5 T.status.length k5, .slice A6 T.ignorable.length k6, .slice A7 T.extensions.length k7, .slice A8 T.maps.length k8, .slice A9 T.decomps.length k9, .slice A10 T.excluded.length k10, .slice A11 T.prototypes.length k11] 31)) w.heap.size 31 _ := Blk.new _ _ _
      have HB0 := Lib.hid hB0
      clear hB0
      refine (HF.out _ (HR.out _)).mono ?_
      rintro e w1 ⟨u, rfl, hu, hun, b1⟩
      obtain ⟨ad, cu, rfl, _⟩ := hu.some_ HN.out
      have x9 := (HB0.out.later b1).at_ (i := 9) rfl
      clear hu hun HB0
      go_wp2_with fail
      go_ret
      exact ⟨rfl, below_next ((Below.refl _ _).alloc (Nat.le_refl _) _) b1⟩
  | succ f ih =>
    intro c depth w ht hd hd0
    have HIH := Lib.hid (fun c W h => ih c (depth + 1) W h (by omega) (by omega))
    have HT := Lib.hid (fun W (h : Below w.heap.size w W) => ht.later h)
    obtain ⟨tc, htc⟩ : ∃ tc, tc = t.cells := ⟨_, rfl⟩
    obtain ⟨A0, A1, A2, A3, A4, A5, A6, A7, A8, A9, A10, A11, k0, k1, k2, k3, k4, k5, k6, k7, k8, k9, k10, k11, rfl⟩ := ht.shape
    have HR := Lib.hid (fun o : Obj => ht.r9.later ((Below.refl _ _).alloc (Nat.le_refl _) o))
    have HF := Lib.hid (fun W (h : Mapps W W.heap.size (.slice A9 T.decomps.length k9) T.decomps) => find_any _ T.decomps c W h hs (fun m hm => (hne m hm).1) hlen)
    have HNL := findL_len (c := c) (fun m hm => (hne m hm).2)
    have hdl : depth ≤ (T.decomps.length : Int) := by omega
    have HTC := Lib.hid htc
    clear ht hs hne htc hd ih
    by_cases hn : findL T.decomps c = []
    · rw [sizeF_none hn]
      have HN := Lib.hid hn
      clear hn
      have heq := fun (w : World) (a : Option Addr) (n c : Nat) => Lib.run_eql_slice_nil (P := Tryd.prog) w 24 3 a n c 0 0 Tryd.underlying24
      go_enter Tryd.func85, Tryd.ntmps85
      go_wp2_with fail
      refine (HF.out _ (HR.out _)).mono ?_
      rintro e w1 ⟨u, rfl, hu, hun, b1⟩
      obtain rfl := hun HN.out
      clear hu hun
      go_wp2_with fail
      go_ret
      exact ⟨rfl, below_next ((Below.refl _ _).alloc (Nat.le_refl _) _) b1⟩
    · rw [sizeF_some hn]
      have HN := Lib.hid hn
      generalize findL T.decomps c = ys at *
      obtain ⟨S, hS⟩ : ∃ S, S = (ys.map (sizeF T.decomps f)).sum := ⟨_, rfl⟩
      rw [← hS]
      have HS0 : Hid (0 + ((ys.drop 0).map (sizeF T.decomps f)).sum = S) := Lib.hid (by rw [hS, Nat.zero_add]; rfl)
      clear hn hS
      have heq := fun (w : World) (a : Option Addr) (n c : Nat) => Lib.run_eql_slice_nil (P := Tryd.prog) w 24 3 a n c 0 0 Tryd.underlying24
      go_enter Tryd.func85, Tryd.ntmps85
      go_wp2_with fail
      have HB0 := Lib.hid (show Blk (w.alloc (.cells #[.slice A0 T.category.length k0, .slice A1 T.cls.length k1, .slice A2 T.joining.length k2, .slice A3 T.bidi.length k3, .slice A4 T.script.length k4, .slice A5 T.status.length k5, .slice A6 T.ignorable.length k6, .slice A7 T.extensions.length k7, .slice A8 T.maps.length k8, .slice A9 T.decomps.length k9, .slice A10 T.excluded.length k10, .slice A11 T.prototypes.length k11] 31)) w.heap.size 31 tc from by rw [HTC.out]; exact Blk.new _ _ _)
      refine (HF.out _ (HR.out _)).mono ?_
      rintro e w1 ⟨u, rfl, hu, hun, b1⟩
      obtain ⟨ad, cu, rfl, hau, hcu1, hcu2, hcell⟩ := hu.some_ HN.out
      have HC := Lib.hid hcell
      have HB1 := Lib.hid (HB0.out.later b1)
      have hbel1 := below_next ((Below.refl _ _).alloc (Nat.le_refl _) _) b1
      have x9 := (show Blk _ _ _ #[_, _, _, _, _, _, _, _, _, _, _, _] from by have h := HB1.out; rw [HTC.out] at h; exact h).at_ (i := 9) rfl
      clear hu hun HB0 hcell hcu1 hcu2 HF HR b1
      go_wp2_with fail
      clear x9
      clear heq
      go_loopw [8, 24] (fun n i wr => ∃ (q m : Nat), q ≤ ys.length ∧ i = .int .i64 q ∧ n = .int .i64 m ∧ m ≤ 18 ∧ Hid (m + ((ys.drop q).map (sizeF T.decomps f)).sum = S) ∧ Below w.heap.size w wr ∧ Below w1.heap.size w1 wr) (fun _ i _ => ys.length - (intOf i).toNat)
      case atStart => exact ⟨0, 0, by omega, rfl, rfl, by omega, HS0, hbel1, Below.refl _ _⟩
      case round =>
        obtain ⟨q, m, hq, rfl, rfl, hm, HS, hbel, hbelq⟩ := hrel
        clear HS0 hbel1
        by_cases hql : q < ys.length
        · obtain ⟨y, hyq, _⟩ := get_el hql
          have e0 := (hbelq.cell (p := ad.add q) (by rw [block_of_add]; exact hau)).trans (HC.out q y hyq)
          have HNX := Lib.hid (sum_go hyq HS.out)
          obtain ⟨x0, x1, x2, x3, x4, x5, x6, x7, x8, x9, x10, x11⟩ := (show Blk _ _ _ #[_, _, _, _, _, _, _, _, _, _, _, _] from by have h := HB1.out.later hbelq; rw [HTC.out] at h; exact h).tab
          have h19 := sizeF_19 T.decomps f y
          have HCA := Lib.hid (HIH.out y _ (HT.out _ hbel))
          obtain ⟨s, hs⟩ : ∃ s, s = sizeF T.decomps f y := ⟨_, rfl⟩
          rw [← hs] at HNX h19 HCA
          clear hyq hs HS
          have s0 : (0 : Int) ≤ (q : Int) := by omega
          have s1 : (q : Int) < (ys.length : Int) := by omega
          by_cases hbig : 18 < m + s
          · have p1 : (18 : Int) < (m : Int) + (s : Int) := by omega
            clear hbig
            go_wp2_with fail
            refine HCA.out.mono ?_
            rintro e w2 ⟨rfl, b2⟩
            clear x0 x1 x2 x3 x4 x5 x6 x7 x8 x9 x10 x11 e0
            go_wp2_with fail
            go_ret
            refine ⟨?_, below_next hbel b2⟩
            have := HNX.out
            rw [Nat.min_eq_left (by omega)]; rfl
          · have p1 : (m : Int) + (s : Int) ≤ 18 := by omega
            clear hbig
            go_wp2_with fail
            refine HCA.out.mono ?_
            rintro e w2 ⟨rfl, b2⟩
            clear x0 x1 x2 x3 x4 x5 x6 x7 x8 x9 x10 x11 e0
            go_wp2_with fail
            go_roundw
            case rel => exact ⟨q + 1, m + s, by omega, by go_num, by go_num, by omega, HNX, below_next hbel b2, below_next hbelq b2⟩
            case measure => simp [intOf]; omega
        · have HE := Lib.hid (sum_end (by omega) HS.out)
          go_wp2_with fail
          go_ret
          refine ⟨?_, hbel⟩
          rw [HE.out, Nat.min_eq_right (by omega)]
          rfl

theorem el_ways (c : Int) : (decEl c = false ∧ (c == 46) = true) ∨ (decEl c = false ∧ (c == 46) = false ∧ sylB c = true) ∨ (decEl c = false ∧ (c == 46) = false ∧ sylB c = false ∧ jamoB c = true) ∨ (decEl c = true ∧ (c == 46) = false ∧ sylB c = false ∧ jamoB c = false) := by
  unfold decEl
  by_cases h : c = 46
  · exact .inl ⟨by rw [decide_eq_true h]; rfl, by rw [beq_iff_eq]; exact h⟩
  · have hb : (c == 46) = false := by rw [beq_eq_false_iff_ne]; exact h
    rw [hb, decide_eq_false h]
    cases sylB c <;> cases jamoB c <;> simp
theorem decOk_no {c : Int} {tg : List Int} (h : 2 < tg.length) : decOk (c, tg) = false := by unfold decOk; rw [decide_eq_false (by simp only; omega)]; rfl
theorem decOk_yes {c : Int} {tg : List Int} (h : ¬ 2 < tg.length) : decOk (c, tg) = tg.all decEl := by unfold decOk; rw [decide_eq_true (by simp only; omega)]; rfl

set_option maxRecDepth 100000 in
set_option maxHeartbeats 4000000 in
theorem decomposed_any (t : Tv) (T : Tab) (w : World) (ht : TabR w w.heap.size t T) (hs : sortM T.decomps) (hne : ∀ m ∈ T.decomps, m.2 ≠ [] ∧ m.2.length ≤ 1000) (hlen : T.decomps.length ≤ 256) :
    Calls Tryd.prog 63 #[t.val] w fun e w' => e = .returned (.bool T.rule6) ∧ Below w.heap.size w w' := by
  obtain ⟨tc, htc⟩ : ∃ tc, tc = t.cells := ⟨_, rfl⟩
  have HSZ := Lib.hid (fun c W h => size_any t T hs hne hlen (T.decomps.length + 1) c 0 W h (by omega) (by omega))
  have HT := Lib.hid (fun W (h : Below w.heap.size w W) => ht.later h)
  have hmp := ht.r9
  obtain ⟨A0, A1, A2, A3, A4, A5, A6, A7, A8, A9, A10, A11, k0, k1, k2, k3, k4, k5, k6, k7, k8, k9, k10, k11, rfl⟩ := ht.shape
  have HTC := Lib.hid htc
  obtain ⟨B, cq, hB, _, _, _, hcell2⟩ := hmp
  cases hB
  have HM := Lib.hid hcell2
  clear ht htc hs hne hcell2
  obtain ⟨R, hR⟩ : ∃ R, R = T.rule6 := ⟨_, rfl⟩
  rw [← hR]
  obtain ⟨Ra, hRa⟩ : ∃ Ra, Ra = T.decomps.all decOk := ⟨_, rfl⟩
  obtain ⟨Rb, hRb⟩ : ∃ Rb, Rb = T.decomps.all T.szOk := ⟨_, rfl⟩
  have HA0 : Hid ((T.decomps.drop 0).all decOk = Ra) := Lib.hid hRa.symm
  have HB0 : Hid ((T.decomps.drop 0).all T.szOk = Rb) := Lib.hid hRb.symm
  have HRR : Hid (R = (Ra && Rb)) := Lib.hid (by rw [hR, hRa, hRb]; rfl)
  clear hR hRa hRb
  go_enter Tryd.func63, Tryd.ntmps63
  go_wp2_with fail
  go_loopw [12] (fun i wr => ∃ (j : Nat), j ≤ T.decomps.length ∧ i = .int .i64 j ∧ Hid ((T.decomps.drop j).all decOk = Ra) ∧ Below w.heap.size w wr ∧ Hid (Blk wr w.heap.size 31 tc)) (fun i _ => T.decomps.length - (intOf i).toNat)
  case atStart => exact ⟨0, by omega, rfl, HA0, (Below.refl _ _).alloc (Nat.le_refl _) _, Lib.hid (by rw [HTC.out]; exact Blk.new _ _ _)⟩
  case round =>
    obtain ⟨j, hj, rfl, HS, hbel, HB⟩ := hrel
    clear HA0
    by_cases hjl : j < T.decomps.length
    · obtain ⟨⟨cc, tg⟩, hxj, _⟩ := get_el hjl
      obtain ⟨aj, sv, rfl, ha, d0, d1, hto⟩ := HM.out j _ hxj
      simp only at d0 d1 hto
      obtain ⟨A', c', rfl, he1, he2, _, hcl⟩ := id hto
      have HTO := Lib.hid hcl
      have hlt : tg.length ≤ 9223372036854775807 := by unfold maxLen at he2; omega
      obtain ⟨e0, e1⟩ := map_cells hbel ha d0 d1
      have HX := Lib.hid hxj
      have hbelw := hbel.alloc hbel.size (.cells #[.int .i64 cc, .slice A' tg.length c'] 49)
      have HB' := Lib.hid (HB.out.alloc (.cells #[.int .i64 cc, .slice A' tg.length c'] 49))
      clear d0 d1 hxj ha hto hcl he1 he2 HB
      have r0 : (0 : Int) ≤ (j : Int) := by omega
      have r1 : (j : Int) < (T.decomps.length : Int) := by omega
      by_cases h2 : 2 < tg.length
      · have HN := Lib.hid (each_no HX.out HS.out (decOk_no (c := cc) h2))
        have p1 : (2 : Int) < (tg.length : Int) := by omega
        clear h2
        go_wp2_with fail
        go_ret
        rw [HRR.out, HN.out]
        exact ⟨by simp, hbelw⟩
      · have HOK := Lib.hid (decOk_yes (c := cc) h2)
        have p1 : (tg.length : Int) ≤ 2 := by omega
        obtain ⟨Rt, hRt⟩ : ∃ Rt, Rt = tg.all decEl := ⟨_, rfl⟩
        have HO : Hid ((tg.drop 0).all decEl = Rt) := Lib.hid hRt.symm
        have HOK2 : Hid (decOk (cc, tg) = Rt) := Lib.hid (HOK.out.trans hRt.symm)
        clear h2 HOK hRt
        go_wp2_with fail
        generalize World.alloc _ (.cells #[.int .i64 cc, .slice A' tg.length c'] 49) = wo at *
        clear e0 e1 hbel
        go_loop [23] (fun i => ∃ (q : Nat), q ≤ tg.length ∧ i = .int .i64 q ∧ Hid ((tg.drop q).all decEl = Rt)) (fun i => tg.length - (intOf i).toNat)
        case atStart => exact ⟨0, by omega, rfl, HO⟩
        case round =>
          obtain ⟨q, hq, rfl, HSq⟩ := hrel
          clear HO
          by_cases hql : q < tg.length
          · obtain ⟨y, hyq, _⟩ := get_el hql
            obtain ⟨ay, rfl, hay, d0⟩ := HTO.out q _ hyq
            have e0 := (hbelw.cell (p := ay.add q) (by rw [block_of_add]; exact hay)).trans d0
            have HXq := Lib.hid hyq
            clear d0 hyq hay
            have s0 : (0 : Int) ≤ (q : Int) := by omega
            have s1 : (q : Int) < (tg.length : Int) := by omega
            have HSY := Lib.hid (fun W => syl_any y W)
            have HJA := Lib.hid (fun W => jamo_any y W)
            rcases el_ways y with ⟨ho, u0⟩ | ⟨ho, u0, u1⟩ | ⟨ho, u0, u1, u2⟩ | ⟨ho, u0, u1, u2⟩
            · have HN := Lib.hid (each_no HXq.out HSq.out ho)
              clear ho
              go_wp2_with fail
              go_ret
              rw [HRR.out, each_no HX.out HS.out (HOK2.out.trans HN.out)]
              exact ⟨by simp, hbelw⟩
            · have HN := Lib.hid (each_no HXq.out HSq.out ho)
              rw [u1] at HSY
              clear ho u1
              go_wp2_with fail
              refine (HSY.out _).mono ?_
              rintro e w2 ⟨rfl, rfl⟩
              go_wp2_with fail
              go_ret
              rw [HRR.out, each_no HX.out HS.out (HOK2.out.trans HN.out)]
              exact ⟨by simp, hbelw⟩
            · have HN := Lib.hid (each_no HXq.out HSq.out ho)
              rw [u1] at HSY
              rw [u2] at HJA
              clear ho u1 u2
              go_wp2_with fail
              refine (HSY.out _).mono ?_
              rintro e w2 ⟨rfl, rfl⟩
              go_wp2_with fail
              refine (HJA.out _).mono ?_
              rintro e w2 ⟨rfl, rfl⟩
              go_wp2_with fail
              go_ret
              rw [HRR.out, each_no HX.out HS.out (HOK2.out.trans HN.out)]
              exact ⟨by simp, hbelw⟩
            · have HN := Lib.hid (each_go HXq.out HSq.out ho)
              rw [u1] at HSY
              rw [u2] at HJA
              clear ho u1 u2
              go_wp2_with fail
              refine (HSY.out _).mono ?_
              rintro e w2 ⟨rfl, rfl⟩
              go_wp2_with fail
              refine (HJA.out _).mono ?_
              rintro e w2 ⟨rfl, rfl⟩
              go_wp2_with fail
              go_round
              case rel => exact ⟨q + 1, by omega, by go_num, HN⟩
              case measure => simp [intOf]; omega
          · have HN := Lib.hid (each_go HX.out HS.out (HOK2.out.trans (each_end (by omega) HSq.out)))
            go_wp2_with fail
            go_roundw
            case rel => exact ⟨j + 1, by omega, by go_num, HN, hbelw, HB'⟩
            case measure => simp [intOf]; omega
    · have HN := Lib.hid (each_end (by omega) HS.out)
      have HR2 : Hid (R = Rb) := Lib.hid (by rw [HRR.out, HN.out, Bool.true_and])
      have x9 := (show Blk _ _ _ #[_, _, _, _, _, _, _, _, _, _, _, _] from by have h := HB.out; rw [HTC.out] at h; exact h).at_ (i := 9) rfl
      clear HS HN HRR
      go_wp2_with fail
      clear x9
      go_loopw [42] (fun i wr => ∃ (j : Nat), j ≤ T.decomps.length ∧ i = .int .i64 j ∧ Hid ((T.decomps.drop j).all T.szOk = Rb) ∧ Below w.heap.size w wr ∧ Hid (Blk wr w.heap.size 31 tc)) (fun i _ => T.decomps.length - (intOf i).toNat)
      case atStart => exact ⟨0, by omega, rfl, HB0, hbel, HB⟩
      case round =>
        obtain ⟨j, hj, rfl, HS, hbel, HB⟩ := hrel
        clear HB0
        by_cases hjl : j < T.decomps.length
        · obtain ⟨⟨cc, tg⟩, hxj, _⟩ := get_el hjl
          obtain ⟨aj, sv, rfl, ha, d0, d1, hto⟩ := HM.out j _ hxj
          simp only at d0 d1 hto
          obtain ⟨A', c', rfl, _⟩ := id hto
          obtain ⟨e0, e1⟩ := map_cells hbel ha d0 d1
          have HX := Lib.hid hxj
          have HB' := Lib.hid (HB.out.alloc (.cells #[.int .i64 cc, .slice A' tg.length c'] 49))
          obtain ⟨x0, x1, x2, x3, x4, x5, x6, x7, x8, x9, x10, x11⟩ := (show Blk _ _ _ #[_, _, _, _, _, _, _, _, _, _, _, _] from by have h := HB'.out; rw [HTC.out] at h; exact h).tab
          have HCA := Lib.hid (HSZ.out cc _ (HT.out _ (hbel.alloc hbel.size (.cells #[.int .i64 cc, .slice A' tg.length c'] 49))))
          have HSO : Hid (T.szOk (cc, tg) = decide (sizeF T.decomps (T.decomps.length + 1) cc ≤ 18)) := Lib.hid rfl
          have h19 := sizeF_19 T.decomps (T.decomps.length + 1) cc
          clear d0 d1 hxj ha hto HB
          have r0 : (0 : Int) ≤ (j : Int) := by omega
          have r1 : (j : Int) < (T.decomps.length : Int) := by omega
          generalize sizeF T.decomps (T.decomps.length + 1) cc = s at *
          by_cases hbig : s ≤ 18
          · have HN := Lib.hid (each_go HX.out HS.out (HSO.out.trans (decide_eq_true hbig)))
            have p1 : (s : Int) ≤ 18 := by omega
            clear hbig
            go_wp2_with fail
            refine HCA.out.mono ?_
            rintro e w2 ⟨rfl, b2⟩
            have HB2 := Lib.hid (HB'.out.later b2)
            clear x0 x1 x2 x3 x4 x5 x6 x7 x8 x9 x10 x11 e0 e1 HB'
            go_wp2_with fail
            go_roundw
            case rel => exact ⟨j + 1, by omega, by go_num, HN, below_next (hbel.alloc hbel.size _) b2, HB2⟩
            case measure => simp [intOf]; omega
          · have HN := Lib.hid (each_no HX.out HS.out (HSO.out.trans (decide_eq_false hbig)))
            have p1 : (18 : Int) < (s : Int) := by omega
            clear hbig
            go_wp2_with fail
            refine HCA.out.mono ?_
            rintro e w2 ⟨rfl, b2⟩
            clear x0 x1 x2 x3 x4 x5 x6 x7 x8 x9 x10 x11 e0 e1 HB'
            go_wp2_with fail
            go_ret
            rw [HR2.out, HN.out]
            exact ⟨rfl, below_next (hbel.alloc hbel.size _) b2⟩
        · have HN := Lib.hid (each_end (by omega) HS.out)
          go_wp2_with fail
          go_ret
          rw [HR2.out, HN.out]
          exact ⟨rfl, hbel⟩
end Go.Proofs.YtecpbicfiaifdaaDoor
/-
  The walks through the reference's full and finite: rule 6.
-/
namespace Go.Proofs.YtecpbicfiaifdaaDoor
open Go.RowKit ND

/-- What full hands back. -/
def RetFull (w : World) (r : Option (List Int)) (e : Ending) (w' : World) : Prop :=
  ∃ v, e = .returned (.tuple #[v, .bool r.isSome]) ∧ Ints w' w'.heap.size .i64 v (r.getD []) ∧ Below w.heap.size w w'
theorem exp1_snoc (D : List Mp) (l : List Int) (x : Int) : exp1 D (l ++ [x]) = exp1 D l ++ (if findL D x = [] then [x] else findL D x) := by unfold exp1; rw [List.flatMap_append]; simp
theorem take_snoc' {α : Type} {l : List α} {k : Nat} {c : α} (h : l[k]? = some c) : l.take (k + 1) = l.take k ++ [c] := by
  rw [List.take_add_one, h]; rfl

end Go.Proofs.YtecpbicfiaifdaaDoor
/-
  The walks through the reference's finite (rule 6) and table.excluded (rule 7).
-/
namespace Go.Proofs.YtecpbicfiaifdaaDoor
open Go.RowKit ND

theorem nilB_ways {w : World} {B : Nat} {u : Value} {ys : List Int} (h : Ints w B .i64 u ys) (hn : ys = [] → u = .slice none 0 0) : (ys = [] ∧ u = .slice none 0 0) ∨ (ys ≠ [] ∧ ∃ ad c, u = .slice (some ad) ys.length c) := by
  by_cases hy : ys = []
  · exact .inl ⟨hy, hn hy⟩
  · obtain ⟨ad, c, e, _⟩ := h.some_ hy
    exact .inr ⟨hy, ad, c, e⟩
set_option maxRecDepth 100000 in
set_option maxHeartbeats 2000000 in
theorem excluded_rule (t : Tv) (T : Tab) (w : World) (ht : TabR w w.heap.size t T) (hs : sortM T.decomps) (hne : ∀ m ∈ T.decomps, m.2 ≠ [] ∧ m.2.length ≤ 1000) (hlen : T.decomps.length ≤ 256) (hlx : T.excluded.length ≤ 256) :
    Calls Tryd.prog 64 #[t.val] w fun e w' => e = .returned (.bool T.rule7) ∧ Below w.heap.size w w' := by
  obtain ⟨tc, htc⟩ : ∃ tc, tc = t.cells := ⟨_, rfl⟩
  have HT := Lib.hid (fun W (h : Below w.heap.size w W) => (ht.later h).r9)
  have hex := ht.r10
  obtain ⟨A0, A1, A2, A3, A4, A5, A6, A7, A8, A9, A10, A11, k0, k1, k2, k3, k4, k5, k6, k7, k8, k9, k10, k11, rfl⟩ := ht.shape
  have HF := Lib.hid (fun c W (h : Mapps W W.heap.size (.slice A9 T.decomps.length k9) T.decomps) => find_any _ T.decomps c W h hs (fun m hm => (hne m hm).1) hlen)
  have HTC := Lib.hid htc
  obtain ⟨B, cq, hB, _, _, _, hcell2⟩ := hex
  cases hB
  have HC := Lib.hid hcell2
  have heq := fun (w : World) (a : Option Addr) (n c : Nat) => Lib.run_eql_slice_nil (P := Tryd.prog) w 24 3 a n c 0 0 Tryd.underlying24
  clear ht htc hs hne hcell2
  obtain ⟨R, hR⟩ : ∃ R, R = T.rule7 := ⟨_, rfl⟩
  rw [← hR]
  have HR0 : Hid ((T.excluded.drop 0).all T.exOk = R) := Lib.hid hR.symm
  clear hR
  go_enter Tryd.func64, Tryd.ntmps64
  go_wp2_with fail
  go_loopw [8] (fun i wr => ∃ (j : Nat), j ≤ T.excluded.length ∧ i = .int .i64 j ∧ Hid ((T.excluded.drop j).all T.exOk = R) ∧ Below w.heap.size w wr ∧ Hid (Blk wr w.heap.size 31 tc)) (fun i _ => T.excluded.length - (intOf i).toNat)
  case atStart => exact ⟨0, by omega, rfl, HR0, (Below.refl _ _).alloc (Nat.le_refl _) _, Lib.hid (by rw [HTC.out]; exact Blk.new _ _ _)⟩
  case round =>
    obtain ⟨j, hj, rfl, HS, hbel, HB⟩ := hrel
    clear HR0
    by_cases hjl : j < T.excluded.length
    · obtain ⟨x, hxj, _⟩ := get_el hjl
      obtain ⟨aj, rfl, ha, d0⟩ := HC.out j _ hxj
      have e0 := (hbel.cell (p := aj.add j) (by rw [block_of_add]; exact ha)).trans d0
      have x9 := (show Blk _ _ _ #[_, _, _, _, _, _, _, _, _, _, _, _] from by have h := HB.out; rw [HTC.out] at h; exact h).at_ (i := 9) rfl
      have HX := Lib.hid hxj
      have HCA := Lib.hid (HF.out x _ (HT.out _ hbel))
      clear d0 hxj ha
      have r0 : (0 : Int) ≤ (j : Int) := by omega
      have r1 : (j : Int) < (T.excluded.length : Int) := by omega
      go_wp2_with fail
      refine HCA.out.mono ?_
      rintro e w2 ⟨u, rfl, hu, hun, b2⟩
      have HB2 := Lib.hid (HB.out.later b2)
      rcases nilB_ways hu hun with ⟨hn, rfl⟩ | ⟨hn, ad, c, rfl⟩
      · have HN := Lib.hid (each_no HX.out HS.out (show T.exOk x = false from decide_eq_false (fun h => h hn)))
        clear hu hun hn x9 e0 HB
        go_wp2_with fail
        go_ret
        rw [HN.out]
        exact ⟨rfl, below_next hbel b2⟩
      · have HN := Lib.hid (each_go HX.out HS.out (show T.exOk x = true from decide_eq_true hn))
        clear hu hun hn x9 e0 HB
        go_wp2_with fail
        go_roundw
        case rel => exact ⟨j + 1, by omega, by go_num, HN, below_next hbel b2, HB2⟩
        case measure => simp [intOf]; omega
    · have HN := Lib.hid (each_end (by omega) HS.out)
      go_wp2_with fail
      go_ret
      rw [HN.out]
      exact ⟨rfl, hbel⟩
end Go.Proofs.YtecpbicfiaifdaaDoor
