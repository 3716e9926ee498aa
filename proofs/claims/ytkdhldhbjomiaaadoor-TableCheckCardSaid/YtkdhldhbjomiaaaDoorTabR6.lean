/-
  The walks through table.size and table.decomposed: rule 6.
-/
import Derived.Test.YtkdhldhbjomiaaaDoorTabR5
import Derived.Test.YtkdhldhbjomiaaaDoorTabFindV
namespace Go.Proofs.YtkdhldhbjomiaaaDoor
open Go.RowKit ND

/-- A list that is not empty lies somewhere. -/
theorem Ints.some_ {w : World} {B : Nat} {k : IntKind} {v : Value} {xs : List Int} (h : Ints w B k v xs) (hne : xs ≠ []) : ∃ ad c, v = .slice (some ad) xs.length c ∧ ad.block < B ∧ xs.length ≤ c ∧ c ≤ maxLen ∧ ∀ i x, xs[i]? = some x → w.cell? (ad.add i) = some (.int k x) := by
  obtain ⟨A, c, rfl, h1, h2, h3, h4⟩ := h
  obtain ⟨x, r, rfl⟩ := List.exists_cons_of_ne_nil hne
  obtain ⟨ad, rfl, ha, _⟩ := h4 0 x rfl
  refine ⟨ad, c, rfl, ha, h1, h2, fun i y hi => ?_⟩
  obtain ⟨ad', e, _, hc⟩ := h4 i y hi
  cases e
  exact hc
theorem sizeF_some {D : List Mp} {f : Nat} {c : Int} (h : findL D c ≠ []) : sizeF D (f + 1) c = min 19 ((findL D c).map (sizeF D f)).sum := by rw [sizeF, if_neg h]
theorem sizeF_none {D : List Mp} {f : Nat} {c : Int} (h : findL D c = []) : sizeF D f c = 1 := by
  cases f with
  | zero => rw [sizeF, if_pos h]
  | succ f => rw [sizeF, if_pos h]
theorem sizeF_19 (D : List Mp) (f : Nat) (c : Int) : sizeF D f c ≤ 19 := by
  rw [sizeF_eq]; split <;> omega
theorem sum_go {D : List Mp} {f : Nat} {ys : List Int} {k n S : Nat} {y : Int} (hx : ys[k]? = some y) (h : n + ((ys.drop k).map (sizeF D f)).sum = S) : n + sizeF D f y + ((ys.drop (k + 1)).map (sizeF D f)).sum = S := by
  rw [drop_of_get hx, List.map_cons, List.sum_cons] at h; omega
theorem sum_end {D : List Mp} {f : Nat} {ys : List Int} {k n S : Nat} (hk : ys.length ≤ k) (h : n + ((ys.drop k).map (sizeF D f)).sum = S) : S = n := by
  rw [List.drop_eq_nil_of_le hk] at h; simpa using h.symm

set_option maxRecDepth 100000 in
set_option maxHeartbeats 2000000 in
theorem size_any (t : Tv) (T : Tab) (hs : sortM T.decomps) (hne : ∀ m ∈ T.decomps, m.2 ≠ [] ∧ m.2.length ≤ 1000) (hlen : T.decomps.length ≤ 256) : ∀ (f : Nat) (c depth : Int) (w : World), TabR w w.heap.size t T → depth = (T.decomps.length : Int) + 1 - f → 0 ≤ depth →
    Calls Tryd.prog 109 #[t.val, .int .i64 c, .int .i64 depth] w fun e w' => e = .returned (.int .i64 (sizeF T.decomps f c : Nat)) ∧ Below w.heap.size w w' := by
  intro f
  induction f with
  | zero =>
    intro c depth w ht hd hd0
    obtain ⟨tc, htc⟩ : ∃ tc, tc = t.cells := ⟨_, rfl⟩
    obtain ⟨A0, A1, A2, A3, A4, A5, A6, A7, A8, A9, A10, A11, k0, k1, k2, k3, k4, k5, k6, k7, k8, k9, k10, k11, rfl⟩ := ht.shape
    have HR := Lib.hid (fun o : Obj => ht.r9.later ((Below.refl _ _).alloc (Nat.le_refl _) o))
    have HF := Lib.hid (fun W (h : Mapps W W.heap.size (.slice A9 T.decomps.length k9) T.decomps) => find_any _ T.decomps c W h hs (fun m hm => (hne m hm).1) hlen)
    have hdl : (T.decomps.length : Int) < depth := by omega
    have HD := Lib.hid hd
    clear ht hs hne htc hd
    by_cases hn : findL T.decomps c = []
    · rw [sizeF_none hn]
      have HN := Lib.hid hn
      clear hn
      have heq := fun (w : World) (a : Option Addr) (n c : Nat) => Lib.run_eql_slice_nil (P := Tryd.prog) w 24 3 a n c 0 0 Tryd.underlying24
      go_enter Tryd.func109, Tryd.ntmps109
      go_wp2_with fail
      refine (HF.out _ (HR.out _)).mono ?_
      rintro e w1 ⟨u, rfl, hu, hun, b1⟩
      obtain rfl := hun HN.out
      clear hu hun
      go_wp2_with fail
      go_ret
      exact ⟨rfl, below_next ((Below.refl _ _).alloc (Nat.le_refl _) _) b1⟩
    · have h19 : sizeF T.decomps 0 c = 19 := by rw [sizeF, if_neg hn]
      rw [h19]
      have HN := Lib.hid hn
      clear hn h19
      have heq := fun (w : World) (a : Option Addr) (n c : Nat) => Lib.run_eql_slice_nil (P := Tryd.prog) w 24 3 a n c 0 0 Tryd.underlying24
      go_enter Tryd.func109, Tryd.ntmps109
      go_wp2_with fail
      have hB0 : Blk (w.alloc (.cells #[.slice A0 T.category.length k0, .slice A1 T.cls.length k1, .slice A2 T.joining.length k2, .slice A3 T.bidi.length k3, .slice A4 T.script.length k4, .slice A5 T.status.length k5, .slice A6 T.ignorable.length k6, .slice A7 T.extensions.length k7, .slice A8 T.maps.length k8, .slice A9 T.decomps.length k9, .slice A10 T.excluded.length k10, .slice A11 T.prototypes.length k11] 26)) w.heap.size 26 _ := Blk.new _ _ _
      have HB0 := Lib.hid hB0
      clear hB0
      refine (HF.out _ (HR.out _)).mono ?_
      rintro e w1 ⟨u, rfl, hu, hun, b1⟩
      obtain ⟨ad, cu, rfl, _⟩ := hu.some_ HN.out
      have x9 := (HB0.out.later b1).at_ (i := 9) rfl
      clear hu hun HB0
      go_wp2_with fail
      go_ret
      exact ⟨rfl, below_next ((Below.refl _ _).alloc (Nat.le_refl _) _) b1⟩
  | succ f ih =>
    intro c depth w ht hd hd0
    have HIH := Lib.hid (fun c W h => ih c (depth + 1) W h (by omega) (by omega))
    have HT := Lib.hid (fun W (h : Below w.heap.size w W) => ht.later h)
    obtain ⟨tc, htc⟩ : ∃ tc, tc = t.cells := ⟨_, rfl⟩
    obtain ⟨A0, A1, A2, A3, A4, A5, A6, A7, A8, A9, A10, A11, k0, k1, k2, k3, k4, k5, k6, k7, k8, k9, k10, k11, rfl⟩ := ht.shape
    have HR := Lib.hid (fun o : Obj => ht.r9.later ((Below.refl _ _).alloc (Nat.le_refl _) o))
    have HF := Lib.hid (fun W (h : Mapps W W.heap.size (.slice A9 T.decomps.length k9) T.decomps) => find_any _ T.decomps c W h hs (fun m hm => (hne m hm).1) hlen)
    have HNL := findL_len (c := c) (fun m hm => (hne m hm).2)
    have hdl : depth ≤ (T.decomps.length : Int) := by omega
    have HTC := Lib.hid htc
    clear ht hs hne htc hd ih
    by_cases hn : findL T.decomps c = []
    · rw [sizeF_none hn]
      have HN := Lib.hid hn
      clear hn
      have heq := fun (w : World) (a : Option Addr) (n c : Nat) => Lib.run_eql_slice_nil (P := Tryd.prog) w 24 3 a n c 0 0 Tryd.underlying24
      go_enter Tryd.func109, Tryd.ntmps109
      go_wp2_with fail
      refine (HF.out _ (HR.out _)).mono ?_
      rintro e w1 ⟨u, rfl, hu, hun, b1⟩
      obtain rfl := hun HN.out
      clear hu hun
      go_wp2_with fail
      go_ret
      exact ⟨rfl, below_next ((Below.refl _ _).alloc (Nat.le_refl _) _) b1⟩
    · rw [sizeF_some hn]
      have HN := Lib.hid hn
      generalize findL T.decomps c = ys at *
      obtain ⟨S, hS⟩ : ∃ S, S = (ys.map (sizeF T.decomps f)).sum := ⟨_, rfl⟩
      rw [← hS]
      have HS0 : Hid (0 + ((ys.drop 0).map (sizeF T.decomps f)).sum = S) := Lib.hid (by rw [hS, Nat.zero_add]; rfl)
      clear hn hS
      have heq := fun (w : World) (a : Option Addr) (n c : Nat) => Lib.run_eql_slice_nil (P := Tryd.prog) w 24 3 a n c 0 0 Tryd.underlying24
      go_enter Tryd.func109, Tryd.ntmps109
      go_wp2_with fail
      have HB0 := Lib.hid (show Blk (w.alloc (.cells #[.slice A0 T.category.length k0, .slice A1 T.cls.length k1, .slice A2 T.joining.length k2, .slice A3 T.bidi.length k3, .slice A4 T.script.length k4, .slice A5 T.status.length k5, .slice A6 T.ignorable.length k6, .slice A7 T.extensions.length k7, .slice A8 T.maps.length k8, .slice A9 T.decomps.length k9, .slice A10 T.excluded.length k10, .slice A11 T.prototypes.length k11] 26)) w.heap.size 26 tc from by rw [HTC.out]; exact Blk.new _ _ _)
      refine (HF.out _ (HR.out _)).mono ?_
      rintro e w1 ⟨u, rfl, hu, hun, b1⟩
      obtain ⟨ad, cu, rfl, hau, hcu1, hcu2, hcell⟩ := hu.some_ HN.out
      have HC := Lib.hid hcell
      have HB1 := Lib.hid (HB0.out.later b1)
      have hbel1 := below_next ((Below.refl _ _).alloc (Nat.le_refl _) _) b1
      have x9 := (show Blk _ _ _ #[_, _, _, _, _, _, _, _, _, _, _, _] from by have h := HB1.out; rw [HTC.out] at h; exact h).at_ (i := 9) rfl
      clear hu hun HB0 hcell hcu1 hcu2 HF HR b1
      go_wp2_with fail
      clear x9
      clear heq
      go_loopw [8, 24] (fun n i wr => ∃ (q m : Nat), q ≤ ys.length ∧ i = .int .i64 q ∧ n = .int .i64 m ∧ m ≤ 18 ∧ Hid (m + ((ys.drop q).map (sizeF T.decomps f)).sum = S) ∧ Below w.heap.size w wr ∧ Below w1.heap.size w1 wr) (fun _ i _ => ys.length - (intOf i).toNat)
      case atStart => exact ⟨0, 0, by omega, rfl, rfl, by omega, HS0, hbel1, Below.refl _ _⟩
      case round =>
        obtain ⟨q, m, hq, rfl, rfl, hm, HS, hbel, hbelq⟩ := hrel
        clear HS0 hbel1
        by_cases hql : q < ys.length
        · obtain ⟨y, hyq, _⟩ := get_el hql
          have e0 := (hbelq.cell (p := ad.add q) (by rw [block_of_add]; exact hau)).trans (HC.out q y hyq)
          have HNX := Lib.hid (sum_go hyq HS.out)
          obtain ⟨x0, x1, x2, x3, x4, x5, x6, x7, x8, x9, x10, x11⟩ := (show Blk _ _ _ #[_, _, _, _, _, _, _, _, _, _, _, _] from by have h := HB1.out.later hbelq; rw [HTC.out] at h; exact h).tab
          have h19 := sizeF_19 T.decomps f y
          have HCA := Lib.hid (HIH.out y _ (HT.out _ hbel))
          obtain ⟨s, hs⟩ : ∃ s, s = sizeF T.decomps f y := ⟨_, rfl⟩
          rw [← hs] at HNX h19 HCA
          clear hyq hs HS
          have s0 : (0 : Int) ≤ (q : Int) := by omega
          have s1 : (q : Int) < (ys.length : Int) := by omega
          by_cases hbig : 18 < m + s
          · have p1 : (18 : Int) < (m : Int) + (s : Int) := by omega
            clear hbig
            go_wp2_with fail
            refine HCA.out.mono ?_
            rintro e w2 ⟨rfl, b2⟩
            clear x0 x1 x2 x3 x4 x5 x6 x7 x8 x9 x10 x11 e0
            go_wp2_with fail
            go_ret
            refine ⟨?_, below_next hbel b2⟩
            have := HNX.out
            rw [Nat.min_eq_left (by omega)]; rfl
          · have p1 : (m : Int) + (s : Int) ≤ 18 := by omega
            clear hbig
            go_wp2_with fail
            refine HCA.out.mono ?_
            rintro e w2 ⟨rfl, b2⟩
            clear x0 x1 x2 x3 x4 x5 x6 x7 x8 x9 x10 x11 e0
            go_wp2_with fail
            go_roundw
            case rel => exact ⟨q + 1, m + s, by omega, by go_num, by go_num, by omega, HNX, below_next hbel b2, below_next hbelq b2⟩
            case measure => simp [intOf]; omega
        · have HE := Lib.hid (sum_end (by omega) HS.out)
          go_wp2_with fail
          go_ret
          refine ⟨?_, hbel⟩
          rw [HE.out, Nat.min_eq_right (by omega)]
          rfl

theorem el_ways (c : Int) : (decEl c = false ∧ (c == 46) = true) ∨ (decEl c = false ∧ (c == 46) = false ∧ sylB c = true) ∨ (decEl c = false ∧ (c == 46) = false ∧ sylB c = false ∧ jamoB c = true) ∨ (decEl c = true ∧ (c == 46) = false ∧ sylB c = false ∧ jamoB c = false) := by
  unfold decEl
  by_cases h : c = 46
  · exact .inl ⟨by rw [decide_eq_true h]; rfl, by rw [beq_iff_eq]; exact h⟩
  · have hb : (c == 46) = false := by rw [beq_eq_false_iff_ne]; exact h
    rw [hb, decide_eq_false h]
    cases sylB c <;> cases jamoB c <;> simp
theorem decOk_no {c : Int} {to : List Int} (h : 2 < to.length) : decOk (c, to) = false := by unfold decOk; rw [decide_eq_false (by simp only; omega)]; rfl
theorem decOk_yes {c : Int} {to : List Int} (h : ¬ 2 < to.length) : decOk (c, to) = to.all decEl := by unfold decOk; rw [decide_eq_true (by simp only; omega)]; rfl

set_option maxRecDepth 100000 in
set_option maxHeartbeats 4000000 in
theorem decomposed_any (t : Tv) (T : Tab) (w : World) (ht : TabR w w.heap.size t T) (hs : sortM T.decomps) (hne : ∀ m ∈ T.decomps, m.2 ≠ [] ∧ m.2.length ≤ 1000) (hlen : T.decomps.length ≤ 256) :
    Calls Tryd.prog 37 #[t.val] w fun e w' => e = .returned (.bool T.rule6) ∧ Below w.heap.size w w' := by
  obtain ⟨tc, htc⟩ : ∃ tc, tc = t.cells := ⟨_, rfl⟩
  have HSZ := Lib.hid (fun c W h => size_any t T hs hne hlen (T.decomps.length + 1) c 0 W h (by omega) (by omega))
  have HT := Lib.hid (fun W (h : Below w.heap.size w W) => ht.later h)
  have hmp := ht.r9
  obtain ⟨A0, A1, A2, A3, A4, A5, A6, A7, A8, A9, A10, A11, k0, k1, k2, k3, k4, k5, k6, k7, k8, k9, k10, k11, rfl⟩ := ht.shape
  have HTC := Lib.hid htc
  obtain ⟨B, cq, hB, _, _, _, hcell2⟩ := hmp
  cases hB
  have HM := Lib.hid hcell2
  clear ht htc hs hne hcell2
  obtain ⟨R, hR⟩ : ∃ R, R = T.rule6 := ⟨_, rfl⟩
  rw [← hR]
  obtain ⟨Ra, hRa⟩ : ∃ Ra, Ra = T.decomps.all decOk := ⟨_, rfl⟩
  obtain ⟨Rb, hRb⟩ : ∃ Rb, Rb = T.decomps.all T.szOk := ⟨_, rfl⟩
  have HA0 : Hid ((T.decomps.drop 0).all decOk = Ra) := Lib.hid hRa.symm
  have HB0 : Hid ((T.decomps.drop 0).all T.szOk = Rb) := Lib.hid hRb.symm
  have HRR : Hid (R = (Ra && Rb)) := Lib.hid (by rw [hR, hRa, hRb]; rfl)
  clear hR hRa hRb
  go_enter Tryd.func37, Tryd.ntmps37
  go_wp2_with fail
  go_loopw [12] (fun i wr => ∃ (j : Nat), j ≤ T.decomps.length ∧ i = .int .i64 j ∧ Hid ((T.decomps.drop j).all decOk = Ra) ∧ Below w.heap.size w wr ∧ Hid (Blk wr w.heap.size 26 tc)) (fun i _ => T.decomps.length - (intOf i).toNat)
  case atStart => exact ⟨0, by omega, rfl, HA0, (Below.refl _ _).alloc (Nat.le_refl _) _, Lib.hid (by rw [HTC.out]; exact Blk.new _ _ _)⟩
  case round =>
    obtain ⟨j, hj, rfl, HS, hbel, HB⟩ := hrel
    clear HA0
    by_cases hjl : j < T.decomps.length
    · obtain ⟨⟨cc, to⟩, hxj, _⟩ := get_el hjl
      obtain ⟨aj, sv, rfl, ha, d0, d1, hto⟩ := HM.out j _ hxj
      simp only at d0 d1 hto
      obtain ⟨A', c', rfl, he1, he2, _, hcl⟩ := id hto
      have HTO := Lib.hid hcl
      have hlt : to.length ≤ 9223372036854775807 := by unfold maxLen at he2; omega
      obtain ⟨e0, e1⟩ := map_cells hbel ha d0 d1
      have HX := Lib.hid hxj
      have hbelw := hbel.alloc hbel.size (.cells #[.int .i64 cc, .slice A' to.length c'] 54)
      have HB' := Lib.hid (HB.out.alloc (.cells #[.int .i64 cc, .slice A' to.length c'] 54))
      clear d0 d1 hxj ha hto hcl he1 he2 HB
      have r0 : (0 : Int) ≤ (j : Int) := by omega
      have r1 : (j : Int) < (T.decomps.length : Int) := by omega
      by_cases h2 : 2 < to.length
      · have HN := Lib.hid (each_no HX.out HS.out (decOk_no (c := cc) h2))
        have p1 : (2 : Int) < (to.length : Int) := by omega
        clear h2
        go_wp2_with fail
        go_ret
        rw [HRR.out, HN.out]
        exact ⟨by simp, hbelw⟩
      · have HOK := Lib.hid (decOk_yes (c := cc) h2)
        have p1 : (to.length : Int) ≤ 2 := by omega
        obtain ⟨Rt, hRt⟩ : ∃ Rt, Rt = to.all decEl := ⟨_, rfl⟩
        have HO : Hid ((to.drop 0).all decEl = Rt) := Lib.hid hRt.symm
        have HOK2 : Hid (decOk (cc, to) = Rt) := Lib.hid (HOK.out.trans hRt.symm)
        clear h2 HOK hRt
        go_wp2_with fail
        generalize World.alloc _ (.cells #[.int .i64 cc, .slice A' to.length c'] 54) = wo at *
        clear e0 e1 hbel
        go_loop [23] (fun i => ∃ (q : Nat), q ≤ to.length ∧ i = .int .i64 q ∧ Hid ((to.drop q).all decEl = Rt)) (fun i => to.length - (intOf i).toNat)
        case atStart => exact ⟨0, by omega, rfl, HO⟩
        case round =>
          obtain ⟨q, hq, rfl, HSq⟩ := hrel
          clear HO
          by_cases hql : q < to.length
          · obtain ⟨y, hyq, _⟩ := get_el hql
            obtain ⟨ay, rfl, hay, d0⟩ := HTO.out q _ hyq
            have e0 := (hbelw.cell (p := ay.add q) (by rw [block_of_add]; exact hay)).trans d0
            have HXq := Lib.hid hyq
            clear d0 hyq hay
            have s0 : (0 : Int) ≤ (q : Int) := by omega
            have s1 : (q : Int) < (to.length : Int) := by omega
            have HSY := Lib.hid (fun W => syl_any y W)
            have HJA := Lib.hid (fun W => jamo_any y W)
            rcases el_ways y with ⟨ho, u0⟩ | ⟨ho, u0, u1⟩ | ⟨ho, u0, u1, u2⟩ | ⟨ho, u0, u1, u2⟩
            · have HN := Lib.hid (each_no HXq.out HSq.out ho)
              clear ho
              go_wp2_with fail
              go_ret
              rw [HRR.out, each_no HX.out HS.out (HOK2.out.trans HN.out)]
              exact ⟨by simp, hbelw⟩
            · have HN := Lib.hid (each_no HXq.out HSq.out ho)
              rw [u1] at HSY
              clear ho u1
              go_wp2_with fail
              refine (HSY.out _).mono ?_
              rintro e w2 ⟨rfl, rfl⟩
              go_wp2_with fail
              go_ret
              rw [HRR.out, each_no HX.out HS.out (HOK2.out.trans HN.out)]
              exact ⟨by simp, hbelw⟩
            · have HN := Lib.hid (each_no HXq.out HSq.out ho)
              rw [u1] at HSY
              rw [u2] at HJA
              clear ho u1 u2
              go_wp2_with fail
              refine (HSY.out _).mono ?_
              rintro e w2 ⟨rfl, rfl⟩
              go_wp2_with fail
              refine (HJA.out _).mono ?_
              rintro e w2 ⟨rfl, rfl⟩
              go_wp2_with fail
              go_ret
              rw [HRR.out, each_no HX.out HS.out (HOK2.out.trans HN.out)]
              exact ⟨by simp, hbelw⟩
            · have HN := Lib.hid (each_go HXq.out HSq.out ho)
              rw [u1] at HSY
              rw [u2] at HJA
              clear ho u1 u2
              go_wp2_with fail
              refine (HSY.out _).mono ?_
              rintro e w2 ⟨rfl, rfl⟩
              go_wp2_with fail
              refine (HJA.out _).mono ?_
              rintro e w2 ⟨rfl, rfl⟩
              go_wp2_with fail
              go_round
              case rel => exact ⟨q + 1, by omega, by go_num, HN⟩
              case measure => simp [intOf]; omega
          · have HN := Lib.hid (each_go HX.out HS.out (HOK2.out.trans (each_end (by omega) HSq.out)))
            go_wp2_with fail
            go_roundw
            case rel => exact ⟨j + 1, by omega, by go_num, HN, hbelw, HB'⟩
            case measure => simp [intOf]; omega
    · have HN := Lib.hid (each_end (by omega) HS.out)
      have HR2 : Hid (R = Rb) := Lib.hid (by rw [HRR.out, HN.out, Bool.true_and])
      have x9 := (show Blk _ _ _ #[_, _, _, _, _, _, _, _, _, _, _, _] from by have h := HB.out; rw [HTC.out] at h; exact h).at_ (i := 9) rfl
      clear HS HN HRR
      go_wp2_with fail
      clear x9
      go_loopw [42] (fun i wr => ∃ (j : Nat), j ≤ T.decomps.length ∧ i = .int .i64 j ∧ Hid ((T.decomps.drop j).all T.szOk = Rb) ∧ Below w.heap.size w wr ∧ Hid (Blk wr w.heap.size 26 tc)) (fun i _ => T.decomps.length - (intOf i).toNat)
      case atStart => exact ⟨0, by omega, rfl, HB0, hbel, HB⟩
      case round =>
        obtain ⟨j, hj, rfl, HS, hbel, HB⟩ := hrel
        clear HB0
        by_cases hjl : j < T.decomps.length
        · obtain ⟨⟨cc, to⟩, hxj, _⟩ := get_el hjl
          obtain ⟨aj, sv, rfl, ha, d0, d1, hto⟩ := HM.out j _ hxj
          simp only at d0 d1 hto
          obtain ⟨A', c', rfl, _⟩ := id hto
          obtain ⟨e0, e1⟩ := map_cells hbel ha d0 d1
          have HX := Lib.hid hxj
          have HB' := Lib.hid (HB.out.alloc (.cells #[.int .i64 cc, .slice A' to.length c'] 54))
          obtain ⟨x0, x1, x2, x3, x4, x5, x6, x7, x8, x9, x10, x11⟩ := (show Blk _ _ _ #[_, _, _, _, _, _, _, _, _, _, _, _] from by have h := HB'.out; rw [HTC.out] at h; exact h).tab
          have HCA := Lib.hid (HSZ.out cc _ (HT.out _ (hbel.alloc hbel.size (.cells #[.int .i64 cc, .slice A' to.length c'] 54))))
          have HSO : Hid (T.szOk (cc, to) = decide (sizeF T.decomps (T.decomps.length + 1) cc ≤ 18)) := Lib.hid rfl
          have h19 := sizeF_19 T.decomps (T.decomps.length + 1) cc
          clear d0 d1 hxj ha hto HB
          have r0 : (0 : Int) ≤ (j : Int) := by omega
          have r1 : (j : Int) < (T.decomps.length : Int) := by omega
          generalize sizeF T.decomps (T.decomps.length + 1) cc = s at *
          by_cases hbig : s ≤ 18
          · have HN := Lib.hid (each_go HX.out HS.out (HSO.out.trans (decide_eq_true hbig)))
            have p1 : (s : Int) ≤ 18 := by omega
            clear hbig
            go_wp2_with fail
            refine HCA.out.mono ?_
            rintro e w2 ⟨rfl, b2⟩
            have HB2 := Lib.hid (HB'.out.later b2)
            clear x0 x1 x2 x3 x4 x5 x6 x7 x8 x9 x10 x11 e0 e1 HB'
            go_wp2_with fail
            go_roundw
            case rel => exact ⟨j + 1, by omega, by go_num, HN, below_next (hbel.alloc hbel.size _) b2, HB2⟩
            case measure => simp [intOf]; omega
          · have HN := Lib.hid (each_no HX.out HS.out (HSO.out.trans (decide_eq_false hbig)))
            have p1 : (18 : Int) < (s : Int) := by omega
            clear hbig
            go_wp2_with fail
            refine HCA.out.mono ?_
            rintro e w2 ⟨rfl, b2⟩
            clear x0 x1 x2 x3 x4 x5 x6 x7 x8 x9 x10 x11 e0 e1 HB'
            go_wp2_with fail
            go_ret
            rw [HR2.out, HN.out]
            exact ⟨rfl, below_next (hbel.alloc hbel.size _) b2⟩
        · have HN := Lib.hid (each_end (by omega) HS.out)
          go_wp2_with fail
          go_ret
          rw [HR2.out, HN.out]
          exact ⟨rfl, hbel⟩
end Go.Proofs.YtkdhldhbjomiaaaDoor
