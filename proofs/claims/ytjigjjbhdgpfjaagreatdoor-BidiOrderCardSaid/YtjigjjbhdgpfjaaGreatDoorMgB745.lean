/-
  Merged texts: lemmas and walks that the last text of this claim leans on.
-/
import Derived.Test.YtjigjjbhdgpfjaaGreatDoorMgB715
import Derived.Test.YtjigjjbhdgpfjaaGreatDoorMgB744
import Derived.Test.YtjigjjbhdgpfjaaGreatDoorMgB743
import Derived.Test.YtjigjjbhdgpfjaaGreatDoorMgB741
import Derived.Test.YtjigjjbhdgpfjaaGreatDoorMgB716
import Derived.Test.YtjigjjbhdgpfjaaGreatDoorMgB721
/-
  The walk through the law BidiOrder.
-/
namespace Go.Proofs.YtjigjjbhdgpfjaaGreatDoor
open Go.RowKit ND

/-- The error that Domain reports for sequences that can be put into order does not depend on the place of the labels. -/
theorem dom_err {T : Tab} {ls : List (List Int)} (h : ∀ l ∈ ls, accE T l = 0) : (domR T ls).2 = if (ls.any fun l => rtlR T l) = true ∧ (ls.any fun l => ruleL T l != 0) = true then 19 else 0 := by
  rw [domR_none (firstA_none.2 h)]
  have hr : (ls.any fun l => anyB T l [1, 2, 3]) = (ls.any fun l => rtlR T l) := by
    rw [Bool.eq_iff_iff, List.any_eq_true, List.any_eq_true]
    refine exists_congr fun l => and_congr_right fun hl => ?_
    unfold rtlR; rw [h l hl]; rfl
  rw [hr]
  by_cases h1 : (ls.any fun l => rtlR T l) = true
  · rw [if_pos h1]
    by_cases h2 : (ls.any fun l => ruleL T l != 0) = true
    · rw [if_pos ⟨h1, h2⟩]
      rcases rulesGo_zero (T := T) (i := 0) (ls := ls) with h3 | h3
      · exfalso
        obtain ⟨l, hl, hn⟩ := List.any_eq_true.1 h2
        have := rulesGo_err.1 h3 l hl
        rw [this] at hn; exact absurd hn (by decide)
      · exact h3
    · rw [if_neg (fun h => h2 h.2)]
      refine rulesGo_err.2 fun l hl => ?_
      by_cases h4 : ruleL T l = 0
      · exact h4
      · exact absurd (List.any_eq_true.2 ⟨l, hl, by simpa using h4⟩) h2
  · rw [if_neg h1, if_neg (fun h => h1 h.1)]
/-- What is wanted after the first k of three labels. -/
def wantK (R : Bool) (a b c : Int) : Nat → Int
  | 0 => 0
  | 1 => if R = true ∧ a ≠ 0 then 19 else 0
  | 2 => if R = true ∧ (a ≠ 0 ∨ b ≠ 0) then 19 else 0
  | _ => if R = true ∧ (a ≠ 0 ∨ b ≠ 0 ∨ c ≠ 0) then 19 else 0
theorem dom_want {T : Tab} {x y z : List Int} (hx : accE T x = 0) (hy : accE T y = 0) (hz : accE T z = 0) {E : Int} (hE : E = wantK (rtlR T x || (rtlR T y || rtlR T z)) (ruleL T x) (ruleL T y) (ruleL T z) 3) :
    (domR T [x, y, z]).2 = E ∧ (domR T [z, x, y]).2 = E ∧ (domR T [y, x, z]).2 = E := by
  subst hE
  refine ⟨?_, ?_, ?_⟩ <;> rw [dom_err (by intro l hl; simp at hl; rcases hl with rfl | rfl | rfl <;> assumption)] <;> simp only [wantK, List.any_cons, List.any_nil] <;>
    (refine ite_congr (propext ?_) (fun _ => rfl) (fun _ => rfl); simp only [Bool.or_eq_true, Bool.or_false, bne_iff_ne, ne_eq]; all_goals constructor <;> (rintro ⟨h1, h2⟩; exact ⟨by rcases h1 with h | h | h <;> simp [h], by omega⟩))
theorem wantK_step {R : Bool} {a b c : Int} : ∀ k, k < 3 → wantK R a b c (k + 1) = if R = true ∧ [a, b, c].getD k 0 ≠ 0 then 19 else wantK R a b c k := by
  intro k hk
  match k, hk with
  | 0, _ => rfl
  | 1, _ => simp only [wantK]; cases R <;> by_cases h1 : a = 0 <;> by_cases h2 : b = 0 <;> simp [h1, h2]
  | 2, _ => simp only [wantK]; cases R <;> by_cases h1 : a = 0 <;> by_cases h2 : b = 0 <;> by_cases h3 : c = 0 <;> simp [h1, h2, h3]
theorem refRule_ok {T : Tab} {t : Tv} {v : Value} {xs : List Int} {w : World} {r : Int} (ht : TabR w w.heap.size t T) (hv : Ints w w.heap.size .i64 v xs) (h0 : accE T xs = 0) (hr : ruleL T xs = r) :
    Calls Tryz.prog 19 #[t.val, v] w fun e w' => e = .returned (.tuple #[.int .i64 r, .int .i64 0]) ∧ Below w.heap.size w w' := by
  have h := refRule_any t T v xs w ht hv
  unfold ruleR at h
  rw [if_pos h0, hr] at h; exact h
theorem domain_ok {T : Tab} {t : Tv} {v : Value} {ls : List (List Int)} {w : World} {r : Int} (ht : TabR w w.heap.size t T) (hg : Glob w) (hv : Lists w w.heap.size v ls) (hr : (domR T ls).2 = r) :
    Calls Tryz.prog 17 #[t.val, v] w fun e w' => (∃ i, e = .returned (.tuple #[.int .i64 i, .int .i64 r])) ∧ Below w.heap.size w w' := by
  refine (domain_any t T v ls w ht hg hv).mono ?_
  rintro e w' ⟨h, hb⟩
  rw [hr] at h
  exact ⟨⟨_, h⟩, hb⟩

set_option maxRecDepth 100000 in
set_option maxHeartbeats 8000000 in
theorem BidiOrder_go (W : World) (hg : Glob W) (v : Value) (xs : List Int) (hv : Ints W W.heap.size .i64 v xs) (va : Value) (as_ : List Int) (hva : Ints W W.heap.size .i64 va as_) (vb : Value) (bs : List Int) (hvb : Ints W W.heap.size .i64 vb bs) (vc : Value) (cs : List Int) (hvc : Ints W W.heap.size .i64 vc cs) :
    Calls Tryz.prog 5 #[v, va, vb, vc] W fun e W' => e = .returned (.bool true) ∧ Below W.heap.size W W' := by
  have HG := Lib.hid hg
  have HA := Lib.hid hva
  have HB := Lib.hid hvb
  have HC := Lib.hid hvc
  obtain ⟨Ax, cx, rfl, _⟩ := id hv
  obtain ⟨Aa, ca, rfl, _⟩ := id hva
  obtain ⟨Ab, cb, rfl, _⟩ := id hvb
  obtain ⟨Ac, cc, rfl, _⟩ := id hvc
  have HT := Lib.hid (keepTables_any W _ xs hv)
  clear hv hg hva hvb hvc
  go_enter Tryz.func5, Tryz.ntmps5
  go_upto_region 2 with (go_at_call 8; refine HT.out.mono ?_; rintro e w1 ⟨t, T, rfl, ht1, hm1, hb1⟩; obtain ⟨A0, A1, A2, A3, A4, A5, A6, A7, A8, A9, A10, A11, k0, k1, k2, k3, k4, k5, k6, k7, k8, k9, k10, k11, rfl⟩ := ht1.shape; have HT1 := Lib.hid ht1; have HB1 := Lib.hid hb1; have HM1 := Lib.hid hm1; clear ht1 hb1 hm1)
  obtain ⟨t, ht, htb⟩ := Tbl.new HT1.out
  have HT2 := Lib.hid htb
  have HB2 := Lib.hid (HB1.out.alloc HB1.out.size (.cells #[.slice A0 T.category.length k0, .slice A1 T.cls.length k1, .slice A2 T.joining.length k2, .slice A3 T.bidi.length k3, .slice A4 T.script.length k4, .slice A5 T.status.length k5, .slice A6 T.ignorable.length k6, .slice A7 T.extensions.length k7, .slice A8 T.maps.length k8, .slice A9 T.decomps.length k9, .slice A10 T.excluded.length k10, .slice A11 T.prototypes.length k11] 26))
  clear htb HT1 HT
  generalize w1.alloc (.cells #[.slice A0 T.category.length k0, .slice A1 T.cls.length k1, .slice A2 T.joining.length k2, .slice A3 T.bidi.length k3, .slice A4 T.script.length k4, .slice A5 T.status.length k5, .slice A6 T.ignorable.length k6, .slice A7 T.extensions.length k7, .slice A8 T.maps.length k8, .slice A9 T.decomps.length k9, .slice A10 T.excluded.length k10, .slice A11 T.prototypes.length k11] 26) = w2 at *
  generalize w1.heap.size = tb at *
  clear ht
  have hck := HM1.out.check
  have HG2 := Lib.hid (HG.out.later HB2.out)
  have HA2 := Lib.hid (HA.out.later HB2.out)
  have HBb2 := Lib.hid (HB.out.later HB2.out)
  have HC2 := Lib.hid (HC.out.later HB2.out)
  clear HG HA HB HC HM1
  go_upto_region 3 with (first
    | (go_at_call 16; refine (mixed_any _ (.slice Aa as_.length ca) as_ HA2.out).mono ?_; rintro e w3 ⟨u3, x, rfl, ho3, hl3, hm3, b3, _⟩; obtain ⟨A3, c3, rfl, _⟩ := id (Ints.of_own ho3); have HX3 := Lib.hid (Ints.of_own ho3); have HX := Lib.hid (accE_ok hck (by omega) (mixed_scal hm3)); have B3 := Lib.hid b3; clear ho3 hm3 b3 HA2)
    | (go_at_call 16; refine (mixed_any _ (.slice Ab bs.length cb) bs (HBb2.out.later B3.out)).mono ?_; rintro e w4 ⟨u4, y, rfl, ho4, hl4, hm4, b4, _⟩; obtain ⟨A4, c4, rfl, _⟩ := id (Ints.of_own ho4); have HY4 := Lib.hid (Ints.of_own ho4); have HX4 := Lib.hid (HX3.out.later b4); have HY := Lib.hid (accE_ok hck (by omega) (mixed_scal hm4)); have B4 := Lib.hid (below_next B3.out b4); clear ho4 hm4 b4 HBb2 HX3 B3)
    | (go_at_call 16; refine (mixed_any _ (.slice Ac cs.length cc) cs (HC2.out.later B4.out)).mono ?_; rintro e w5 ⟨u5, z, rfl, ho5, hl5, hm5, b5, _⟩; obtain ⟨A5, c5, rfl, _⟩ := id (Ints.of_own ho5); have HZ5 := Lib.hid (Ints.of_own ho5); have HX5 := Lib.hid (HX4.out.later b5); have HY5 := Lib.hid (HY4.out.later b5); have HZ := Lib.hid (accE_ok hck (by omega) (mixed_scal hm5)); have B5 := Lib.hid (below_next B4.out b5); clear ho5 hm5 b5 HC2 HX4 HY4 B4))
  have HT5 := Lib.hid (HT2.out.later B5.out)
  have HG5 := Lib.hid (HG2.out.later B5.out)
  have HB5 := Lib.hid (below_next HB2.out B5.out)
  clear HT2 HG2 HB2 B5 hck
  obtain ⟨E, hE⟩ : ∃ E, E = wantK (rtlR T x || (rtlR T y || rtlR T z)) (ruleL T x) (ruleL T y) (ruleL T z) 3 := ⟨_, rfl⟩
  have HD := Lib.hid (dom_want HX.out HY.out HZ.out hE)
  have HE := Lib.hid hE
  clear hE
  have HU1 := Lib.hid (fun W (h : Below w5.heap.size w5 W) => refRule_ok (HT5.out.later h).2 (HX5.out.later h) HX.out rfl)
  have HU2 := Lib.hid (fun W (h : Below w5.heap.size w5 W) => refRule_ok (HT5.out.later h).2 (HY5.out.later h) HY.out rfl)
  have HU3 := Lib.hid (fun W (h : Below w5.heap.size w5 W) => refRule_ok (HT5.out.later h).2 (HZ5.out.later h) HZ.out rfl)
  have HR1 := Lib.hid (fun W (h : Below w5.heap.size w5 W) => refRtl_any t T _ x W (HT5.out.later h).2 (HX5.out.later h))
  have HR2 := Lib.hid (fun W (h : Below w5.heap.size w5 W) => refRtl_any t T _ y W (HT5.out.later h).2 (HY5.out.later h))
  have HR3 := Lib.hid (fun W (h : Below w5.heap.size w5 W) => refRtl_any t T _ z W (HT5.out.later h).2 (HZ5.out.later h))
  have HDO := Lib.hid (fun v ls W r (h : Below w5.heap.size w5 W) hi (hr : (domR T ls).2 = r) => domain_ok (v := v) (HT5.out.later h).2 (HG5.out.later h) hi hr)
  have hna := ruleL_nonneg T x
  have hnb := ruleL_nonneg T y
  have hnc := ruleL_nonneg T z
  generalize rtlR T x = rx at *
  generalize rtlR T y = ry at *
  generalize rtlR T z = rz at *
  generalize ruleL T x = ra at *
  generalize ruleL T y = rb at *
  generalize ruleL T z = rc at *
  clear HX HY HZ
  obtain ⟨x0, x1, x2, x3, x4, x5, x6, x7, x8, x9, x10, x11⟩ := HT5.out.1.tab
  go_upto_region 5 with (go_at_call 17; have bl := (Below.refl w5.heap.size w5).alloc (Nat.le_refl _) (.cells #[.slice A3 x.length c3, .slice A4 y.length c4, .slice A5 z.length c5] 22); have hl := lists_three w5 _ _ _ x y z HX5.out HY5.out HZ5.out; refine (HDO.out _ _ _ _ (below_next (Below.refl w5.heap.size w5) bl) hl HD.out.1).mono ?_; rintro e w6 ⟨⟨iw6, rfl⟩, b6⟩; have B6 := Lib.hid (below_next (Below.refl w5.heap.size w5) (below_next bl b6)); clear bl b6 hl)
  clear x0 x1 x2 x3 x4 x5 x6 x7 x8 x9 x10 x11
  cases rx with
  | true =>
    obtain ⟨x0, x1, x2, x3, x4, x5, x6, x7, x8, x9, x10, x11⟩ := (HT5.out.later B6.out).1.tab
    go_upto_region 6 with (first | (go_at_call 18; refine (HR1.out _ B6.out).mono ?_; rintro e w70 ⟨rfl, b7⟩; have B70 := Lib.hid (below_next B6.out b7); clear HR1 b7 x0 x1 x2 x3 x4 x5 x6 x7 x8 x9 x10 x11; obtain ⟨x0, x1, x2, x3, x4, x5, x6, x7, x8, x9, x10, x11⟩ := (HT5.out.later B70.out).1.tab))
    have B7 := B70
    clear x0 x1 x2 x3 x4 x5 x6 x7 x8 x9 x10 x11 HR2 HR3
    go_wp2_with fail
    go_loopw [59, 15] (fun s59 s15 wr => ∃ (k : Nat), k ≤ 3 ∧ s59 = .int .i64 k ∧ s15 = .int .i64 (wantK true ra rb rc k) ∧ Hid (Below w5.heap.size w5 wr)) (fun i _ _ => 3 - (intOf i).toNat)
    case atStart => exact ⟨0, by omega, rfl, rfl, B7⟩
    case round =>
      obtain ⟨k, hk, rfl, rfl, HBr⟩ := hrel
      have HTr := Lib.hid (HT5.out.later HBr.out)
      have HS := Lib.hid (wantK_step (R := true) (a := ra) (b := rb) (c := rc) k)
      have hk4 : k = 0 ∨ k = 1 ∨ k = 2 ∨ k = 3 := by omega
      obtain ⟨want, hwt⟩ : ∃ q, wantK true ra rb rc k = q := ⟨_, rfl⟩
      rw [hwt] at HS
      simp only [hwt]
      have HW := Lib.hid hwt
      have i0 : ∀ w, (Instr.index 41 (.agg #[.slice A3 x.length c3, .slice A4 y.length c4, .slice A5 z.length c5]) (.int .i64 0)).run Tryz.prog w = .ok (.slice A3 x.length c3) w := fun _ => by kernel_rfl
      have i1 : ∀ w, (Instr.index 41 (.agg #[.slice A3 x.length c3, .slice A4 y.length c4, .slice A5 z.length c5]) (.int .i64 1)).run Tryz.prog w = .ok (.slice A4 y.length c4) w := fun _ => by kernel_rfl
      have i2 : ∀ w, (Instr.index 41 (.agg #[.slice A3 x.length c3, .slice A4 y.length c4, .slice A5 z.length c5]) (.int .i64 2)).run Tryz.prog w = .ok (.slice A5 z.length c5) w := fun _ => by kernel_rfl
      rcases hk4 with rfl | rfl | rfl | rfl
      · clear hwt
        by_cases hv : ra = 0
        · have hb : ¬ 0 < ra := by omega
          obtain ⟨x0, x1, x2, x3, x4, x5, x6, x7, x8, x9, x10, x11⟩ := HTr.out.1.tab
          go_wp2_with (go_at_call 19; refine (HU1.out _ HBr.out).mono ?_; rintro e w8 ⟨rfl, b8⟩)
          go_roundw
          case rel => exact ⟨1, by omega, by go_num, (by rw [HS.out (by omega), if_neg (by simp [hv])]), Lib.hid (below_next HBr.out b8)⟩
          case measure => simp [intOf]
        · have hb : 0 < ra := by omega
          obtain ⟨x0, x1, x2, x3, x4, x5, x6, x7, x8, x9, x10, x11⟩ := HTr.out.1.tab
          go_wp2_with (go_at_call 19; refine (HU1.out _ HBr.out).mono ?_; rintro e w8 ⟨rfl, b8⟩)
          go_roundw
          case rel => exact ⟨1, by omega, by go_num, (by rw [HS.out (by omega), if_pos (by simp [hv])]), Lib.hid (below_next HBr.out b8)⟩
          case measure => simp [intOf]
      · clear hwt
        by_cases hv : rb = 0
        · have hb : ¬ 0 < rb := by omega
          obtain ⟨x0, x1, x2, x3, x4, x5, x6, x7, x8, x9, x10, x11⟩ := HTr.out.1.tab
          go_wp2_with (go_at_call 19; refine (HU2.out _ HBr.out).mono ?_; rintro e w8 ⟨rfl, b8⟩)
          go_roundw
          case rel => exact ⟨2, by omega, by go_num, (by rw [HS.out (by omega), if_neg (by simp [hv])]), Lib.hid (below_next HBr.out b8)⟩
          case measure => simp [intOf]
        · have hb : 0 < rb := by omega
          obtain ⟨x0, x1, x2, x3, x4, x5, x6, x7, x8, x9, x10, x11⟩ := HTr.out.1.tab
          go_wp2_with (go_at_call 19; refine (HU2.out _ HBr.out).mono ?_; rintro e w8 ⟨rfl, b8⟩)
          go_roundw
          case rel => exact ⟨2, by omega, by go_num, (by rw [HS.out (by omega), if_pos (by simp [hv])]), Lib.hid (below_next HBr.out b8)⟩
          case measure => simp [intOf]
      · clear hwt
        by_cases hv : rc = 0
        · have hb : ¬ 0 < rc := by omega
          obtain ⟨x0, x1, x2, x3, x4, x5, x6, x7, x8, x9, x10, x11⟩ := HTr.out.1.tab
          go_wp2_with (go_at_call 19; refine (HU3.out _ HBr.out).mono ?_; rintro e w8 ⟨rfl, b8⟩)
          go_roundw
          case rel => exact ⟨3, by omega, by go_num, (by rw [HS.out (by omega), if_neg (by simp [hv])]), Lib.hid (below_next HBr.out b8)⟩
          case measure => simp [intOf]
        · have hb : 0 < rc := by omega
          obtain ⟨x0, x1, x2, x3, x4, x5, x6, x7, x8, x9, x10, x11⟩ := HTr.out.1.tab
          go_wp2_with (go_at_call 19; refine (HU3.out _ HBr.out).mono ?_; rintro e w8 ⟨rfl, b8⟩)
          go_roundw
          case rel => exact ⟨3, by omega, by go_num, (by rw [HS.out (by omega), if_pos (by simp [hv])]), Lib.hid (below_next HBr.out b8)⟩
          case measure => simp [intOf]
      · have hwe : want = E := by rw [← hwt, HE.out]; simp
        subst hwe
        clear hwt HS HW
        obtain ⟨x0, x1, x2, x3, x4, x5, x6, x7, x8, x9, x10, x11⟩ := HTr.out.1.tab
        go_upto_region 13 with fail
        go_upto_region 14 with (go_at_call 17; have bl := (Below.refl wr.heap.size wr).alloc (Nat.le_refl _) (.cells #[.slice A5 z.length c5, .slice A3 x.length c3, .slice A4 y.length c4] 22); have hl := lists_three wr _ _ _ z x y (HZ5.out.later HBr.out) (HX5.out.later HBr.out) (HY5.out.later HBr.out); refine (HDO.out _ _ _ _ (below_next HBr.out bl) hl HD.out.2.1).mono ?_; rintro e w9 ⟨⟨iw9, rfl⟩, b6⟩; have B9 := Lib.hid (below_next HBr.out (below_next bl b6)); clear bl b6 hl)
        clear x0 x1 x2 x3 x4 x5 x6 x7 x8 x9 x10 x11
        obtain ⟨x0, x1, x2, x3, x4, x5, x6, x7, x8, x9, x10, x11⟩ := (HT5.out.later B9.out).1.tab
        go_upto_region 15 with (go_at_call 17; have bl := (Below.refl w9.heap.size w9).alloc (Nat.le_refl _) (.cells #[.slice A4 y.length c4, .slice A3 x.length c3, .slice A5 z.length c5] 22); have hl := lists_three w9 _ _ _ y x z (HY5.out.later B9.out) (HX5.out.later B9.out) (HZ5.out.later B9.out); refine (HDO.out _ _ _ _ (below_next B9.out bl) hl HD.out.2.2).mono ?_; rintro e w10 ⟨⟨iw10, rfl⟩, b6⟩; have B10 := Lib.hid (below_next B9.out (below_next bl b6)); clear bl b6 hl)
        clear x0 x1 x2 x3 x4 x5 x6 x7 x8 x9 x10 x11
        go_wp2_with (go_at_call 14; refine (awake16 _ (HG5.out.later B10.out)).mono ?_; rintro e w11 ⟨rfl, b11⟩)
        go_ret
        exact ⟨rfl, below_next HB5.out (below_next B10.out b11)⟩
  | false =>
    cases ry with
    | true =>
      obtain ⟨x0, x1, x2, x3, x4, x5, x6, x7, x8, x9, x10, x11⟩ := (HT5.out.later B6.out).1.tab
      go_upto_region 6 with (first | (go_at_call 18; refine (HR1.out _ B6.out).mono ?_; rintro e w70 ⟨rfl, b7⟩; have B70 := Lib.hid (below_next B6.out b7); clear HR1 b7 x0 x1 x2 x3 x4 x5 x6 x7 x8 x9 x10 x11; obtain ⟨x0, x1, x2, x3, x4, x5, x6, x7, x8, x9, x10, x11⟩ := (HT5.out.later B70.out).1.tab) | (go_at_call 18; refine (HR2.out _ B70.out).mono ?_; rintro e w71 ⟨rfl, b7⟩; have B71 := Lib.hid (below_next B70.out b7); clear HR2 b7 x0 x1 x2 x3 x4 x5 x6 x7 x8 x9 x10 x11; obtain ⟨x0, x1, x2, x3, x4, x5, x6, x7, x8, x9, x10, x11⟩ := (HT5.out.later B71.out).1.tab))
      have B7 := B71
      clear x0 x1 x2 x3 x4 x5 x6 x7 x8 x9 x10 x11 HR3
      go_wp2_with fail
      go_loopw [59, 15] (fun s59 s15 wr => ∃ (k : Nat), k ≤ 3 ∧ s59 = .int .i64 k ∧ s15 = .int .i64 (wantK true ra rb rc k) ∧ Hid (Below w5.heap.size w5 wr)) (fun i _ _ => 3 - (intOf i).toNat)
      case atStart => exact ⟨0, by omega, rfl, rfl, B7⟩
      case round =>
        obtain ⟨k, hk, rfl, rfl, HBr⟩ := hrel
        have HTr := Lib.hid (HT5.out.later HBr.out)
        have HS := Lib.hid (wantK_step (R := true) (a := ra) (b := rb) (c := rc) k)
        have hk4 : k = 0 ∨ k = 1 ∨ k = 2 ∨ k = 3 := by omega
        obtain ⟨want, hwt⟩ : ∃ q, wantK true ra rb rc k = q := ⟨_, rfl⟩
        rw [hwt] at HS
        simp only [hwt]
        have HW := Lib.hid hwt
        have i0 : ∀ w, (Instr.index 41 (.agg #[.slice A3 x.length c3, .slice A4 y.length c4, .slice A5 z.length c5]) (.int .i64 0)).run Tryz.prog w = .ok (.slice A3 x.length c3) w := fun _ => by kernel_rfl
        have i1 : ∀ w, (Instr.index 41 (.agg #[.slice A3 x.length c3, .slice A4 y.length c4, .slice A5 z.length c5]) (.int .i64 1)).run Tryz.prog w = .ok (.slice A4 y.length c4) w := fun _ => by kernel_rfl
        have i2 : ∀ w, (Instr.index 41 (.agg #[.slice A3 x.length c3, .slice A4 y.length c4, .slice A5 z.length c5]) (.int .i64 2)).run Tryz.prog w = .ok (.slice A5 z.length c5) w := fun _ => by kernel_rfl
        rcases hk4 with rfl | rfl | rfl | rfl
        · clear hwt
          by_cases hv : ra = 0
          · have hb : ¬ 0 < ra := by omega
            obtain ⟨x0, x1, x2, x3, x4, x5, x6, x7, x8, x9, x10, x11⟩ := HTr.out.1.tab
            go_wp2_with (go_at_call 19; refine (HU1.out _ HBr.out).mono ?_; rintro e w8 ⟨rfl, b8⟩)
            go_roundw
            case rel => exact ⟨1, by omega, by go_num, (by rw [HS.out (by omega), if_neg (by simp [hv])]), Lib.hid (below_next HBr.out b8)⟩
            case measure => simp [intOf]
          · have hb : 0 < ra := by omega
            obtain ⟨x0, x1, x2, x3, x4, x5, x6, x7, x8, x9, x10, x11⟩ := HTr.out.1.tab
            go_wp2_with (go_at_call 19; refine (HU1.out _ HBr.out).mono ?_; rintro e w8 ⟨rfl, b8⟩)
            go_roundw
            case rel => exact ⟨1, by omega, by go_num, (by rw [HS.out (by omega), if_pos (by simp [hv])]), Lib.hid (below_next HBr.out b8)⟩
            case measure => simp [intOf]
        · clear hwt
          by_cases hv : rb = 0
          · have hb : ¬ 0 < rb := by omega
            obtain ⟨x0, x1, x2, x3, x4, x5, x6, x7, x8, x9, x10, x11⟩ := HTr.out.1.tab
            go_wp2_with (go_at_call 19; refine (HU2.out _ HBr.out).mono ?_; rintro e w8 ⟨rfl, b8⟩)
            go_roundw
            case rel => exact ⟨2, by omega, by go_num, (by rw [HS.out (by omega), if_neg (by simp [hv])]), Lib.hid (below_next HBr.out b8)⟩
            case measure => simp [intOf]
          · have hb : 0 < rb := by omega
            obtain ⟨x0, x1, x2, x3, x4, x5, x6, x7, x8, x9, x10, x11⟩ := HTr.out.1.tab
            go_wp2_with (go_at_call 19; refine (HU2.out _ HBr.out).mono ?_; rintro e w8 ⟨rfl, b8⟩)
            go_roundw
            case rel => exact ⟨2, by omega, by go_num, (by rw [HS.out (by omega), if_pos (by simp [hv])]), Lib.hid (below_next HBr.out b8)⟩
            case measure => simp [intOf]
        · clear hwt
          by_cases hv : rc = 0
          · have hb : ¬ 0 < rc := by omega
            obtain ⟨x0, x1, x2, x3, x4, x5, x6, x7, x8, x9, x10, x11⟩ := HTr.out.1.tab
            go_wp2_with (go_at_call 19; refine (HU3.out _ HBr.out).mono ?_; rintro e w8 ⟨rfl, b8⟩)
            go_roundw
            case rel => exact ⟨3, by omega, by go_num, (by rw [HS.out (by omega), if_neg (by simp [hv])]), Lib.hid (below_next HBr.out b8)⟩
            case measure => simp [intOf]
          · have hb : 0 < rc := by omega
            obtain ⟨x0, x1, x2, x3, x4, x5, x6, x7, x8, x9, x10, x11⟩ := HTr.out.1.tab
            go_wp2_with (go_at_call 19; refine (HU3.out _ HBr.out).mono ?_; rintro e w8 ⟨rfl, b8⟩)
            go_roundw
            case rel => exact ⟨3, by omega, by go_num, (by rw [HS.out (by omega), if_pos (by simp [hv])]), Lib.hid (below_next HBr.out b8)⟩
            case measure => simp [intOf]
        · have hwe : want = E := by rw [← hwt, HE.out]; simp
          subst hwe
          clear hwt HS HW
          obtain ⟨x0, x1, x2, x3, x4, x5, x6, x7, x8, x9, x10, x11⟩ := HTr.out.1.tab
          go_upto_region 13 with fail
          go_upto_region 14 with (go_at_call 17; have bl := (Below.refl wr.heap.size wr).alloc (Nat.le_refl _) (.cells #[.slice A5 z.length c5, .slice A3 x.length c3, .slice A4 y.length c4] 22); have hl := lists_three wr _ _ _ z x y (HZ5.out.later HBr.out) (HX5.out.later HBr.out) (HY5.out.later HBr.out); refine (HDO.out _ _ _ _ (below_next HBr.out bl) hl HD.out.2.1).mono ?_; rintro e w9 ⟨⟨iw9, rfl⟩, b6⟩; have B9 := Lib.hid (below_next HBr.out (below_next bl b6)); clear bl b6 hl)
          clear x0 x1 x2 x3 x4 x5 x6 x7 x8 x9 x10 x11
          obtain ⟨x0, x1, x2, x3, x4, x5, x6, x7, x8, x9, x10, x11⟩ := (HT5.out.later B9.out).1.tab
          go_upto_region 15 with (go_at_call 17; have bl := (Below.refl w9.heap.size w9).alloc (Nat.le_refl _) (.cells #[.slice A4 y.length c4, .slice A3 x.length c3, .slice A5 z.length c5] 22); have hl := lists_three w9 _ _ _ y x z (HY5.out.later B9.out) (HX5.out.later B9.out) (HZ5.out.later B9.out); refine (HDO.out _ _ _ _ (below_next B9.out bl) hl HD.out.2.2).mono ?_; rintro e w10 ⟨⟨iw10, rfl⟩, b6⟩; have B10 := Lib.hid (below_next B9.out (below_next bl b6)); clear bl b6 hl)
          clear x0 x1 x2 x3 x4 x5 x6 x7 x8 x9 x10 x11
          go_wp2_with (go_at_call 14; refine (awake16 _ (HG5.out.later B10.out)).mono ?_; rintro e w11 ⟨rfl, b11⟩)
          go_ret
          exact ⟨rfl, below_next HB5.out (below_next B10.out b11)⟩
    | false =>
      cases rz with
      | true =>
        obtain ⟨x0, x1, x2, x3, x4, x5, x6, x7, x8, x9, x10, x11⟩ := (HT5.out.later B6.out).1.tab
        go_upto_region 6 with (first | (go_at_call 18; refine (HR1.out _ B6.out).mono ?_; rintro e w70 ⟨rfl, b7⟩; have B70 := Lib.hid (below_next B6.out b7); clear HR1 b7 x0 x1 x2 x3 x4 x5 x6 x7 x8 x9 x10 x11; obtain ⟨x0, x1, x2, x3, x4, x5, x6, x7, x8, x9, x10, x11⟩ := (HT5.out.later B70.out).1.tab) | (go_at_call 18; refine (HR2.out _ B70.out).mono ?_; rintro e w71 ⟨rfl, b7⟩; have B71 := Lib.hid (below_next B70.out b7); clear HR2 b7 x0 x1 x2 x3 x4 x5 x6 x7 x8 x9 x10 x11; obtain ⟨x0, x1, x2, x3, x4, x5, x6, x7, x8, x9, x10, x11⟩ := (HT5.out.later B71.out).1.tab) | (go_at_call 18; refine (HR3.out _ B71.out).mono ?_; rintro e w72 ⟨rfl, b7⟩; have B72 := Lib.hid (below_next B71.out b7); clear HR3 b7 x0 x1 x2 x3 x4 x5 x6 x7 x8 x9 x10 x11; obtain ⟨x0, x1, x2, x3, x4, x5, x6, x7, x8, x9, x10, x11⟩ := (HT5.out.later B72.out).1.tab))
        have B7 := B72
        clear x0 x1 x2 x3 x4 x5 x6 x7 x8 x9 x10 x11 
        go_wp2_with fail
        go_loopw [59, 15] (fun s59 s15 wr => ∃ (k : Nat), k ≤ 3 ∧ s59 = .int .i64 k ∧ s15 = .int .i64 (wantK true ra rb rc k) ∧ Hid (Below w5.heap.size w5 wr)) (fun i _ _ => 3 - (intOf i).toNat)
        case atStart => exact ⟨0, by omega, rfl, rfl, B7⟩
        case round =>
          obtain ⟨k, hk, rfl, rfl, HBr⟩ := hrel
          have HTr := Lib.hid (HT5.out.later HBr.out)
          have HS := Lib.hid (wantK_step (R := true) (a := ra) (b := rb) (c := rc) k)
          have hk4 : k = 0 ∨ k = 1 ∨ k = 2 ∨ k = 3 := by omega
          obtain ⟨want, hwt⟩ : ∃ q, wantK true ra rb rc k = q := ⟨_, rfl⟩
          rw [hwt] at HS
          simp only [hwt]
          have HW := Lib.hid hwt
          have i0 : ∀ w, (Instr.index 41 (.agg #[.slice A3 x.length c3, .slice A4 y.length c4, .slice A5 z.length c5]) (.int .i64 0)).run Tryz.prog w = .ok (.slice A3 x.length c3) w := fun _ => by kernel_rfl
          have i1 : ∀ w, (Instr.index 41 (.agg #[.slice A3 x.length c3, .slice A4 y.length c4, .slice A5 z.length c5]) (.int .i64 1)).run Tryz.prog w = .ok (.slice A4 y.length c4) w := fun _ => by kernel_rfl
          have i2 : ∀ w, (Instr.index 41 (.agg #[.slice A3 x.length c3, .slice A4 y.length c4, .slice A5 z.length c5]) (.int .i64 2)).run Tryz.prog w = .ok (.slice A5 z.length c5) w := fun _ => by kernel_rfl
          rcases hk4 with rfl | rfl | rfl | rfl
          · clear hwt
            by_cases hv : ra = 0
            · have hb : ¬ 0 < ra := by omega
              obtain ⟨x0, x1, x2, x3, x4, x5, x6, x7, x8, x9, x10, x11⟩ := HTr.out.1.tab
              go_wp2_with (go_at_call 19; refine (HU1.out _ HBr.out).mono ?_; rintro e w8 ⟨rfl, b8⟩)
              go_roundw
              case rel => exact ⟨1, by omega, by go_num, (by rw [HS.out (by omega), if_neg (by simp [hv])]), Lib.hid (below_next HBr.out b8)⟩
              case measure => simp [intOf]
            · have hb : 0 < ra := by omega
              obtain ⟨x0, x1, x2, x3, x4, x5, x6, x7, x8, x9, x10, x11⟩ := HTr.out.1.tab
              go_wp2_with (go_at_call 19; refine (HU1.out _ HBr.out).mono ?_; rintro e w8 ⟨rfl, b8⟩)
              go_roundw
              case rel => exact ⟨1, by omega, by go_num, (by rw [HS.out (by omega), if_pos (by simp [hv])]), Lib.hid (below_next HBr.out b8)⟩
              case measure => simp [intOf]
          · clear hwt
            by_cases hv : rb = 0
            · have hb : ¬ 0 < rb := by omega
              obtain ⟨x0, x1, x2, x3, x4, x5, x6, x7, x8, x9, x10, x11⟩ := HTr.out.1.tab
              go_wp2_with (go_at_call 19; refine (HU2.out _ HBr.out).mono ?_; rintro e w8 ⟨rfl, b8⟩)
              go_roundw
              case rel => exact ⟨2, by omega, by go_num, (by rw [HS.out (by omega), if_neg (by simp [hv])]), Lib.hid (below_next HBr.out b8)⟩
              case measure => simp [intOf]
            · have hb : 0 < rb := by omega
              obtain ⟨x0, x1, x2, x3, x4, x5, x6, x7, x8, x9, x10, x11⟩ := HTr.out.1.tab
              go_wp2_with (go_at_call 19; refine (HU2.out _ HBr.out).mono ?_; rintro e w8 ⟨rfl, b8⟩)
              go_roundw
              case rel => exact ⟨2, by omega, by go_num, (by rw [HS.out (by omega), if_pos (by simp [hv])]), Lib.hid (below_next HBr.out b8)⟩
              case measure => simp [intOf]
          · clear hwt
            by_cases hv : rc = 0
            · have hb : ¬ 0 < rc := by omega
              obtain ⟨x0, x1, x2, x3, x4, x5, x6, x7, x8, x9, x10, x11⟩ := HTr.out.1.tab
              go_wp2_with (go_at_call 19; refine (HU3.out _ HBr.out).mono ?_; rintro e w8 ⟨rfl, b8⟩)
              go_roundw
              case rel => exact ⟨3, by omega, by go_num, (by rw [HS.out (by omega), if_neg (by simp [hv])]), Lib.hid (below_next HBr.out b8)⟩
              case measure => simp [intOf]
            · have hb : 0 < rc := by omega
              obtain ⟨x0, x1, x2, x3, x4, x5, x6, x7, x8, x9, x10, x11⟩ := HTr.out.1.tab
              go_wp2_with (go_at_call 19; refine (HU3.out _ HBr.out).mono ?_; rintro e w8 ⟨rfl, b8⟩)
              go_roundw
              case rel => exact ⟨3, by omega, by go_num, (by rw [HS.out (by omega), if_pos (by simp [hv])]), Lib.hid (below_next HBr.out b8)⟩
              case measure => simp [intOf]
          · have hwe : want = E := by rw [← hwt, HE.out]; simp
            subst hwe
            clear hwt HS HW
            obtain ⟨x0, x1, x2, x3, x4, x5, x6, x7, x8, x9, x10, x11⟩ := HTr.out.1.tab
            go_upto_region 13 with fail
            go_upto_region 14 with (go_at_call 17; have bl := (Below.refl wr.heap.size wr).alloc (Nat.le_refl _) (.cells #[.slice A5 z.length c5, .slice A3 x.length c3, .slice A4 y.length c4] 22); have hl := lists_three wr _ _ _ z x y (HZ5.out.later HBr.out) (HX5.out.later HBr.out) (HY5.out.later HBr.out); refine (HDO.out _ _ _ _ (below_next HBr.out bl) hl HD.out.2.1).mono ?_; rintro e w9 ⟨⟨iw9, rfl⟩, b6⟩; have B9 := Lib.hid (below_next HBr.out (below_next bl b6)); clear bl b6 hl)
            clear x0 x1 x2 x3 x4 x5 x6 x7 x8 x9 x10 x11
            obtain ⟨x0, x1, x2, x3, x4, x5, x6, x7, x8, x9, x10, x11⟩ := (HT5.out.later B9.out).1.tab
            go_upto_region 15 with (go_at_call 17; have bl := (Below.refl w9.heap.size w9).alloc (Nat.le_refl _) (.cells #[.slice A4 y.length c4, .slice A3 x.length c3, .slice A5 z.length c5] 22); have hl := lists_three w9 _ _ _ y x z (HY5.out.later B9.out) (HX5.out.later B9.out) (HZ5.out.later B9.out); refine (HDO.out _ _ _ _ (below_next B9.out bl) hl HD.out.2.2).mono ?_; rintro e w10 ⟨⟨iw10, rfl⟩, b6⟩; have B10 := Lib.hid (below_next B9.out (below_next bl b6)); clear bl b6 hl)
            clear x0 x1 x2 x3 x4 x5 x6 x7 x8 x9 x10 x11
            go_wp2_with (go_at_call 14; refine (awake16 _ (HG5.out.later B10.out)).mono ?_; rintro e w11 ⟨rfl, b11⟩)
            go_ret
            exact ⟨rfl, below_next HB5.out (below_next B10.out b11)⟩
      | false =>
        obtain ⟨x0, x1, x2, x3, x4, x5, x6, x7, x8, x9, x10, x11⟩ := (HT5.out.later B6.out).1.tab
        go_upto_region 6 with (first | (go_at_call 18; refine (HR1.out _ B6.out).mono ?_; rintro e w70 ⟨rfl, b7⟩; have B70 := Lib.hid (below_next B6.out b7); clear HR1 b7 x0 x1 x2 x3 x4 x5 x6 x7 x8 x9 x10 x11; obtain ⟨x0, x1, x2, x3, x4, x5, x6, x7, x8, x9, x10, x11⟩ := (HT5.out.later B70.out).1.tab) | (go_at_call 18; refine (HR2.out _ B70.out).mono ?_; rintro e w71 ⟨rfl, b7⟩; have B71 := Lib.hid (below_next B70.out b7); clear HR2 b7 x0 x1 x2 x3 x4 x5 x6 x7 x8 x9 x10 x11; obtain ⟨x0, x1, x2, x3, x4, x5, x6, x7, x8, x9, x10, x11⟩ := (HT5.out.later B71.out).1.tab) | (go_at_call 18; refine (HR3.out _ B71.out).mono ?_; rintro e w72 ⟨rfl, b7⟩; have B72 := Lib.hid (below_next B71.out b7); clear HR3 b7 x0 x1 x2 x3 x4 x5 x6 x7 x8 x9 x10 x11; obtain ⟨x0, x1, x2, x3, x4, x5, x6, x7, x8, x9, x10, x11⟩ := (HT5.out.later B72.out).1.tab))
        have B7 := B72
        clear x0 x1 x2 x3 x4 x5 x6 x7 x8 x9 x10 x11 
        go_wp2_with fail
        go_loopw [59, 15] (fun s59 s15 wr => ∃ (k : Nat), k ≤ 3 ∧ s59 = .int .i64 k ∧ s15 = .int .i64 (wantK false ra rb rc k) ∧ Hid (Below w5.heap.size w5 wr)) (fun i _ _ => 3 - (intOf i).toNat)
        case atStart => exact ⟨0, by omega, rfl, rfl, B7⟩
        case round =>
          obtain ⟨k, hk, rfl, rfl, HBr⟩ := hrel
          have HTr := Lib.hid (HT5.out.later HBr.out)
          have HS := Lib.hid (wantK_step (R := false) (a := ra) (b := rb) (c := rc) k)
          have hk4 : k = 0 ∨ k = 1 ∨ k = 2 ∨ k = 3 := by omega
          obtain ⟨want, hwt⟩ : ∃ q, wantK false ra rb rc k = q := ⟨_, rfl⟩
          rw [hwt] at HS
          simp only [hwt]
          have HW := Lib.hid hwt
          have i0 : ∀ w, (Instr.index 41 (.agg #[.slice A3 x.length c3, .slice A4 y.length c4, .slice A5 z.length c5]) (.int .i64 0)).run Tryz.prog w = .ok (.slice A3 x.length c3) w := fun _ => by kernel_rfl
          have i1 : ∀ w, (Instr.index 41 (.agg #[.slice A3 x.length c3, .slice A4 y.length c4, .slice A5 z.length c5]) (.int .i64 1)).run Tryz.prog w = .ok (.slice A4 y.length c4) w := fun _ => by kernel_rfl
          have i2 : ∀ w, (Instr.index 41 (.agg #[.slice A3 x.length c3, .slice A4 y.length c4, .slice A5 z.length c5]) (.int .i64 2)).run Tryz.prog w = .ok (.slice A5 z.length c5) w := fun _ => by kernel_rfl
          rcases hk4 with rfl | rfl | rfl | rfl
          · clear hwt
            obtain ⟨x0, x1, x2, x3, x4, x5, x6, x7, x8, x9, x10, x11⟩ := HTr.out.1.tab
            go_wp2_with (go_at_call 19; refine (HU1.out _ HBr.out).mono ?_; rintro e w8 ⟨rfl, b8⟩)
            go_roundw
            case rel => exact ⟨1, by omega, by go_num, (by rw [HS.out (by omega)]; rfl), Lib.hid (below_next HBr.out b8)⟩
            case measure => simp [intOf]
          · clear hwt
            obtain ⟨x0, x1, x2, x3, x4, x5, x6, x7, x8, x9, x10, x11⟩ := HTr.out.1.tab
            go_wp2_with (go_at_call 19; refine (HU2.out _ HBr.out).mono ?_; rintro e w8 ⟨rfl, b8⟩)
            go_roundw
            case rel => exact ⟨2, by omega, by go_num, (by rw [HS.out (by omega)]; rfl), Lib.hid (below_next HBr.out b8)⟩
            case measure => simp [intOf]
          · clear hwt
            obtain ⟨x0, x1, x2, x3, x4, x5, x6, x7, x8, x9, x10, x11⟩ := HTr.out.1.tab
            go_wp2_with (go_at_call 19; refine (HU3.out _ HBr.out).mono ?_; rintro e w8 ⟨rfl, b8⟩)
            go_roundw
            case rel => exact ⟨3, by omega, by go_num, (by rw [HS.out (by omega)]; rfl), Lib.hid (below_next HBr.out b8)⟩
            case measure => simp [intOf]
          · have hwe : want = E := by rw [← hwt, HE.out]; simp
            subst hwe
            clear hwt HS HW
            obtain ⟨x0, x1, x2, x3, x4, x5, x6, x7, x8, x9, x10, x11⟩ := HTr.out.1.tab
            go_upto_region 13 with fail
            go_upto_region 14 with (go_at_call 17; have bl := (Below.refl wr.heap.size wr).alloc (Nat.le_refl _) (.cells #[.slice A5 z.length c5, .slice A3 x.length c3, .slice A4 y.length c4] 22); have hl := lists_three wr _ _ _ z x y (HZ5.out.later HBr.out) (HX5.out.later HBr.out) (HY5.out.later HBr.out); refine (HDO.out _ _ _ _ (below_next HBr.out bl) hl HD.out.2.1).mono ?_; rintro e w9 ⟨⟨iw9, rfl⟩, b6⟩; have B9 := Lib.hid (below_next HBr.out (below_next bl b6)); clear bl b6 hl)
            clear x0 x1 x2 x3 x4 x5 x6 x7 x8 x9 x10 x11
            obtain ⟨x0, x1, x2, x3, x4, x5, x6, x7, x8, x9, x10, x11⟩ := (HT5.out.later B9.out).1.tab
            go_upto_region 15 with (go_at_call 17; have bl := (Below.refl w9.heap.size w9).alloc (Nat.le_refl _) (.cells #[.slice A4 y.length c4, .slice A3 x.length c3, .slice A5 z.length c5] 22); have hl := lists_three w9 _ _ _ y x z (HY5.out.later B9.out) (HX5.out.later B9.out) (HZ5.out.later B9.out); refine (HDO.out _ _ _ _ (below_next B9.out bl) hl HD.out.2.2).mono ?_; rintro e w10 ⟨⟨iw10, rfl⟩, b6⟩; have B10 := Lib.hid (below_next B9.out (below_next bl b6)); clear bl b6 hl)
            clear x0 x1 x2 x3 x4 x5 x6 x7 x8 x9 x10 x11
            go_wp2_with (go_at_call 14; refine (awake16 _ (HG5.out.later B10.out)).mono ?_; rintro e w11 ⟨rfl, b11⟩)
            go_ret
            exact ⟨rfl, below_next HB5.out (below_next B10.out b11)⟩

theorem BidiOrder_walk (W : World) (hg : Glob W) (v : Value) (xs : List Int) (hv : Ints W W.heap.size .i64 v xs) (_ : ∀ x ∈ xs, -9223372036854775808 ≤ x ∧ x ≤ 9223372036854775807) (_ : xs.length * 8 ≤ 140737488351232) (va : Value) (as_ : List Int) (hva : Ints W W.heap.size .i64 va as_) (_ : ∀ x ∈ as_, -9223372036854775808 ≤ x ∧ x ≤ 9223372036854775807) (_ : as_.length * 8 ≤ 140737488351232) (vb : Value) (bs : List Int) (hvb : Ints W W.heap.size .i64 vb bs) (_ : ∀ x ∈ bs, -9223372036854775808 ≤ x ∧ x ≤ 9223372036854775807) (_ : bs.length * 8 ≤ 140737488351232) (vc : Value) (cs : List Int) (hvc : Ints W W.heap.size .i64 vc cs) (_ : ∀ x ∈ cs, -9223372036854775808 ≤ x ∧ x ≤ 9223372036854775807) (_ : cs.length * 8 ≤ 140737488351232) :
    Calls Tryz.prog 5 #[v, va, vb, vc] W fun e W' => e = .returned (.bool true) ∧ Below W.heap.size W W' := BidiOrder_go W hg v xs hv va as_ hva vb bs hvb vc cs hvc
end Go.Proofs.YtjigjjbhdgpfjaaGreatDoor
