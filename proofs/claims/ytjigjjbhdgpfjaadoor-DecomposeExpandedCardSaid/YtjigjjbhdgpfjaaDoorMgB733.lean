/-
  Merged texts: lemmas and walks that the last text of this claim leans on.
-/
import Derived.Test.YtjigjjbhdgpfjaaDoorMgB715
import Derived.Test.YtjigjjbhdgpfjaaDoorMgB732
import Derived.Test.YtjigjjbhdgpfjaaDoorMgB725
import Derived.Test.YtjigjjbhdgpfjaaDoorMgB716
import Derived.Test.YtjigjjbhdgpfjaaDoorMgB731
import Derived.Test.YtjigjjbhdgpfjaaDoorMgB723
import Derived.Laws.Slices
import Derived.Test.YtjigjjbhdgpfjaaDoorMgB724
import Derived.Test.YtjigjjbhdgpfjaaDoorMgB721
import Derived.Test.YtjigjjbhdgpfjaaDoorMgB726
import Derived.Test.YtjigjjbhdgpfjaaDoorMgB722
/-
  The walk through the law BidiConditions.
-/
namespace Go.Proofs.YtjigjjbhdgpfjaaDoor
open Go.RowKit ND

theorem ruleL_range (T : Tab) (l : List Int) : 0 ≤ ruleL T l ∧ ruleL T l ≤ 6 := by
  cases l with
  | nil => exact ⟨Int.le_refl _, by unfold ruleL; simp⟩
  | cons c r =>
    unfold ruleL
    simp only
    repeat' split
    all_goals omega
/-- What a label that violates no condition satisfies. -/
theorem cond_of {T : Tab} {c : Int} {r x : List Int} (he : x = c :: r) (hr : ruleL T x = 0) (hx : accE T x = 0) :
    (T.bidiOf c = 0 ∧ (∀ d ∈ x, T.bidiOf d ≠ 11 ∧ T.bidiOf d ≠ 1 ∧ T.bidiOf d ≠ 2 ∧ T.bidiOf d ≠ 3) ∧ rtlR T x = false) ∨
    ((T.bidiOf c = 1 ∨ T.bidiOf c = 2) ∧ (∀ d ∈ x, T.bidiOf d ≠ 11 ∧ T.bidiOf d ≠ 0) ∧ ¬ (anyB T x [4] = true ∧ anyB T x [3] = true) ∧ rtlR T x = true) := by
  subst he
  have hn : ∀ ks, anyB T (c :: r) ks = false → ∀ d ∈ c :: r, ∀ k ∈ ks, T.bidiOf d ≠ k := by
    intro ks h d hd k hk e
    exact List.any_eq_false.1 h d hd (List.any_eq_true.2 ⟨k, hk, by simp [e]⟩)
  have hrt : rtlR T (c :: r) = anyB T (c :: r) [1, 2, 3] := by unfold rtlR; rw [hx]; rfl
  rw [hrt]
  unfold ruleL at hr
  simp only at hr
  split at hr
  · rename_i h1
    refine .inr ⟨h1, ?_⟩
    split at hr
    · omega
    · rename_i h2
      split at hr
      · omega
      · split at hr
        · omega
        · rename_i h4
          have h2' : anyB T (c :: r) [0, 11] = false := by simpa using h2
          refine ⟨fun d hd => ⟨hn _ h2' d hd 11 (by simp), hn _ h2' d hd 0 (by simp)⟩, h4, ?_⟩
          unfold anyB
          rw [List.any_cons]
          rcases h1 with h | h <;> simp [h]
  · split at hr
    · rename_i h2
      refine .inl ⟨h2, ?_⟩
      split at hr
      · omega
      · rename_i h3
        have h3' : anyB T (c :: r) [1, 2, 3, 11] = false := by simpa using h3
        refine ⟨fun d hd => ⟨hn _ h3' d hd 11 (by simp), hn _ h3' d hd 1 (by simp), hn _ h3' d hd 2 (by simp), hn _ h3' d hd 3 (by simp)⟩, ?_⟩
        unfold anyB
        rw [List.any_eq_false]
        intro d hd
        simp [hn _ h3' d hd 1 (by simp), hn _ h3' d hd 2 (by simp), hn _ h3' d hd 3 (by simp)]
    · omega
theorem any_take {T : Tab} {x : List Int} {k : Nat} {d : Int} (hd : x[k]? = some d) (v : Int) : anyB T (x.take (k + 1)) [v] = (anyB T (x.take k) [v] || T.bidiOf d == v) := by
  unfold anyB
  rw [take_any hd]
  simp only [List.any_cons, List.any_nil, Bool.or_false]

set_option maxRecDepth 100000 in
set_option maxHeartbeats 8000000 in
theorem BidiConditions_go (W : World) (hg : Glob W) (v : Value) (xs : List Int) (hv : Ints W W.heap.size .i64 v xs) (va : Value) (as_ : List Int) (hva : Ints W W.heap.size .i64 va as_) :
    Calls Tryd.prog 5 #[v, va] W fun e W' => e = .returned (.bool true) ∧ Below W.heap.size W W' := by
  have HG := Lib.hid hg
  have HA := Lib.hid hva
  obtain ⟨Ax, cx, rfl, _⟩ := id hv
  obtain ⟨Aa, ca, rfl, _⟩ := id hva
  have HT := Lib.hid (keepTables_any W _ xs hv)
  clear hv hg hva
  go_enter Tryd.func5, Tryd.ntmps5
  go_upto_region 2 with (go_at_call 10; refine HT.out.mono ?_; rintro e w1 ⟨t, T, rfl, ht1, hm1, hb1⟩; obtain ⟨A0, A1, A2, A3, A4, A5, A6, A7, A8, A9, A10, A11, k0, k1, k2, k3, k4, k5, k6, k7, k8, k9, k10, k11, rfl⟩ := ht1.shape; have HT1 := Lib.hid ht1; have HB1 := Lib.hid hb1; have HM1 := Lib.hid hm1; clear ht1 hb1 hm1)
  obtain ⟨t, ht, htb⟩ := Tbl.new HT1.out
  have HT2 := Lib.hid htb
  have HB2 := Lib.hid (HB1.out.alloc HB1.out.size (.cells #[.slice A0 T.category.length k0, .slice A1 T.cls.length k1, .slice A2 T.joining.length k2, .slice A3 T.bidi.length k3, .slice A4 T.script.length k4, .slice A5 T.status.length k5, .slice A6 T.ignorable.length k6, .slice A7 T.extensions.length k7, .slice A8 T.maps.length k8, .slice A9 T.decomps.length k9, .slice A10 T.excluded.length k10, .slice A11 T.prototypes.length k11] 26))
  clear htb HT1 HT
  generalize w1.alloc (.cells #[.slice A0 T.category.length k0, .slice A1 T.cls.length k1, .slice A2 T.joining.length k2, .slice A3 T.bidi.length k3, .slice A4 T.script.length k4, .slice A5 T.status.length k5, .slice A6 T.ignorable.length k6, .slice A7 T.extensions.length k7, .slice A8 T.maps.length k8, .slice A9 T.decomps.length k9, .slice A10 T.excluded.length k10, .slice A11 T.prototypes.length k11] 26) = w2 at *
  generalize w1.heap.size = tb at *
  clear ht
  have hck := HM1.out.check
  have HSH := Lib.hid (shape_of hck)
  have HG2 := Lib.hid (HG.out.later HB2.out)
  have HA2 := Lib.hid (HA.out.later HB2.out)
  clear HG HA HM1
  go_upto_region 3 with (go_at_call 21; refine (mixed_any _ (.slice Aa as_.length ca) as_ HA2.out).mono ?_; rintro e w3 ⟨u3, x, rfl, ho3, hl3, hm3, b3, _⟩; obtain ⟨A3, c3, rfl, _⟩ := id (Ints.of_own ho3); have HX3 := Lib.hid (Ints.of_own ho3); have HS := Lib.hid (mixed_scal hm3); have B3 := Lib.hid b3; clear ho3 hm3 b3 HA2)
  have HT3 := Lib.hid (HT2.out.later B3.out)
  have HG3 := Lib.hid (HG2.out.later B3.out)
  have HB3 := Lib.hid (below_next HB2.out B3.out)
  have HA0 := Lib.hid (accE_ok hck (by omega) HS.out)
  clear HT2 HG2 HB2 B3 hck HS
  obtain ⟨rl, hrl⟩ : ∃ rl, ruleL T x = rl := ⟨_, rfl⟩
  have HU := Lib.hid (rule_ok16 HT3.out.2 HG3.out HX3.out HA0.out hrl)
  obtain ⟨r0, r6⟩ := ruleL_range T x
  rw [hrl] at r0 r6
  have HRL := Lib.hid hrl
  clear hrl
  by_cases hx0 : x.length = 0
  · have hz : rl = 0 := by rw [← HRL.out, List.eq_nil_of_length_eq_zero hx0]; rfl
    subst hz
    have hq : ((x.length : Int) == 0) = true := by rw [hx0]; rfl
    clear hx0 r0 r6
    obtain ⟨x0, x1, x2, x3, x4, x5, x6, x7, x8, x9, x10, x11⟩ := HT3.out.1.tab
    go_wp2_with (first
      | (go_at_call 22; refine HU.out.mono ?_; rintro e w4 ⟨rfl, b4⟩; have B4 := Lib.hid b4; clear b4 HU)
      | (go_at_call 23; refine (awake16 _ (HG3.out.later B4.out)).mono ?_; rintro e w5 ⟨rfl, b5⟩))
    go_ret
    exact ⟨rfl, below_next HB3.out (below_next B4.out b5)⟩
  · have hq : ((x.length : Int) == 0) = false := by simpa using (by omega : ¬ (x.length : Int) = 0)
    by_cases hr : rl = 0
    · subst hr
      obtain ⟨c, r, hxe⟩ : ∃ c r, x = c :: r := by
        cases x with
        | nil => exact absurd rfl hx0
        | cons c r => exact ⟨c, r, rfl⟩
      have HF := Lib.hid (cond_of hxe HRL.out HA0.out)
      obtain ⟨ad, rfl, ha, hce⟩ : ∃ ad, A3 = some ad ∧ ad.block < w3.heap.size ∧ w3.cell? ad = some (.int .i64 c) := by
        obtain ⟨_, _, hve, _, _, _, hcell⟩ := HX3.out
        cases hve
        obtain ⟨ad, e, ha, hc⟩ := hcell 0 c (by rw [hxe]; rfl)
        exact ⟨ad, e, ha, by simpa [Addr.add] using hc⟩
      have hpos : (0 : Int) < (x.length : Int) := by omega
      clear hx0 r0 r6 hxe
      obtain ⟨x0, x1, x2, x3, x4, x5, x6, x7, x8, x9, x10, x11⟩ := HT3.out.1.tab
      go_upto_region 4 with (go_at_call 22; refine HU.out.mono ?_; rintro e w4 ⟨rfl, b4⟩; have B4 := Lib.hid b4; clear b4 HU)
      clear x0 x1 x2 x3 x4 x5 x6 x7 x8 x9 x10 x11
      have HT4 := Lib.hid (HT3.out.later B4.out)
      go_upto_region 8 with fail
      have e1 := cell_regrown ((B4.out.cell (p := ad) ha).trans hce)
      have HC4 : Hid (∀ (V : World), Below w4.heap.size w4 V → Calls Tryd.prog 24 #[.agg #[t.c0, t.c1, t.c2, t.c3, t.c4, t.c5, t.c6, t.c7, t.c8, t.c9, t.c10, t.c11], .int .i64 c] V fun e V' => e = .returned (.int .i64 (T.bidiOf c)) ∧ Below V.heap.size V V') := Lib.hid fun V hV => refBidi_any t T c V (HT4.out.later hV).2 HSH.out.c3
      clear hce ha
      generalize T.bidiOf c = f at *
      obtain ⟨x0, x1, x2, x3, x4, x5, x6, x7, x8, x9, x10, x11⟩ := HT4.out.1.tabG
      refine wp_region_quiet_below (by kernel_rfl) (by kernel_rfl) ?_
      repeat (go_big_quiet_step (first | (go_at_call 24; with_reducible exact quiet_t HC4.out)))
      refine wpQuiet_nil ?_
      rintro _ ⟨⟨dq, osq⟩, rfl⟩
      have bq := below_regrown w4 dq osq
      clear x0 x1 x2 x3 x4 x5 x6 x7 x8 x9 x10 x11 e1 HC4
      have B5 := Lib.hid (below_next B4.out bq)
      generalize Go.Sort.grow (redrawn w4 dq) osq = w5 at *
      have HT5 := Lib.hid (HT3.out.later B5.out)
      have HG5 := Lib.hid (HG3.out.later B5.out)
      have HX5 := Lib.hid (HX3.out.later B5.out)
      have HB5 := Lib.hid (below_next HB3.out B5.out)
      clear bq HT3 HT4 HG3 HX3 HB3 B4 B5 HRL HA0
      rcases HF.out with ⟨rfl, hn, hrr⟩ | ⟨rfl | rfl, hn, hna, hrr⟩
      · have HN := Lib.hid hn
        have HRR := Lib.hid hrr
        clear hn hrr HF
        go_wp2_with fail
        go_loopw [68, 10, 11] (fun si s10 s11 wr => ∃ (k : Nat) (en an : Bool), k ≤ x.length ∧ si = .int .i64 k ∧ s10 = .bool en ∧ s11 = .bool an ∧ Hid (anyB T (x.take k) [4] = en ∧ anyB T (x.take k) [3] = an) ∧ Hid (Below w5.heap.size w5 wr)) (fun si _ _ _ => x.length - (intOf si).toNat)
        case atStart => exact ⟨0, false, false, by omega, rfl, rfl, rfl, Lib.hid ⟨rfl, rfl⟩, Lib.hid (Below.refl _ _)⟩
        case round =>
          obtain ⟨k, en, an, hk, rfl, rfl, rfl, HS, HBr⟩ := hrel
          have HTr := Lib.hid (HT5.out.later HBr.out)
          by_cases hlt : k < x.length
          · obtain ⟨d, hd, hdm⟩ := get_of hlt
            obtain ⟨_, _, hve, _, _, _, hcell⟩ := HX5.out
            cases hve
            obtain ⟨ad2, hae, ha, hce⟩ := hcell k d hd
            cases hae
            have e1 := (HBr.out.cell (p := ad.add k) (by rw [block_of_add]; exact ha)).trans hce
            have q0 : (0 : Int) ≤ (k : Int) := by omega
            have q1 : (k : Int) < (x.length : Int) := by omega
            have HCd := Lib.hid (refBidi_any t T d wr HTr.out.2 HSH.out.c3)
            have HE4 := Lib.hid ((any_take (T := T) hd 4).trans (by rw [HS.out.1]))
            have HE3 := Lib.hid ((any_take (T := T) hd 3).trans (by rw [HS.out.2]))
            have hn := HN.out d hdm
            clear hcell ha hce hd hdm HS
            generalize T.bidiOf d = q at *
            have k11 : (q == 11) = false := by simpa using hn.1
            have k1 : (q == 1) = false := by simpa using hn.2.1
            have k2 : (q == 2) = false := by simpa using hn.2.2.1
            have k3 : (q == 3) = false := by simpa using hn.2.2.2
            clear hn
            cases en <;> cases an
            · obtain ⟨x0, x1, x2, x3, x4, x5, x6, x7, x8, x9, x10, x11⟩ := HTr.out.1.tab
              go_wp2_with (go_at_call 24; refine HCd.out.mono ?_; rintro e w6 ⟨rfl, b6⟩)
              go_roundw
              case rel => exact ⟨k + 1, _, _, by omega, by go_num, rfl, rfl, Lib.hid ⟨by rw [HE4.out]; first | rfl | simp, by rw [HE3.out]; first | rfl | (rw [k3]; rfl)⟩, Lib.hid (below_next HBr.out b6)⟩
              case measure => simp [intOf]; omega
            · obtain ⟨x0, x1, x2, x3, x4, x5, x6, x7, x8, x9, x10, x11⟩ := HTr.out.1.tab
              go_wp2_with (go_at_call 24; refine HCd.out.mono ?_; rintro e w6 ⟨rfl, b6⟩)
              go_roundw
              case rel => exact ⟨k + 1, _, _, by omega, by go_num, rfl, rfl, Lib.hid ⟨by rw [HE4.out]; first | rfl | simp, by rw [HE3.out]; first | rfl | (rw [k3]; rfl)⟩, Lib.hid (below_next HBr.out b6)⟩
              case measure => simp [intOf]; omega
            · obtain ⟨x0, x1, x2, x3, x4, x5, x6, x7, x8, x9, x10, x11⟩ := HTr.out.1.tab
              go_wp2_with (go_at_call 24; refine HCd.out.mono ?_; rintro e w6 ⟨rfl, b6⟩)
              go_roundw
              case rel => exact ⟨k + 1, _, _, by omega, by go_num, rfl, rfl, Lib.hid ⟨by rw [HE4.out]; first | rfl | simp, by rw [HE3.out]; first | rfl | (rw [k3]; rfl)⟩, Lib.hid (below_next HBr.out b6)⟩
              case measure => simp [intOf]; omega
            · obtain ⟨x0, x1, x2, x3, x4, x5, x6, x7, x8, x9, x10, x11⟩ := HTr.out.1.tab
              go_wp2_with (go_at_call 24; refine HCd.out.mono ?_; rintro e w6 ⟨rfl, b6⟩)
              go_roundw
              case rel => exact ⟨k + 1, _, _, by omega, by go_num, rfl, rfl, Lib.hid ⟨by rw [HE4.out]; first | rfl | simp, by rw [HE3.out]; first | rfl | (rw [k3]; rfl)⟩, Lib.hid (below_next HBr.out b6)⟩
              case measure => simp [intOf]; omega
          · have q1 : ¬ (k : Int) < (x.length : Int) := by omega
            have HRT := Lib.hid (fun W (h : Below wr.heap.size wr W) => rtl_any t T _ x W (HTr.out.later h).2 ((HG5.out.later HBr.out).later h) ((HX5.out.later HBr.out).later h))
            rw [HRR.out] at HRT
            have hs := HS.out
            rw [List.take_of_length_le (by omega)] at hs
            clear HS
            clear hs
            go_wp2_with (first
              | (go_at_call 23; refine (awake16 _ (HG5.out.later HBr.out)).mono ?_; rintro e w9 ⟨rfl, b9⟩; have B9 := Lib.hid b9; clear b9; obtain ⟨x0, x1, x2, x3, x4, x5, x6, x7, x8, x9, x10, x11⟩ := (HTr.out.later B9.out).1.tab)
              | (go_at_call 25; refine (HRT.out _ B9.out).mono ?_; rintro e w10 ⟨rfl, b10⟩))
            go_ret
            exact ⟨rfl, below_next HB5.out (below_next HBr.out (below_next B9.out b10))⟩
      · have HN := Lib.hid hn
        have HRR := Lib.hid hrr
        have HNA := Lib.hid hna
        clear hn hrr hna HF
        go_wp2_with fail
        go_loopw [68, 10, 11] (fun si s10 s11 wr => ∃ (k : Nat) (en an : Bool), k ≤ x.length ∧ si = .int .i64 k ∧ s10 = .bool en ∧ s11 = .bool an ∧ Hid (anyB T (x.take k) [4] = en ∧ anyB T (x.take k) [3] = an) ∧ Hid (Below w5.heap.size w5 wr)) (fun si _ _ _ => x.length - (intOf si).toNat)
        case atStart => exact ⟨0, false, false, by omega, rfl, rfl, rfl, Lib.hid ⟨rfl, rfl⟩, Lib.hid (Below.refl _ _)⟩
        case round =>
          obtain ⟨k, en, an, hk, rfl, rfl, rfl, HS, HBr⟩ := hrel
          have HTr := Lib.hid (HT5.out.later HBr.out)
          by_cases hlt : k < x.length
          · obtain ⟨d, hd, hdm⟩ := get_of hlt
            obtain ⟨_, _, hve, _, _, _, hcell⟩ := HX5.out
            cases hve
            obtain ⟨ad2, hae, ha, hce⟩ := hcell k d hd
            cases hae
            have e1 := (HBr.out.cell (p := ad.add k) (by rw [block_of_add]; exact ha)).trans hce
            have q0 : (0 : Int) ≤ (k : Int) := by omega
            have q1 : (k : Int) < (x.length : Int) := by omega
            have HCd := Lib.hid (refBidi_any t T d wr HTr.out.2 HSH.out.c3)
            have HE4 := Lib.hid ((any_take (T := T) hd 4).trans (by rw [HS.out.1]))
            have HE3 := Lib.hid ((any_take (T := T) hd 3).trans (by rw [HS.out.2]))
            have hn := HN.out d hdm
            clear hcell ha hce hd hdm HS
            generalize T.bidiOf d = q at *
            have k11 : (q == 11) = false := by simpa using hn.1
            have k0 : (q == 0) = false := by simpa using hn.2
            clear hn
            cases en <;> cases an
            · obtain ⟨x0, x1, x2, x3, x4, x5, x6, x7, x8, x9, x10, x11⟩ := HTr.out.1.tab
              go_wp2_with (go_at_call 24; refine HCd.out.mono ?_; rintro e w6 ⟨rfl, b6⟩)
              go_roundw
              case rel => exact ⟨k + 1, _, _, by omega, by go_num, rfl, rfl, Lib.hid ⟨by rw [HE4.out]; first | rfl | simp, by rw [HE3.out]; first | rfl | simp⟩, Lib.hid (below_next HBr.out b6)⟩
              case measure => simp [intOf]; omega
            · obtain ⟨x0, x1, x2, x3, x4, x5, x6, x7, x8, x9, x10, x11⟩ := HTr.out.1.tab
              go_wp2_with (go_at_call 24; refine HCd.out.mono ?_; rintro e w6 ⟨rfl, b6⟩)
              go_roundw
              case rel => exact ⟨k + 1, _, _, by omega, by go_num, rfl, rfl, Lib.hid ⟨by rw [HE4.out]; first | rfl | simp, by rw [HE3.out]; first | rfl | simp⟩, Lib.hid (below_next HBr.out b6)⟩
              case measure => simp [intOf]; omega
            · obtain ⟨x0, x1, x2, x3, x4, x5, x6, x7, x8, x9, x10, x11⟩ := HTr.out.1.tab
              go_wp2_with (go_at_call 24; refine HCd.out.mono ?_; rintro e w6 ⟨rfl, b6⟩)
              go_roundw
              case rel => exact ⟨k + 1, _, _, by omega, by go_num, rfl, rfl, Lib.hid ⟨by rw [HE4.out]; first | rfl | simp, by rw [HE3.out]; first | rfl | simp⟩, Lib.hid (below_next HBr.out b6)⟩
              case measure => simp [intOf]; omega
            · obtain ⟨x0, x1, x2, x3, x4, x5, x6, x7, x8, x9, x10, x11⟩ := HTr.out.1.tab
              go_wp2_with (go_at_call 24; refine HCd.out.mono ?_; rintro e w6 ⟨rfl, b6⟩)
              go_roundw
              case rel => exact ⟨k + 1, _, _, by omega, by go_num, rfl, rfl, Lib.hid ⟨by rw [HE4.out]; first | rfl | simp, by rw [HE3.out]; first | rfl | simp⟩, Lib.hid (below_next HBr.out b6)⟩
              case measure => simp [intOf]; omega
          · have q1 : ¬ (k : Int) < (x.length : Int) := by omega
            have HRT := Lib.hid (fun W (h : Below wr.heap.size wr W) => rtl_any t T _ x W (HTr.out.later h).2 ((HG5.out.later HBr.out).later h) ((HX5.out.later HBr.out).later h))
            rw [HRR.out] at HRT
            have hs := HS.out
            rw [List.take_of_length_le (by omega)] at hs
            clear HS
            have HNn := Lib.hid HNA.out
            rw [hs.1, hs.2] at HNn
            clear hs
            cases en with
            | false =>
              go_wp2_with (first
                | (go_at_call 23; refine (awake16 _ (HG5.out.later HBr.out)).mono ?_; rintro e w9 ⟨rfl, b9⟩; have B9 := Lib.hid b9; clear b9; obtain ⟨x0, x1, x2, x3, x4, x5, x6, x7, x8, x9, x10, x11⟩ := (HTr.out.later B9.out).1.tab)
                | (go_at_call 25; refine (HRT.out _ B9.out).mono ?_; rintro e w10 ⟨rfl, b10⟩))
              go_ret
              exact ⟨rfl, below_next HB5.out (below_next HBr.out (below_next B9.out b10))⟩
            | true =>
              cases an with
              | false =>
                go_wp2_with (first
                  | (go_at_call 23; refine (awake16 _ (HG5.out.later HBr.out)).mono ?_; rintro e w9 ⟨rfl, b9⟩; have B9 := Lib.hid b9; clear b9; obtain ⟨x0, x1, x2, x3, x4, x5, x6, x7, x8, x9, x10, x11⟩ := (HTr.out.later B9.out).1.tab)
                  | (go_at_call 25; refine (HRT.out _ B9.out).mono ?_; rintro e w10 ⟨rfl, b10⟩))
                go_ret
                exact ⟨rfl, below_next HB5.out (below_next HBr.out (below_next B9.out b10))⟩
              | true => exact absurd ⟨rfl, rfl⟩ HNn.out
      · have HN := Lib.hid hn
        have HRR := Lib.hid hrr
        have HNA := Lib.hid hna
        clear hn hrr hna HF
        go_wp2_with fail
        go_loopw [68, 10, 11] (fun si s10 s11 wr => ∃ (k : Nat) (en an : Bool), k ≤ x.length ∧ si = .int .i64 k ∧ s10 = .bool en ∧ s11 = .bool an ∧ Hid (anyB T (x.take k) [4] = en ∧ anyB T (x.take k) [3] = an) ∧ Hid (Below w5.heap.size w5 wr)) (fun si _ _ _ => x.length - (intOf si).toNat)
        case atStart => exact ⟨0, false, false, by omega, rfl, rfl, rfl, Lib.hid ⟨rfl, rfl⟩, Lib.hid (Below.refl _ _)⟩
        case round =>
          obtain ⟨k, en, an, hk, rfl, rfl, rfl, HS, HBr⟩ := hrel
          have HTr := Lib.hid (HT5.out.later HBr.out)
          by_cases hlt : k < x.length
          · obtain ⟨d, hd, hdm⟩ := get_of hlt
            obtain ⟨_, _, hve, _, _, _, hcell⟩ := HX5.out
            cases hve
            obtain ⟨ad2, hae, ha, hce⟩ := hcell k d hd
            cases hae
            have e1 := (HBr.out.cell (p := ad.add k) (by rw [block_of_add]; exact ha)).trans hce
            have q0 : (0 : Int) ≤ (k : Int) := by omega
            have q1 : (k : Int) < (x.length : Int) := by omega
            have HCd := Lib.hid (refBidi_any t T d wr HTr.out.2 HSH.out.c3)
            have HE4 := Lib.hid ((any_take (T := T) hd 4).trans (by rw [HS.out.1]))
            have HE3 := Lib.hid ((any_take (T := T) hd 3).trans (by rw [HS.out.2]))
            have hn := HN.out d hdm
            clear hcell ha hce hd hdm HS
            generalize T.bidiOf d = q at *
            have k11 : (q == 11) = false := by simpa using hn.1
            have k0 : (q == 0) = false := by simpa using hn.2
            clear hn
            cases en <;> cases an
            · obtain ⟨x0, x1, x2, x3, x4, x5, x6, x7, x8, x9, x10, x11⟩ := HTr.out.1.tab
              go_wp2_with (go_at_call 24; refine HCd.out.mono ?_; rintro e w6 ⟨rfl, b6⟩)
              go_roundw
              case rel => exact ⟨k + 1, _, _, by omega, by go_num, rfl, rfl, Lib.hid ⟨by rw [HE4.out]; first | rfl | simp, by rw [HE3.out]; first | rfl | simp⟩, Lib.hid (below_next HBr.out b6)⟩
              case measure => simp [intOf]; omega
            · obtain ⟨x0, x1, x2, x3, x4, x5, x6, x7, x8, x9, x10, x11⟩ := HTr.out.1.tab
              go_wp2_with (go_at_call 24; refine HCd.out.mono ?_; rintro e w6 ⟨rfl, b6⟩)
              go_roundw
              case rel => exact ⟨k + 1, _, _, by omega, by go_num, rfl, rfl, Lib.hid ⟨by rw [HE4.out]; first | rfl | simp, by rw [HE3.out]; first | rfl | simp⟩, Lib.hid (below_next HBr.out b6)⟩
              case measure => simp [intOf]; omega
            · obtain ⟨x0, x1, x2, x3, x4, x5, x6, x7, x8, x9, x10, x11⟩ := HTr.out.1.tab
              go_wp2_with (go_at_call 24; refine HCd.out.mono ?_; rintro e w6 ⟨rfl, b6⟩)
              go_roundw
              case rel => exact ⟨k + 1, _, _, by omega, by go_num, rfl, rfl, Lib.hid ⟨by rw [HE4.out]; first | rfl | simp, by rw [HE3.out]; first | rfl | simp⟩, Lib.hid (below_next HBr.out b6)⟩
              case measure => simp [intOf]; omega
            · obtain ⟨x0, x1, x2, x3, x4, x5, x6, x7, x8, x9, x10, x11⟩ := HTr.out.1.tab
              go_wp2_with (go_at_call 24; refine HCd.out.mono ?_; rintro e w6 ⟨rfl, b6⟩)
              go_roundw
              case rel => exact ⟨k + 1, _, _, by omega, by go_num, rfl, rfl, Lib.hid ⟨by rw [HE4.out]; first | rfl | simp, by rw [HE3.out]; first | rfl | simp⟩, Lib.hid (below_next HBr.out b6)⟩
              case measure => simp [intOf]; omega
          · have q1 : ¬ (k : Int) < (x.length : Int) := by omega
            have HRT := Lib.hid (fun W (h : Below wr.heap.size wr W) => rtl_any t T _ x W (HTr.out.later h).2 ((HG5.out.later HBr.out).later h) ((HX5.out.later HBr.out).later h))
            rw [HRR.out] at HRT
            have hs := HS.out
            rw [List.take_of_length_le (by omega)] at hs
            clear HS
            have HNn := Lib.hid HNA.out
            rw [hs.1, hs.2] at HNn
            clear hs
            cases en with
            | false =>
              go_wp2_with (first
                | (go_at_call 23; refine (awake16 _ (HG5.out.later HBr.out)).mono ?_; rintro e w9 ⟨rfl, b9⟩; have B9 := Lib.hid b9; clear b9; obtain ⟨x0, x1, x2, x3, x4, x5, x6, x7, x8, x9, x10, x11⟩ := (HTr.out.later B9.out).1.tab)
                | (go_at_call 25; refine (HRT.out _ B9.out).mono ?_; rintro e w10 ⟨rfl, b10⟩))
              go_ret
              exact ⟨rfl, below_next HB5.out (below_next HBr.out (below_next B9.out b10))⟩
            | true =>
              cases an with
              | false =>
                go_wp2_with (first
                  | (go_at_call 23; refine (awake16 _ (HG5.out.later HBr.out)).mono ?_; rintro e w9 ⟨rfl, b9⟩; have B9 := Lib.hid b9; clear b9; obtain ⟨x0, x1, x2, x3, x4, x5, x6, x7, x8, x9, x10, x11⟩ := (HTr.out.later B9.out).1.tab)
                  | (go_at_call 25; refine (HRT.out _ B9.out).mono ?_; rintro e w10 ⟨rfl, b10⟩))
                go_ret
                exact ⟨rfl, below_next HB5.out (below_next HBr.out (below_next B9.out b10))⟩
              | true => exact absurd ⟨rfl, rfl⟩ HNn.out
    · have hz : (rl == 0) = false := by simpa using hr
      have hp : 0 < rl := by omega
      have h0 : ¬ rl < 0 := by omega
      have h6 : ¬ 6 < rl := by omega
      clear hr r0 r6
      obtain ⟨x0, x1, x2, x3, x4, x5, x6, x7, x8, x9, x10, x11⟩ := HT3.out.1.tab
      go_wp2_with (first
        | (go_at_call 22; refine HU.out.mono ?_; rintro e w4 ⟨rfl, b4⟩; have B4 := Lib.hid b4; clear b4 HU)
        | (go_at_call 23; refine (awake16 _ (HG3.out.later B4.out)).mono ?_; rintro e w5 ⟨rfl, b5⟩))
      go_ret
      exact ⟨rfl, below_next HB3.out (below_next B4.out b5)⟩
theorem BidiConditions_walk (W : World) (hg : Glob W) (v : Value) (xs : List Int) (hv : Ints W W.heap.size .i64 v xs) (_ : ∀ x ∈ xs, -9223372036854775808 ≤ x ∧ x ≤ 9223372036854775807) (_ : xs.length * 8 ≤ 140737488351232) (va : Value) (as_ : List Int) (hva : Ints W W.heap.size .i64 va as_) (_ : ∀ x ∈ as_, -9223372036854775808 ≤ x ∧ x ≤ 9223372036854775807) (_ : as_.length * 8 ≤ 140737488351232) :
    Calls Tryd.prog 5 #[v, va] W fun e W' => e = .returned (.bool true) ∧ Below W.heap.size W W' := BidiConditions_go W hg v xs hv va as_ hva
end Go.Proofs.YtjigjjbhdgpfjaaDoor
/-
  A part of a slice of integers: what it reads as, and the obligation of the operation in a drawn region.
-/
namespace Go.Proofs.YtjigjjbhdgpfjaaDoor
open Go.RowKit

/-- The value of v[l:h]. -/
def partV (A : Option Addr) (l h c : Nat) : Value := .slice (if c = l then A else A.map (·.add (l * 1))) (h - l) (c - l)
theorem ints_part {w : World} {B : Nat} {k : IntKind} {A : Option Addr} {c : Nat} {xs : List Int} {n l h : Nat} (hi : Ints w B k (.slice A n c) xs) (hl : l ≤ h) (hh : h ≤ xs.length) : Ints w B k (partV A l h c) ((xs.take h).drop l) := by
  obtain ⟨A', c', e, h1, h2, h3, h4⟩ := hi
  cases e
  have hn : ((xs.take h).drop l).length = h - l := by rw [List.length_drop, List.length_take, Nat.min_eq_left hh]
  refine ⟨_, _, by unfold partV; rw [hn], by omega, by omega, fun h0 => ?_, fun i x hx => ?_⟩
  · split at h0
    · omega
    · cases A with
      | none => have := h3 rfl; omega
      | some a => cases h0
  · rw [List.getElem?_drop, List.getElem?_take] at hx
    split at hx
    · rename_i hlt
      obtain ⟨ad, rfl, hb, hc⟩ := h4 (l + i) x hx
      have := (List.getElem?_eq_some_iff.1 hx).1
      rw [if_neg (by omega)]
      refine ⟨ad.add (l * 1), rfl, by rw [block_of_add]; exact hb, ?_⟩
      rw [Go.Deep.add_add, Nat.mul_one]; exact hc
    · cases hx
section
variable {o : Oper} {a : Act} {w : World} {K : Act → World → Prop} {Q : Exit → Act → World → Prop} {x y : Operand} {A : Option Addr} {n c : Nat} {k : Int}
theorem run_int1 (w : World) : (sizeOf (Tryd.prog.elem 22)).run Tryd.prog w = .ok 1 w := by kernel_rfl
theorem ob_slice_h (ho : o.op = .slice 22 x none (some y) none) (hx : a.eval x = .slice A n c) (hy : a.eval y = .int .i64 k) (h0 : 0 ≤ k) (h1 : k ≤ c) (h : K (a.put o.dst (partV A 0 k.toNat c)) w) : o.wp Tryd.prog a w K Q := by
  have hu : Tryd.prog.underlying 22 = some (.slice (Tryd.prog.elem 22)) := by kernel_rfl
  have hr : (Instr.sliceAt 22 (.slice A n c) none (some (.int .i64 k)) none).run Tryd.prog w = .ok (partV A 0 k.toNat c) w := by
    rw [run_sliceAt_slice (h := hu), run_slice_h (ht := hu) (h0 := h0) (h2 := h1), run_int1]; rfl
  unfold Oper.wp execOp
  rw [ho]
  simp only [hx, hy, Option.map_none, Option.map_some, Sem.run_bind, hr, Result.andThen_ok, Sem.run_pure]
  exact h
theorem ob_slice_l (ho : o.op = .slice 22 x (some y) none none) (hx : a.eval x = .slice A n c) (hy : a.eval y = .int .i64 k) (h0 : 0 ≤ k) (h1 : k ≤ n) (h : K (a.put o.dst (partV A k.toNat n c)) w) : o.wp Tryd.prog a w K Q := by
  have hu : Tryd.prog.underlying 22 = some (.slice (Tryd.prog.elem 22)) := by kernel_rfl
  have hr : (Instr.sliceAt 22 (.slice A n c) (some (.int .i64 k)) none none).run Tryd.prog w = .ok (partV A k.toNat n c) w := by
    rw [run_sliceAt_slice (h := hu), run_slice_l (ht := hu) (h0 := h0) (h1 := h1), run_int1]; rfl
  unfold Oper.wp execOp
  rw [ho]
  simp only [hx, hy, Option.map_none, Option.map_some, Sem.run_bind, hr, Result.andThen_ok, Sem.run_pure]
  exact h
end
end Go.Proofs.YtjigjjbhdgpfjaaDoor
/-
  Whether two sequences have the same normalization form D.
-/
namespace Go.Proofs.YtjigjjbhdgpfjaaDoor
open Go.RowKit ND

/-- What Equivalent hands back. -/
def equivR (T : Tab) (a b : List Int) : Bool × Int :=
  if (nfdR T (accE T a) a).2 ≠ 0 then (false, (nfdR T (accE T a) a).2) else if (nfdR T (accE T b) b).2 ≠ 0 then (false, (nfdR T (accE T b) b).2) else (decide ((nfdR T (accE T a) a).1 = (nfdR T (accE T b) b).1), 0)
end Go.Proofs.YtjigjjbhdgpfjaaDoor
/-
  The walk through decompose.Equivalent.
-/
namespace Go.Proofs.YtjigjjbhdgpfjaaDoor
open Go.RowKit ND

set_option maxRecDepth 100000 in
set_option maxHeartbeats 2000000 in
theorem equiv7_any (t : Tv) (T : Tab) (v : Value) (xs : List Int) (u : Value) (us : List Int) (w : World) (ht : TabR w w.heap.size t T) (hg : Glob w) (hv : Ints w w.heap.size .i64 v xs) (hu : Ints w w.heap.size .i64 u us) :
    Calls Tryd.prog 27 #[t.val, v, u] w fun e w' => e = .returned (.tuple #[.bool (equivR T xs us).1, .int .i64 (equivR T xs us).2]) ∧ Below w.heap.size w w' := by
  obtain ⟨A, c, rfl, _⟩ := id hv
  obtain ⟨A', c', rfl, _⟩ := id hu
  have HB0 : Hid (Below w.heap.size w (w.alloc (.cells t.cells 26))) := Lib.hid ((Below.refl _ _).alloc (Nat.le_refl _) _)
  have HT : Hid (Tbl (w.alloc (.cells t.cells 26)) w.heap.size t T) := Lib.hid ⟨Blk.new _ _ _, ht.later HB0.out⟩
  have HV := Lib.hid (hv.later HB0.out)
  have HU := Lib.hid (hu.later HB0.out)
  have HG := Lib.hid (hg.later HB0.out)
  clear ht hv hu hg
  have H1 := Lib.hid (fun W (h : Below (w.alloc (.cells t.cells 26)).heap.size (w.alloc (.cells t.cells 26)) W) hi => nfd7_any t T (.slice A xs.length c) xs W (HT.out.later h).2 (HG.out.later h) hi)
  have H2 := Lib.hid (fun W (h : Below (w.alloc (.cells t.cells 26)).heap.size (w.alloc (.cells t.cells 26)) W) hi => nfd7_any t T (.slice A' us.length c') us W (HT.out.later h).2 (HG.out.later h) hi)
  unfold equivR
  obtain ⟨y1, e1, h1⟩ : ∃ ys er, nfdR T (accE T xs) xs = (ys, er) := ⟨_, _, rfl⟩
  obtain ⟨y2, e2, h2⟩ : ∃ ys er, nfdR T (accE T us) us = (ys, er) := ⟨_, _, rfl⟩
  rw [h1] at H1
  rw [h2] at H2
  rw [h1, h2]
  clear h1 h2
  show Calls _ _ _ _ fun e w' => e = .returned (.tuple #[.bool (if e1 ≠ 0 then (false, e1) else if e2 ≠ 0 then (false, e2) else (decide (y1 = y2), 0)).1, .int .i64 (if e1 ≠ 0 then (false, e1) else if e2 ≠ 0 then (false, e2) else (decide (y1 = y2), 0)).2]) ∧ _
  by_cases z1 : e1 = 0
  · subst z1
    by_cases z2 : e2 = 0
    · subst z2
      obtain ⟨R, hR⟩ : ∃ R, R = decide (y1 = y2) := ⟨_, rfl⟩
      have HR := Lib.hid hR
      rw [← hR]
      clear hR
      go_enter Tryd.func27, Tryd.ntmps27
      go_upto_region 1 with fail
      generalize w.alloc (.cells t.cells 26) = w1 at *
      obtain ⟨x0, x1, x2, x3, x4, x5, x6, x7, x8, x9, x10, x11⟩ := HT.out.1.tab
      go_upto_region 4 with (go_at_call 15; refine (H1.out _ (Below.refl _ _) HV.out).mono ?_; rintro e w2 ⟨u2, rfl, ho2, b2⟩; obtain ⟨A2, c2, rfl, _⟩ := id (Ints.of_own ho2); have HI2 := Lib.hid (Ints.of_own ho2); clear ho2)
      clear x0 x1 x2 x3 x4 x5 x6 x7 x8 x9 x10 x11
      obtain ⟨x0, x1, x2, x3, x4, x5, x6, x7, x8, x9, x10, x11⟩ := (HT.out.later b2).1.tab
      go_upto_region 7 with (go_at_call 15; refine (H2.out _ b2 (HU.out.later b2)).mono ?_; rintro e w3 ⟨u3, rfl, ho3, b3⟩; obtain ⟨A3, c3, rfl, _⟩ := id (Ints.of_own ho3); have HI3 := Lib.hid (Ints.of_own ho3); clear ho3)
      clear x0 x1 x2 x3 x4 x5 x6 x7 x8 x9 x10 x11
      have HEQ : Hid (Calls Tryd.prog 47 #[.slice A2 y1.length c2, .slice A3 y2.length c3] w3 fun e V' => e = .returned (.bool R) ∧ Below w3.heap.size w3 V') := Lib.hid (by
        have h := equal_any _ _ y1 y2 w3 (HI2.out.later b3) HI3.out
        rw [← HR.out] at h; exact h)
      go_wp2_with (go_at_call 47; refine HEQ.out.mono ?_; rintro e w4 ⟨rfl, b4⟩)
      go_ret2
      exact ⟨rfl, below_next (below_next (below_next HB0.out b2) b3) b4⟩
    · have hb : (e2 != 0) = true := by simpa using z2
      have HE : Hid ((if (0 : Int) ≠ 0 then (false, (0 : Int)) else if e2 ≠ 0 then (false, e2) else (decide (y1 = y2), 0)) = (false, e2)) := Lib.hid (by rw [if_neg (by omega), if_pos z2])
      rw [HE.out]
      clear z2
      go_enter Tryd.func27, Tryd.ntmps27
      go_upto_region 1 with fail
      generalize w.alloc (.cells t.cells 26) = w1 at *
      obtain ⟨x0, x1, x2, x3, x4, x5, x6, x7, x8, x9, x10, x11⟩ := HT.out.1.tab
      go_upto_region 4 with (go_at_call 15; refine (H1.out _ (Below.refl _ _) HV.out).mono ?_; rintro e w2 ⟨u2, rfl, ho2, b2⟩; obtain ⟨A2, c2, rfl, _⟩ := id (Ints.of_own ho2); clear ho2)
      clear x0 x1 x2 x3 x4 x5 x6 x7 x8 x9 x10 x11
      obtain ⟨x0, x1, x2, x3, x4, x5, x6, x7, x8, x9, x10, x11⟩ := (HT.out.later b2).1.tab
      go_wp2_with (go_at_call 15; refine (H2.out _ b2 (HU.out.later b2)).mono ?_; rintro e w3 ⟨u3, rfl, ho3, b3⟩; obtain ⟨A3, c3, rfl, _⟩ := id (Ints.of_own ho3); clear ho3)
      go_ret2
      exact ⟨rfl, below_next (below_next HB0.out b2) b3⟩
  · have hb : (e1 != 0) = true := by simpa using z1
    have HE : Hid ((if e1 ≠ 0 then (false, e1) else if e2 ≠ 0 then (false, e2) else (decide (y1 = y2), 0)) = (false, e1)) := Lib.hid (by rw [if_pos z1])
    rw [HE.out]
    clear z1
    go_enter Tryd.func27, Tryd.ntmps27
    go_upto_region 1 with fail
    generalize w.alloc (.cells t.cells 26) = w1 at *
    obtain ⟨x0, x1, x2, x3, x4, x5, x6, x7, x8, x9, x10, x11⟩ := HT.out.1.tab
    go_wp2_with (go_at_call 15; refine (H1.out _ (Below.refl _ _) HV.out).mono ?_; rintro e w2 ⟨u2, rfl, ho2, b2⟩; obtain ⟨A2, c2, rfl, _⟩ := id (Ints.of_own ho2); clear ho2)
    go_ret2
    exact ⟨rfl, below_next HB0.out b2⟩

end Go.Proofs.YtjigjjbhdgpfjaaDoor
