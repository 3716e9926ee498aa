/-
  Merged texts: lemmas and walks that the last text of this claim leans on.
-/
import Derived.Test.YtecpbicfiaifdaaGreatDoorMgB715
import Derived.Test.YtecpbicfiaifdaaGreatDoorMgB735
import Derived.Test.YtecpbicfiaifdaaGreatDoorMgB736
import Derived.Test.YtecpbicfiaifdaaGreatDoorMgB737
/-
  The walk through the law ConfuseTwins.
-/
namespace Go.Proofs.YtecpbicfiaifdaaGreatDoor
open Go.RowKit ND

set_option maxRecDepth 100000 in
set_option maxHeartbeats 8000000 in
theorem ConfuseTwins_go (W : World) (hg : Glob W) (v : Value) (xs : List Int) (hv : Ints W W.heap.size .i64 v xs) (vm : Value) (ms : List Int) (hvm : Ints W W.heap.size .i64 vm ms) :
    Calls Tryz.prog 6 #[v, vm] W fun e W' => e = .returned (.bool true) ∧ Below W.heap.size W W' := by
  have HG := Lib.hid hg
  have HM := Lib.hid hvm
  obtain ⟨Ax, cx, rfl, _⟩ := id hv
  obtain ⟨Am, cm, rfl, _⟩ := id hvm
  have HT := Lib.hid (keepTables_any W _ xs hv)
  clear hv hg hvm
  go_enter Tryz.func6, Tryz.ntmps6
  go_upto_region 2 with (go_at_call 12; refine HT.out.mono ?_; rintro e w1 ⟨t, T, rfl, ht1, hm1, hb1⟩; obtain ⟨A0, A1, A2, A3, A4, A5, A6, A7, A8, A9, A10, A11, k0, k1, k2, k3, k4, k5, k6, k7, k8, k9, k10, k11, rfl⟩ := ht1.shape; have HT1 := Lib.hid ht1; have HB1 := Lib.hid hb1; have HM1 := Lib.hid hm1; clear ht1 hb1 hm1)
  obtain ⟨t, ht, htb⟩ := Tbl.new HT1.out
  have HT2 := Lib.hid htb
  have HB2 := Lib.hid (HB1.out.alloc HB1.out.size (.cells #[.slice A0 T.category.length k0, .slice A1 T.cls.length k1, .slice A2 T.joining.length k2, .slice A3 T.bidi.length k3, .slice A4 T.script.length k4, .slice A5 T.status.length k5, .slice A6 T.ignorable.length k6, .slice A7 T.extensions.length k7, .slice A8 T.maps.length k8, .slice A9 T.decomps.length k9, .slice A10 T.excluded.length k10, .slice A11 T.prototypes.length k11] 26))
  clear htb HT1 HT
  generalize w1.alloc (.cells #[.slice A0 T.category.length k0, .slice A1 T.cls.length k1, .slice A2 T.joining.length k2, .slice A3 T.bidi.length k3, .slice A4 T.script.length k4, .slice A5 T.status.length k5, .slice A6 T.ignorable.length k6, .slice A7 T.extensions.length k7, .slice A8 T.maps.length k8, .slice A9 T.decomps.length k9, .slice A10 T.excluded.length k10, .slice A11 T.prototypes.length k11] 26) = w2 at *
  generalize w1.heap.size = tb at *
  clear ht
  have hck := HM1.out.check
  have HG2 := Lib.hid (HG.out.later HB2.out)
  have HM2 := Lib.hid (HM.out.later HB2.out)
  clear HG HM HM1
  go_upto_region 3 with (go_at_call 28; refine (words21_any _ (.slice Am ms.length cm) ms HM2.out Tryz.infoRow).mono ?_; rintro e w3 ⟨u3, yss, rfl, hl3, hyl, hys, b3⟩; obtain ⟨A3, c3, rfl, _⟩ := id hl3; have HL3 := Lib.hid hl3; have HYS := Lib.hid hys; have B3 := Lib.hid b3; clear hl3 b3 HM2 hys)
  have HCO := Lib.hid (twins_short hck hyl HYS.out)
  have H1 := Lib.hid (twins_any t T (.slice A3 yss.length c3) yss w3 (HT2.out.later B3.out).2 (HG2.out.later B3.out) HL3.out)
  obtain ⟨⟨ti, tj, tk⟩, htw⟩ : ∃ R, twinsR T yss = R := ⟨_, rfl⟩
  rw [htw] at H1 HCO
  clear hck HYS htw
  generalize skels T yss = ss at *
  obtain ⟨x0, x1, x2, x3, x4, x5, x6, x7, x8, x9, x10, x11⟩ := (HT2.out.later B3.out).1.tab
  go_upto_region 4 with (go_at_call 29; refine H1.out.mono ?_; rintro e w4 ⟨rfl, b4⟩; have HL4 := Lib.hid (HL3.out.later b4); have B4 := Lib.hid (below_next B3.out b4); clear b4 H1 HL3)
  clear x0 x1 x2 x3 x4 x5 x6 x7 x8 x9 x10 x11
  have HT4 := Lib.hid (HT2.out.later B4.out)
  have HG4 := Lib.hid (HG2.out.later B4.out)
  have HB4 := Lib.hid (below_next HB2.out B4.out)
  clear HT2 HG2 HB2 B3 B4
  go_wp2_with fail
  go_loopw [27] (fun si wr => ∃ (b : Nat), b ≤ yss.length ∧ si = .int .i64 b ∧ Hid (∀ (q r : Nat) (x y : List Int), q < r → r < b → ss[q]? = some x → ss[r]? = some y → x ≠ y) ∧ Hid (Below w4.heap.size w4 wr)) (fun si _ => yss.length - (intOf si).toNat)
  case atStart => exact ⟨0, by omega, rfl, Lib.hid (fun q r x y _ h => by omega), Lib.hid (Below.refl _ _)⟩
  case round =>
    obtain ⟨b, hb, rfl, HN, HBr⟩ := hrel
    by_cases hlt : b < yss.length
    · obtain ⟨lb, hlb⟩ : ∃ l, yss[b]? = some l := ⟨_, List.getElem?_eq_getElem hlt⟩
      obtain ⟨sb, hsb⟩ := HCO.out.at_ b lb hlb
      obtain ⟨aw, A5, c5, rfl, haw, hcw, hiw⟩ : ∃ aw A5 c5, A3 = some aw ∧ aw.block < w4.heap.size ∧ w4.cell? (aw.add b) = some (.slice A5 lb.length c5) ∧ Ints w4 w4.heap.size .i64 (.slice A5 lb.length c5) lb := by
        obtain ⟨Aq, cq, ad, A', c', hve, e, hb, hce, hii⟩ := HL4.out.at_ hlb
        cases hve
        exact ⟨ad, A', c', e, hb, hce, hii⟩
      have HLE : Hid (∀ (j : Nat) (l : List Int), yss[j]? = some l → ∃ A6 c6, w4.cell? (aw.add j) = some (.slice A6 l.length c6) ∧ Ints w4 w4.heap.size .i64 (.slice A6 l.length c6) l) := Lib.hid (fun j l hj => by
        obtain ⟨Aq, cq, ad, A', c', hve, e, hb, hce, hii⟩ := HL4.out.at_ hj
        cases hve
        cases e
        exact ⟨A', c', hce, hii⟩)
      have HLB := Lib.hid hlb
      have HSB := Lib.hid hsb
      have HCW := Lib.hid hcw
      have HIW := Lib.hid hiw
      have b0 : (0 : Int) ≤ (b : Int) := by omega
      have b2 : (b : Int) < (yss.length : Int) := by omega
      clear hlb hsb hcw hiw
      go_wp2_with fail
      go_loopw [11] (fun sk wr => ∃ (a : Nat), a ≤ b ∧ sk = .int .i64 a ∧ Hid (∀ (q : Nat) (x : List Int), q < a → ss[q]? = some x → x ≠ sb) ∧ Hid (Below w4.heap.size w4 wr)) (fun sk _ => b - (intOf sk).toNat)
      case atStart => exact ⟨0, by omega, rfl, Lib.hid (fun q x h => by omega), HBr⟩
      case round =>
        clear HBr
        obtain ⟨a, ha, rfl, HQ, HBr⟩ := hrel
        by_cases hla : a < b
        · obtain ⟨la, hal⟩ : ∃ l, yss[a]? = some l := ⟨_, List.getElem?_eq_getElem (by omega)⟩
          obtain ⟨sa, hsa⟩ := HCO.out.at_ a la hal
          obtain ⟨A6, c6, hcb, hib⟩ := HLE.out a la hal
          have hs := HCO.out.same a b la lb sa sb hal HLB.out hsa HSB.out
          have HTr := Lib.hid (HT4.out.later HBr.out)
          obtain ⟨q, hq⟩ : ∃ q, decide (sa = sb) = q := ⟨_, rfl⟩
          rw [hq] at hs
          have HSx : Hid (∀ V, Below wr.heap.size wr V → Calls Tryz.prog 30 #[.agg #[t.c0, t.c1, t.c2, t.c3, t.c4, t.c5, t.c6, t.c7, t.c8, t.c9, t.c10, t.c11], .slice A6 la.length c6, .slice A5 lb.length c5] V fun e V' => e = .returned (.tuple #[.bool q, .int .i64 0]) ∧ Below V.heap.size V V') := Lib.hid fun V hV => by
            have hbv := below_then HBr.out (Nat.le_refl _) hV
            have h := refConf_any t T (.slice A6 la.length c6) la (.slice A5 lb.length c5) lb V (HTr.out.later hV).2 (hib.later hbv) (HIW.out.later hbv)
            rw [hs] at h; exact h
          have ea := cell_regrown ((HBr.out.cell (p := aw.add b) (by rw [block_of_add]; exact haw)).trans HCW.out)
          have eb := cell_regrown ((HBr.out.cell (p := aw.add a) (by rw [block_of_add]; exact haw)).trans hcb)
          have HSA := Lib.hid hsa
          have a0 : (0 : Int) ≤ (a : Int) := by omega
          have a1 : (a : Int) < (b : Int) := by omega
          have a2 : (a : Int) < (yss.length : Int) := by omega
          clear hal hcb hib hs hsa
          obtain ⟨x0, x1, x2, x3, x4, x5, x6, x7, x8, x9, x10, x11⟩ := HTr.out.1.tabG
          go_upto_region 10 with fail
          refine wp_region_quiet_below (by kernel_rfl) (by kernel_rfl) ?_
          repeat (go_big_quiet_step (first | (go_at_call 30; with_reducible exact quiet_t HSx.out)))
          refine wpQuiet_nil ?_
          rintro _ ⟨⟨dq, osq⟩, rfl⟩
          have bq := below_regrown wr dq osq
          have HB6 := Lib.hid (below_then HBr.out (Nat.le_refl _) bq)
          clear bq ea eb HBr x0 x1 x2 x3 x4 x5 x6 x7 x8 x9 x10 x11 HSx HTr
          generalize Go.Sort.grow (redrawn wr dq) osq = w6 at *
          cases q with
          | true =>
            have he : sa = sb := of_decide_eq_true hq
            have hR := HCO.out.hit a b sb (he ▸ HSA.out) HSB.out hla HN.out HQ.out
            obtain ⟨rfl, hR2⟩ := Prod.mk.inj hR
            obtain ⟨rfl, rfl⟩ := Prod.mk.inj hR2
            clear hq he hR hR2
            go_wp2_with (go_at_call 31; refine (awake21 _ (HG4.out.later HB6.out)).mono ?_; rintro e w8 ⟨rfl, b8⟩)
            go_ret
            exact ⟨rfl, below_next HB4.out (below_then HB6.out (Nat.le_refl _) b8)⟩
          | false =>
            have HQ2 : Hid (∀ (q : Nat) (x : List Int), q < a + 1 → ss[q]? = some x → x ≠ sb) := Lib.hid (fun j x hj hx => by
              rcases Nat.lt_or_ge j a with h | h
              · exact HQ.out j x h hx
              · obtain rfl : j = a := by omega
                rw [HSA.out] at hx; cases hx
                exact of_decide_eq_false hq)
            clear hq
            go_wp2_with fail
            go_roundw
            case rel => exact ⟨a + 1, by omega, by go_num, HQ2, HB6⟩
            case measure => simp [intOf]; omega
        · have a1 : ¬ (a : Int) < (b : Int) := by omega
          obtain rfl : a = b := by omega
          have HN2 : Hid (∀ (q r : Nat) (x y : List Int), q < r → r < a + 1 → ss[q]? = some x → ss[r]? = some y → x ≠ y) := Lib.hid (fun q r x y hqr hr hx hy => by
            rcases Nat.lt_or_ge r a with h | h
            · exact HN.out q r x y hqr h hx hy
            · obtain rfl : r = a := by omega
              rw [HSB.out] at hy; cases hy
              exact HQ.out q x hqr hx)
          go_wp2_with fail
          go_roundw
          case rel => exact ⟨a + 1, by omega, by go_num, HN2, HBr⟩
          case measure => simp [intOf]; omega
    · have b2 : ¬ (b : Int) < (yss.length : Int) := by omega
      have hR := HCO.out.none_ (fun q r x y h1 h2 => HN.out q r x y h1 (by omega))
      obtain ⟨rfl, hR2⟩ := Prod.mk.inj hR
      obtain ⟨rfl, rfl⟩ := Prod.mk.inj hR2
      clear hR hR2
      go_wp2_with (go_at_call 31; refine (awake21 _ (HG4.out.later HBr.out)).mono ?_; rintro e w8 ⟨rfl, b8⟩)
      go_ret
      exact ⟨rfl, below_next HB4.out (below_then HBr.out (Nat.le_refl _) b8)⟩
theorem ConfuseTwins_walk (W : World) (hg : Glob W) (v : Value) (xs : List Int) (hv : Ints W W.heap.size .i64 v xs) (_ : ∀ x ∈ xs, -9223372036854775808 ≤ x ∧ x ≤ 9223372036854775807) (_ : xs.length * 8 ≤ 140737488351232) (vm : Value) (ms : List Int) (hvm : Ints W W.heap.size .i64 vm ms) (_ : ∀ x ∈ ms, -9223372036854775808 ≤ x ∧ x ≤ 9223372036854775807) (_ : ms.length * 8 ≤ 140737488351232) :
    Calls Tryz.prog 6 #[v, vm] W fun e W' => e = .returned (.bool true) ∧ Below W.heap.size W W' := ConfuseTwins_go W hg v xs hv vm ms hvm
end Go.Proofs.YtecpbicfiaifdaaGreatDoor
