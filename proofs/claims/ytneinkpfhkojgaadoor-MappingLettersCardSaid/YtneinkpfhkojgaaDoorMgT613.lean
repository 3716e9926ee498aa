/-
  Merged texts: lemmas and walks that the last text of this claim leans on.
-/
import Derived.Test.YtneinkpfhkojgaaDoorMgT68
import Derived.Test.YtneinkpfhkojgaaDoorMgT611
import Derived.Test.YtneinkpfhkojgaaDoorMgT612
import Derived.Test.YtneinkpfhkojgaaDoorMgT64
import Derived.Test.YtneinkpfhkojgaaDoorMgT62
import Derived.Test.YtneinkpfhkojgaaDoorMgT610
import Derived.Test.YtneinkpfhkojgaaDoorMgT67
/-
  The walk through the law OrderRuns.
-/
namespace Go.Proofs.YtneinkpfhkojgaaDoor
open Go.RowKit ND

theorem runs_cases (f : Int → Int) (l : List Int) : ∀ (m i : Nat), i + m = l.length →
    (runsGo f i false (l.drop i) = [] ∧ ∀ j c, i ≤ j → l[j]? = some c → f c = 0) ∨
    ∃ s e : Nat, i ≤ s ∧ s < e ∧ e ≤ l.length ∧ runsGo f i false (l.drop i) = (s : Int) :: (e : Int) :: runsGo f e false (l.drop e) ∧
      (∀ j c, i ≤ j → j < s → l[j]? = some c → f c = 0) ∧ (∀ j c, s ≤ j → j < e → l[j]? = some c → f c ≠ 0) ∧ (∀ c, l[e]? = some c → f c = 0) := by
  have hin : ∀ (m i s : Nat), i + m = l.length → s < i → (∀ j c, s ≤ j → j < i → l[j]? = some c → f c ≠ 0) →
      ∃ e : Nat, s < e ∧ e ≤ l.length ∧ runsGo f i true (l.drop i) = (e : Int) :: runsGo f e false (l.drop e) ∧ (∀ j c, s ≤ j → j < e → l[j]? = some c → f c ≠ 0) ∧ (∀ c, l[e]? = some c → f c = 0) := by
    intro m
    induction m with
    | zero =>
      intro i s h hs ha
      refine ⟨i, hs, by omega, ?_, ha, fun c hc => ?_⟩
      · rw [runsGo_end true (by omega), runsGo_end false (by omega)]; rfl
      · rw [List.getElem?_eq_none (by omega)] at hc; cases hc
    | succ m ih =>
      intro i s h hs ha
      obtain ⟨x, hx⟩ : ∃ x, l[i]? = some x := ⟨_, List.getElem?_eq_getElem (by omega)⟩
      by_cases h0 : f x = 0
      · refine ⟨i, hs, by omega, ?_, ha, fun c hc => by rw [hx] at hc; cases hc; exact h0⟩
        rw [runsGo_step true hx, if_neg (by simp [h0]), runsGo_step false hx, if_pos (by simp [h0])]; rfl
      · obtain ⟨e, e1, e2, e3, e4, e5⟩ := ih (i + 1) s (by omega) (by omega) (fun j c h1 h2 hc => by
          by_cases hj : j = i
          · subst hj; rw [hx] at hc; cases hc; exact h0
          · exact ha j c h1 (by omega) hc)
        exact ⟨e, e1, e2, by rw [runsGo_step true hx, if_pos (by simp [h0])]; exact e3, e4, e5⟩
  intro m
  induction m with
  | zero =>
    intro i h
    refine .inl ⟨by rw [runsGo_end false (by omega)]; rfl, fun j c h1 hc => ?_⟩
    rw [List.getElem?_eq_none (by omega)] at hc; cases hc
  | succ m ih =>
    intro i h
    obtain ⟨x, hx⟩ : ∃ x, l[i]? = some x := ⟨_, List.getElem?_eq_getElem (by omega)⟩
    by_cases h0 : f x = 0
    · have hs : runsGo f i false (l.drop i) = runsGo f (i + 1) false (l.drop (i + 1)) := by rw [runsGo_step false hx, if_pos (by simp [h0])]
      have hz : ∀ j c, j = i → l[j]? = some c → f c = 0 := fun j c e hc => by subst e; rw [hx] at hc; cases hc; exact h0
      rcases ih (i + 1) (by omega) with ⟨h1, h2⟩ | ⟨s, e, h1, h2, h3, h4, h5, h6, h7⟩
      · exact .inl ⟨hs.trans h1, fun j c hj hc => by
          by_cases e : j = i
          · exact hz j c e hc
          · exact h2 j c (by omega) hc⟩
      · exact .inr ⟨s, e, by omega, h2, h3, hs.trans h4, fun j c hj hj2 hc => by
          by_cases e : j = i
          · exact hz j c e hc
          · exact h5 j c (by omega) hj2 hc, h6, h7⟩
    · obtain ⟨e, e1, e2, e3, e4, e5⟩ := hin m (i + 1) i (by omega) (by omega) (fun j c h1 h2 hc => by
        obtain rfl : j = i := by omega
        rw [hx] at hc; cases hc; exact h0)
      refine .inr ⟨i, e, Nat.le_refl _, e1, e2, ?_, fun j c h1 h2 => absurd h2 (by omega), e4, e5⟩
      rw [runsGo_step false hx, if_neg (by simp [h0]), Bool.not_false, e3]

theorem runs_even (f : Int → Int) (l : List Int) : ∀ (m i : Nat), i + m = l.length → (runsGo f i false (l.drop i)).length % 2 = 0 := by
  intro m
  induction m using Nat.strongRecOn with
  | ind m ih =>
    intro i h
    rcases runs_cases f l m i h with ⟨h1, _⟩ | ⟨s, e, h1, h2, h3, h4, _⟩
    · rw [h1]; rfl
    · have := ih (l.length - e) (by omega) e (by omega)
      rw [h4]; simp; omega

/-- Every second end of a run has been met, up to k; the marks are set up to i. -/
structure RA (f : Int → Int) (l r : List Int) (k : Nat) (bs : List Bool) (i : Nat) : Prop where
  drop : r.drop k = runsGo f i false (l.drop i)
  le : i ≤ l.length
  start : k = 0 ∧ i = 0 ∨ 0 < k ∧ r[k - 1]? = some (i : Int) ∧ ∀ c, l[i]? = some c → f c = 0
  bl : bs.length = 16
  bt : ∀ j c, l[j]? = some c → bs[j]? = some (decide (j < i) && (f c != 0))
theorem RA.next {f : Int → Int} {l r : List Int} {k i : Nat} {bs : List Bool} (h : RA f l r k bs i) (hk : k < r.length) : ∃ s e : Nat, r[k]? = some (s : Int) ∧ r[k + 1]? = some (e : Int) ∧ s < e ∧ e ≤ l.length ∧ (0 < k → i < s) ∧
    ∀ bs' : List Bool, bs'.length = 16 → (∀ j : Nat, bs'[j]? = if s ≤ j ∧ j < e then some true else bs[j]?) → RA f l r (k + 2) bs' e := by
  rcases runs_cases f l (l.length - i) i (by have := h.le; omega) with ⟨h1, _⟩ | ⟨s, e, h1, h2, h3, h4, h5, h6, h7⟩
  · have := h.drop
    rw [h1] at this
    have h2 := congrArg List.length this
    simp at h2; omega
  · have hd := h.drop
    rw [h4] at hd
    have g0 : r[k]? = some (s : Int) := by
      have h9 : (r.drop k)[0]? = some (s : Int) := by rw [hd]; rfl
      rw [List.getElem?_drop] at h9; simpa using h9
    have g1 : r[k + 1]? = some (e : Int) := by
      have h9 : (r.drop k)[1]? = some (e : Int) := by rw [hd]; rfl
      rw [List.getElem?_drop] at h9; exact h9
    refine ⟨s, e, g0, g1, h2, h3, fun hk0 => ?_, fun bs' hl hb => ⟨?_, h3, .inr ⟨by omega, by simpa using g1, h7⟩, hl, fun j c hc => ?_⟩⟩
    · rcases h.start with ⟨e0, _⟩ | ⟨_, _, hz⟩
      · omega
      · rcases Nat.lt_or_ge i s with hh | hh
        · exact hh
        · exfalso
          obtain rfl : i = s := by omega
          obtain ⟨x, hx⟩ : ∃ x, l[i]? = some x := ⟨_, List.getElem?_eq_getElem (by omega)⟩
          exact h6 i x (Nat.le_refl _) h2 hx (hz x hx)
    · rw [show r.drop (k + 2) = (r.drop k).drop 2 by rw [List.drop_drop], hd]; rfl
    · rw [hb j, h.bt j c hc]
      by_cases hj : s ≤ j ∧ j < e
      · rw [if_pos hj, decide_eq_true hj.2]
        have := h6 j c hj.1 hj.2 hc
        simp [this]
      · rw [if_neg hj]
        by_cases hi : j < i
        · rw [decide_eq_true hi, decide_eq_true (by omega)]
        · rw [decide_eq_false hi]
          by_cases hje : j < e
          · have := h5 j c (by omega) (by omega) hc
            simp [this]
          · rw [decide_eq_false hje]
theorem RA.last {f : Int → Int} {l r : List Int} {k i : Nat} {bs : List Bool} (h : RA f l r k bs i) (hk : r.length ≤ k) : ∀ (j : Nat) (c : Int), l[j]? = some c → bs[j]? = some (f c != 0) := by
  have hd := h.drop
  rw [List.drop_of_length_le hk] at hd
  rcases runs_cases f l (l.length - i) i (by have := h.le; omega) with ⟨_, h2⟩ | ⟨s, e, h1, h2, h3, h4, _⟩
  · intro j c hc
    rw [h.bt j c hc]
    by_cases hi : j < i
    · rw [decide_eq_true hi]; rfl
    · rw [decide_eq_false hi, h2 j c (by omega) hc]; rfl
  · rw [h4] at hd; cases hd

set_option maxRecDepth 100000 in
set_option maxHeartbeats 4000000 in
theorem OrderRuns_go (W : World) (hg : Glob W) (v : Value) (xs : List Int) (hv : Ints W W.heap.size .i64 v xs) (vm : Value) (ms : List Int) (hm : Ints W W.heap.size .i64 vm ms) :
    Calls Tryd.prog 5 #[v, vm] W fun e W' => e = .returned (.bool true) ∧ Below W.heap.size W W' := by
  have HG := Lib.hid hg
  have HM := Lib.hid hm
  obtain ⟨Ax, cx, rfl, _⟩ := id hv
  obtain ⟨Am, cm, rfl, _⟩ := id hm
  have HT := Lib.hid (keepTables_any W _ xs hv)
  clear hv hg hm
  go_enter Tryd.func5, Tryd.ntmps5
  go_upto_region 2 with (go_at_call 14; refine HT.out.mono ?_; rintro e w1 ⟨t, T, rfl, ht1, hm1, hb1⟩; obtain ⟨A0, A1, A2, A3, A4, A5, A6, A7, A8, A9, A10, A11, k0, k1, k2, k3, k4, k5, k6, k7, k8, k9, k10, k11, rfl⟩ := ht1.shape; have HT1 := Lib.hid ht1; have HM1 := Lib.hid hm1; have HB1 := Lib.hid hb1; clear ht1 hm1 hb1)
  obtain ⟨t, ht, htb⟩ := Tbl.new HT1.out
  have HT2 := Lib.hid htb
  have HB2 := Lib.hid (HB1.out.alloc HB1.out.size (.cells #[.slice A0 T.category.length k0, .slice A1 T.cls.length k1, .slice A2 T.joining.length k2, .slice A3 T.bidi.length k3, .slice A4 T.script.length k4, .slice A5 T.status.length k5, .slice A6 T.ignorable.length k6, .slice A7 T.extensions.length k7, .slice A8 T.maps.length k8, .slice A9 T.decomps.length k9, .slice A10 T.excluded.length k10, .slice A11 T.prototypes.length k11] 26))
  clear htb HT1 HT
  generalize w1.alloc (.cells #[.slice A0 T.category.length k0, .slice A1 T.cls.length k1, .slice A2 T.joining.length k2, .slice A3 T.bidi.length k3, .slice A4 T.script.length k4, .slice A5 T.status.length k5, .slice A6 T.ignorable.length k6, .slice A7 T.extensions.length k7, .slice A8 T.maps.length k8, .slice A9 T.decomps.length k9, .slice A10 T.excluded.length k10, .slice A11 T.prototypes.length k11] 26) = w2 at *
  generalize w1.heap.size = tb at *
  clear ht
  have hck := HM1.out.check
  have HCK := Lib.hid hck
  have HG2 := Lib.hid (HG.out.later HB2.out)
  have HM2 := Lib.hid (HM.out.later HB2.out)
  clear HG HM HM1 hck
  go_upto_region 3 with (go_at_call 15; refine (marks_any _ (.slice Am ms.length cm) ms HM2.out).mono ?_; rintro e w3 ⟨u3, as_, rfl, ho3, hal, has, b3, _⟩; obtain ⟨A3, c3, rfl, _⟩ := id (Ints.of_own ho3); have HA3 := Lib.hid (Ints.of_own ho3); have B3 := Lib.hid b3; clear ho3 b3 HM2)
  have ea : accE T as_ = 0 := accE_ok HCK.out (by omega) (marks_scal has)
  obtain ⟨f, hf⟩ : ∃ f, T.classOf = f := ⟨_, rfl⟩
  have er : runL T as_ = runsL f as_ := by unfold runL; rw [if_pos ea, hf]
  have H1 := Lib.hid (fun W (h : Below w2.heap.size w2 W) hi => runs_any t T (.slice A3 as_.length c3) as_ W (HT2.out.later h).2 (HG2.out.later h) hi)
  rw [ea, er] at H1
  have HC : Hid (∀ (b : Nat) (W : World) (x : Int), Tbl W b t T → Calls Tryd.prog 18 #[.agg #[t.c0, t.c1, t.c2, t.c3, t.c4, t.c5, t.c6, t.c7, t.c8, t.c9, t.c10, t.c11], .int .i64 x] W fun e W' => e = .returned (.int .i64 (f x)) ∧ Below W.heap.size W W') := Lib.hid fun b W x h => by
    have h2 := refClass_any t T x W h.2
    rw [hf] at h2; exact h2
  have HEV := Lib.hid (runs_even f as_ as_.length 0 (by omega))
  rw [show runsGo f 0 false (as_.drop 0) = runsL f as_ from rfl] at HEV
  have HRA0 : Hid (RA f as_ (runsL f as_) 0 (List.replicate 16 false) 0) := Lib.hid ⟨rfl, by omega, .inl ⟨rfl, rfl⟩, rfl, fun j c hc => by
    have := (List.getElem?_eq_some_iff.1 hc).1
    rw [List.getElem?_replicate, if_pos (by omega), decide_eq_false (by omega)]; rfl⟩
  have hrl : (runsL f as_).length ≤ 10 := by have := runsGo_len f as_ 0 false; unfold runsL; omega
  clear ea er hf has
  generalize runsL f as_ = r at *
  obtain ⟨x0, x1, x2, x3, x4, x5, x6, x7, x8, x9, x10, x11⟩ := (HT2.out.later B3.out).1.tab
  go_upto_region 4 with (go_at_call 21; refine (H1.out _ B3.out HA3.out).mono ?_; rintro e w5 ⟨u5, rfl, ho5, b5⟩; obtain ⟨A5, c5, rfl, _⟩ := id (Ints.of_own ho5); have HX5 := Lib.hid (Ints.of_own ho5); have B5 := Lib.hid (below_next B3.out b5); have HA5 := Lib.hid (HA3.out.later b5); clear ho5 b5)
  clear x0 x1 x2 x3 x4 x5 x6 x7 x8 x9 x10 x11 H1 HA3
  have hev : (((r.length : Int) % 2) != 0) = false := by
    have := HEV.out
    simp; omega
  go_upto_region 7 with fail
  have hBk : Blk (w5.alloc (.cells #[.bool false, .bool false, .bool false, .bool false, .bool false, .bool false, .bool false, .bool false, .bool false, .bool false, .bool false, .bool false, .bool false, .bool false, .bool false, .bool false] 38)) w5.heap.size 38 ((List.replicate 16 false).map Value.bool).toArray := Blk.new _ _ _
  have HBK := Lib.hid hBk
  have HB6 := Lib.hid ((Below.refl _ _).alloc (Nat.le_refl _) _ : Below w5.heap.size w5 (w5.alloc (.cells #[.bool false, .bool false, .bool false, .bool false, .bool false, .bool false, .bool false, .bool false, .bool false, .bool false, .bool false, .bool false, .bool false, .bool false, .bool false, .bool false] 38)))
  clear hBk hev HEV
  generalize w5.alloc (.cells #[.bool false, .bool false, .bool false, .bool false, .bool false, .bool false, .bool false, .bool false, .bool false, .bool false, .bool false, .bool false, .bool false, .bool false, .bool false, .bool false] 38) = w6 at *
  obtain ⟨ib, hib⟩ : ∃ ib, w5.heap.size = ib := ⟨_, rfl⟩
  rw [hib] at HBK
  simp only [hib]
  have HCLa : Hid (∀ (V : World) (j : Nat) (y : Int), Below w5.heap.size w5 V → as_[j]? = some y → ∃ ad, A3 = some ad ∧ V.cell? (ad.add j) = some (.int .i64 y)) := Lib.hid fun V j y hV hy => by
    obtain ⟨_, _, hve, _, _, _, hcell⟩ := HA5.out
    cases hve
    obtain ⟨ad, e, ha, hc⟩ := hcell j y hy
    exact ⟨ad, e, (hV.cell (p := ad.add j) (by rw [block_of_add]; exact ha)).trans hc⟩
  have HCLr : Hid (∀ (V : World) (j : Nat) (y : Int), Below w5.heap.size w5 V → r[j]? = some y → ∃ ad, A5 = some ad ∧ V.cell? (ad.add j) = some (.int .i64 y)) := Lib.hid fun V j y hV hy => by
    obtain ⟨_, _, hve, _, _, _, hcell⟩ := HX5.out
    cases hve
    obtain ⟨ad, e, ha, hc⟩ := hcell j y hy
    exact ⟨ad, e, (hV.cell (p := ad.add j) (by rw [block_of_add]; exact ha)).trans hc⟩
  clear HA5 HX5
  go_wp2_with fail
  go_loopw [10] (fun s10 wr => ∃ (k i : Nat) (bs : List Bool), s10 = .int .i64 k ∧ k ≤ r.length + 1 ∧ Hid (RA f as_ r k bs i) ∧ Hid (Blk wr ib 38 (bs.map Value.bool).toArray) ∧ Hid (Below w5.heap.size w5 wr)) (fun i _ => r.length + 2 - (intOf i).toNat)
  case atStart => exact ⟨0, 0, _, rfl, by omega, HRA0, HBK, HB6⟩
  case round =>
    clear HBK HB6 HRA0
    obtain ⟨k, i, bs, rfl, hkr, HR, HBk, HBr⟩ := hrel
    by_cases hlt : k < r.length
    · obtain ⟨s, e, h0, h1, hse, hel, hks, hnx⟩ := HR.out.next hlt
      have HNX := Lib.hid hnx
      obtain ⟨adR, rfl, ek⟩ := HCLr.out wr k s HBr.out h0
      obtain ⟨ad2, e9, ek1⟩ := HCLr.out wr (k + 1) e HBr.out h1
      cases e9
      have HST := Lib.hid HR.out.start
      have H0 := Lib.hid h0
      have H1 := Lib.hid h1
      have hk1 : k + 1 < r.length := (List.getElem?_eq_some_iff.1 h1).1
      clear hnx h0 h1
      have d1 : ¬ (s : Int) < 0 := by omega
      have d2 : ¬ (e : Int) ≤ (s : Int) := by omega
      have d3 : ¬ (as_.length : Int) < (e : Int) := by omega
      have q0 : (0 : Int) ≤ (k : Int) := by omega
      have q1 : (k : Int) < (r.length : Int) := by omega
      have q2 : (0 : Int) ≤ (k : Int) + 1 := by omega
      have q3 : (k : Int) + 1 < (r.length : Int) := by omega
      have v1 : IntKind.i64.wrap ((k : Int) + 1) = (k : Int) + 1 := by rw [IntWalk.i64_in _ (by omega)]
      replace ek := cell_regrown ek
      replace ek1 : ∀ d' os, (Go.Sort.grow (redrawn wr d') os).cell? ⟨adR.block, adR.off + (k + 1), none⟩ = some (.int .i64 e) := fun d' os => by have h := cell_regrown ek1 d' os; simpa [Addr.add] using h
      go_upto_region 10 with fail
      go_cut [80] from 38 to 79 (fun s80 wx => s80 = .bool false ∧ Hid (∃ dq osq, wx = Go.Sort.grow (redrawn wr dq) osq))
      case first =>
        cases k with
        | zero =>
          replace ek : ∀ d' os, (Go.Sort.grow (redrawn wr d') os).cell? adR = some (.int .i64 s) := fun d' os => by have h := ek d' os; simpa [Addr.add] using h
          replace ek1 : ∀ d' os, (Go.Sort.grow (redrawn wr d') os).cell? ⟨adR.block, adR.off + 1, none⟩ = some (.int .i64 e) := fun d' os => by have h := ek1 d' os; simpa using h
          refine wp_region_quiet_below (by kernel_rfl) (by kernel_rfl) ?_
          repeat (go_big_quiet_step (fail))
          refine wpQuiet_nil ?_
          rintro _ ⟨⟨dq, osq⟩, rfl⟩
          go_wp2_with fail
          go_meet
          case rel => exact ⟨rfl, Lib.hid ⟨dq, osq, rfl⟩⟩
        | succ p =>
          have his : i < s := hks (by omega)
          obtain ⟨ad3, e9, ekp⟩ := HCLr.out wr p i HBr.out (by
            rcases HST.out with ⟨h, _⟩ | ⟨_, h, _⟩
            · cases h
            · simpa using h)
          cases e9
          replace ekp := cell_regrown ekp
          replace ek : ∀ d' os, (Go.Sort.grow (redrawn wr d') os).cell? ⟨adR.block, adR.off + (p + 1), none⟩ = some (.int .i64 s) := fun d' os => by have h := ek d' os; simpa [Addr.add] using h
          have d4 : ¬ (s : Int) ≤ (i : Int) := by omega
          have d5 : (0 : Int) < ((p + 1 : Nat) : Int) := by omega
          have v2 : IntKind.i64.wrap (((p + 1 : Nat) : Int) - 1) = (p : Int) := by rw [IntWalk.i64_in _ (by omega)]; omega
          have q4 : (0 : Int) ≤ (p : Int) := by omega
          have q5 : (p : Int) < (r.length : Int) := by omega
          refine wp_region_quiet_below (by kernel_rfl) (by kernel_rfl) ?_
          repeat (go_big_quiet_step (fail))
          refine wpQuiet_nil ?_
          rintro _ ⟨⟨dq, osq⟩, rfl⟩
          go_wp2_with fail
          go_meet
          case rel => exact ⟨rfl, Lib.hid ⟨dq, osq, rfl⟩⟩
      case rest =>
        obtain ⟨rfl, hw⟩ := hcut
        obtain ⟨dq, osq, rfl⟩ := hw.out
        have b7 := below_regrown wr dq osq
        have HBk7 := Lib.hid (HBk.out.later b7)
        have HB7 := Lib.hid (below_then HBr.out (Nat.le_refl _) b7)
        replace ek := ek dq osq
        replace ek1 := ek1 dq osq
        generalize Go.Sort.grow (redrawn wr dq) osq = w7 at *
        clear b7 hw HBk HBr
        go_wp2_with fail
        clear ek ek1
        go_loopw [11] (fun s11 wr => ∃ (q : Nat) (bq : List Bool), s11 = .int .i64 q ∧ s ≤ q ∧ q ≤ e ∧ Hid (bq.length = 16 ∧ ∀ j : Nat, bq[j]? = if s ≤ j ∧ j < q then some true else bs[j]?) ∧ Hid (Blk wr ib 38 (bq.map Value.bool).toArray) ∧ Hid (Below w5.heap.size w5 wr)) (fun i _ => e - (intOf i).toNat)
        case atStart => exact ⟨s, bs, rfl, Nat.le_refl _, by omega, Lib.hid ⟨HR.out.bl, fun j => by rw [if_neg (by omega)]⟩, HBk7, HB7⟩
        case round =>
          clear HBk7 HB7
          obtain ⟨q, bq, rfl, hsq, hqe, HQ, HBk, HBr⟩ := hrel
          obtain ⟨ad2, e9, ek1⟩ := HCLr.out wr (k + 1) e HBr.out H1.out
          cases e9
          replace ek1 : wr.cell? ⟨adR.block, adR.off + (k + 1), none⟩ = some (.int .i64 e) := by simpa [Addr.add] using ek1
          by_cases hqlt : q < e
          · have g0 : (0 : Int) ≤ (q : Int) := by omega
            have g1 : (q : Int) < 16 := by omega
            have g2 : (q : Int) < (e : Int) := by omega
            obtain ⟨bv, hbv⟩ : ∃ bv, bq[q]? = some bv := ⟨_, List.getElem?_eq_getElem (by have := HQ.out.1; omega)⟩
            have c0 := HBk.out.at_ (i := q) (u := .bool bv) (by rw [List.getElem?_toArray, List.getElem?_map, hbv]; rfl)
            have f0 := HBk.out.free q
            have HQN : Hid ((bq.set q true).length = 16 ∧ ∀ j : Nat, (bq.set q true)[j]? = if s ≤ j ∧ j < q + 1 then some true else bs[j]?) := Lib.hid ⟨by rw [List.length_set]; exact HQ.out.1, fun j => by
              rw [List.getElem?_set]
              by_cases hj : q = j
              · subst hj; rw [if_pos rfl, if_pos (by have := HQ.out.1; omega), if_pos (by omega)]
              · rw [if_neg hj, HQ.out.2 j]
                by_cases h9 : s ≤ j ∧ j < q
                · rw [if_pos h9, if_pos (by omega)]
                · rw [if_neg h9, if_neg (by omega)]⟩
            have HBN : Hid (Blk (wr.setCell ⟨ib, q, none⟩ (.bool true)) ib 38 ((bq.set q true).map Value.bool).toArray) := Lib.hid (by
              have h := HBk.out.put q (.bool true)
              rw [List.map_set]
              simpa using h)
            have HBB : Hid (Below w5.heap.size w5 (wr.setCell ⟨ib, q, none⟩ (.bool true))) := Lib.hid (HBr.out.setCell (p := ⟨ib, q, none⟩) (by show w5.heap.size ≤ ib; omega) _)
            clear hbv
            go_wp2_with fail
            go_roundw
            case rel => exact ⟨q + 1, bq.set q true, by go_num, by omega, by omega, HQN, HBN, HBB⟩
            case measure => simp [intOf]; omega
          · obtain rfl : q = e := by omega
            have g2 : ¬ (q : Int) < (q : Int) := by omega
            have HRN := Lib.hid (HNX.out bq HQ.out.1 HQ.out.2)
            go_wp2_with fail
            go_roundw
            case rel => exact ⟨k + 2, q, bq, by go_num, by omega, HRN, HBk, HBr⟩
            case measure => simp [intOf]; omega
    · have HL := Lib.hid (HR.out.last (by omega))
      have q1 : ¬ (k : Int) < (r.length : Int) := by omega
      clear HR
      go_wp2_with fail
      go_loopw [98] (fun s98 wr => ∃ j : Nat, j ≤ as_.length ∧ s98 = .int .i64 j ∧ Hid (Blk wr ib 38 (bs.map Value.bool).toArray) ∧ Hid (Below w5.heap.size w5 wr)) (fun i _ => as_.length - (intOf i).toNat)
      case atStart => exact ⟨0, by omega, rfl, HBk, HBr⟩
      case round =>
        clear HBk HBr
        obtain ⟨j, hjn, rfl, HBk, HBr⟩ := hrel
        by_cases hj : j < as_.length
        · obtain ⟨c, hc, _⟩ := get_of hj
          obtain ⟨adA, rfl, e1⟩ := HCLa.out wr j c HBr.out hc
          have hb0 := HL.out j c hc
          have e2 := cell_regrown (HBk.out.at_ (i := j) (u := .bool (f c != 0)) (by rw [List.getElem?_toArray, List.getElem?_map, hb0]; rfl))
          have HTr := Lib.hid (HT2.out.later (below_next B5.out HBr.out))
          have HCx : Hid (∀ V, Below wr.heap.size wr V → Calls Tryd.prog 18 #[.agg #[t.c0, t.c1, t.c2, t.c3, t.c4, t.c5, t.c6, t.c7, t.c8, t.c9, t.c10, t.c11], .int .i64 c] V fun e V' => e = .returned (.int .i64 (f c)) ∧ Below V.heap.size V V') := Lib.hid fun V hV => HC.out tb V c (HTr.out.later hV)
          have q0 : (0 : Int) ≤ (j : Int) := by omega
          have q2 : (j : Int) < (as_.length : Int) := by omega
          have q3 : (j : Int) < 16 := by omega
          clear hc hb0
          cases hb : (f c != 0)
          · rw [hb] at e2
            go_upto_region 19 with fail
            obtain ⟨x0, x1, x2, x3, x4, x5, x6, x7, x8, x9, x10, x11⟩ := HTr.out.1.tabG
            refine wp_region_quiet_below (by kernel_rfl) (by kernel_rfl) ?_
            repeat (go_big_quiet_step ((go_at_call 18; with_reducible exact quiet_t HCx.out)))
            refine wpQuiet_nil ?_
            rintro _ ⟨⟨dq, osq⟩, rfl⟩
            have b7 := below_regrown wr dq osq
            have HBk7 := Lib.hid (HBk.out.later b7)
            have HB7 := Lib.hid (below_then HBr.out (Nat.le_refl _) b7)
            generalize Go.Sort.grow (redrawn wr dq) osq = w7 at *
            clear x0 x1 x2 x3 x4 x5 x6 x7 x8 x9 x10 x11 e2 b7
            go_wp2_with fail
            go_roundw
            case rel => exact ⟨j + 1, by omega, by go_num, HBk7, HB7⟩
            case measure => simp [intOf]; omega
          · rw [hb] at e2
            go_upto_region 19 with fail
            obtain ⟨x0, x1, x2, x3, x4, x5, x6, x7, x8, x9, x10, x11⟩ := HTr.out.1.tabG
            refine wp_region_quiet_below (by kernel_rfl) (by kernel_rfl) ?_
            repeat (go_big_quiet_step ((go_at_call 18; with_reducible exact quiet_t HCx.out)))
            refine wpQuiet_nil ?_
            rintro _ ⟨⟨dq, osq⟩, rfl⟩
            have b7 := below_regrown wr dq osq
            have HBk7 := Lib.hid (HBk.out.later b7)
            have HB7 := Lib.hid (below_then HBr.out (Nat.le_refl _) b7)
            generalize Go.Sort.grow (redrawn wr dq) osq = w7 at *
            clear x0 x1 x2 x3 x4 x5 x6 x7 x8 x9 x10 x11 e2 b7
            go_wp2_with fail
            go_roundw
            case rel => exact ⟨j + 1, by omega, by go_num, HBk7, HB7⟩
            case measure => simp [intOf]; omega
        · have B8 := Lib.hid (below_next B5.out HBr.out)
          have q2 : ¬ (j : Int) < (as_.length : Int) := by omega
          go_wp2_with (go_at_call 16; refine (awake6 _ (HG2.out.later B8.out)).mono ?_; rintro e w10 ⟨rfl, b10⟩)
          go_ret
          exact ⟨rfl, below_next HB2.out (below_next B8.out b10)⟩
theorem OrderRuns_walk (W : World) (hg : Glob W) (v : Value) (xs : List Int) (hv : Ints W W.heap.size .i64 v xs) (_ : ∀ x ∈ xs, -9223372036854775808 ≤ x ∧ x ≤ 9223372036854775807) (_ : xs.length * 8 ≤ 140737488351232) (vm : Value) (ms : List Int) (hm : Ints W W.heap.size .i64 vm ms) (_ : ∀ x ∈ ms, -9223372036854775808 ≤ x ∧ x ≤ 9223372036854775807) (_ : ms.length * 8 ≤ 140737488351232) :
    Calls Tryd.prog 5 #[v, vm] W fun e W' => e = .returned (.bool true) ∧ Below W.heap.size W W' := OrderRuns_go W hg v xs hv vm ms hm
end Go.Proofs.YtneinkpfhkojgaaDoor
/-
  Sequences out of a list of mappings: the walk through table.copied.
-/
namespace Go.Proofs.YtneinkpfhkojgaaDoor
open Go.RowKit ND

theorem find_len {l : List Mp} {c : Int} (h : ∀ m ∈ l, m.2.length ≤ 1000) : (findL l c).length ≤ 1000 := by
  by_cases hf : findL l c = []
  · rw [hf]; simp
  · exact h _ (findL_mem hf)

set_option maxRecDepth 100000 in
set_option maxHeartbeats 400000 in
theorem copied_any (v : Value) (ys : List Int) (w : World) (hv : Ints w w.heap.size .i64 v ys) (hl : ys.length ≤ 1000) :
    Calls Tryd.prog 63 #[v] w (RetSeq w ys) := by
  obtain ⟨i0, hi, hz0, hz1, hz2⟩ := info_parts Tryd.infoInt'
  have HV := Lib.hid hv; clear hv
  go_enter Tryd.func63, Tryd.ntmps63
  go_wp2_with (at_builtin
               refine wpList_append_ints (by rfl) (.const (.slice none 0 0)) (.tmp 3) rfl Tryd.underlying22 hi hz0 hz1 hz2 w.heap.size w.heap.size (.slice none 0 0) [] v ys rfl (World.ownsRow_nil _ _ _ _) rfl HV.out (by simp; omega) (Nat.le_refl _) ?_
               intro v1 w1 hown1 hg1 hn1)
  go_ret
  exact ⟨_, rfl, Ints.of_own (by simpa using hown1), fun h => hn1 h (by trivial), (Below.refl _ _).grown hg1 (Nat.le_refl _) (by simp [Value.ownBlock])⟩
end Go.Proofs.YtneinkpfhkojgaaDoor
/-
  The walk through one sequence of table.
-/
namespace Go.Proofs.YtneinkpfhkojgaaDoor
open Go.RowKit ND

set_option maxRecDepth 100000 in
set_option maxHeartbeats 400000 in
theorem maps_any (t : Tv) (T : Tab) (c : Int) (w : World) (ht : TabR w w.heap.size t T) (hs : sortM T.maps) (hne : ∀ m ∈ T.maps, m.2 ≠ [] ∧ m.2.length ≤ 1000) (hlen : T.maps.length ≤ 256) :
    Calls Tryd.prog 47 #[t.val, .int .i64 c] w (RetSeq w (T.mapsOf c)) := by
  have HP := Lib.hid (fun W (h : Mapps W W.heap.size t.c8 T.maps) => find_any t.c8 T.maps c W h hs (fun m hm => (hne m hm).1) hlen)
  have HS := Lib.hid (find_len (c := c) (fun m hm => (hne m hm).2))
  have hr := ht.r8
  have HR := Lib.hid (fun o : Obj => hr.later ((Below.refl _ _).alloc (Nat.le_refl _) o))
  clear hr ht hs hlen hne
  by_cases hc : 65 ≤ c ∧ c ≤ 90
  · have hm : T.mapsOf c = [c + 32] := by unfold Tab.mapsOf; rw [if_pos hc]
    rw [hm]
    clear hm HP HS HR
    obtain ⟨h0, h1⟩ := hc
    have hw : c + 97 - 65 = c + 32 := by omega
    have HW := Lib.hid hw
    clear hw
    go_enter Tryd.func47, Tryd.ntmps47
    go_wp2_with fail
    go_ret
    refine ⟨_, rfl, ⟨some ⟨w.heap.size + 1, 0, none⟩, 1, rfl, Nat.le_refl _, by decide, (by intro h; cases h), fun i x hi => ⟨_, rfl, by simp, ?_⟩⟩, fun h => (by cases h), ((Below.refl _ _).alloc (Nat.le_refl _) _).alloc (by simp) _⟩
    have h := cells_new (w.alloc (.cells t.cells 26)) [.int .i64 (c + 32)] 3 i (.int .i64 x) (by
      cases i with
      | zero => simp at hi ⊢; exact hi
      | succ i => simp at hi)
    rw [show (w.alloc (.cells t.cells 26)).heap.size = w.heap.size + 1 by simp, ← HW.out] at h
    exact h
  · have hm : T.mapsOf c = findL T.maps c := by unfold Tab.mapsOf; rw [if_neg hc]
    rw [hm]
    clear hm
    have hc' : c < 65 ∨ 90 < c := by omega
    clear hc
    rcases hc' with hc | hc
    all_goals
      go_enter Tryd.func47, Tryd.ntmps47
      go_wp2_with fail
      refine (HP.out _ (HR.out _)).mono ?_
      rintro e w1 ⟨v, rfl, hv, hn, b1⟩
      go_wp2_with fail
      refine (copied_any v _ w1 hv HS.out).mono ?_
      rintro e w2 ⟨v', rfl, hv', hn', b2⟩
      go_wp2_with fail
      go_ret
      exact ⟨_, rfl, hv', hn', below_next ((Below.refl _ _).alloc (Nat.le_refl _) _) (below_next b1 b2)⟩
end Go.Proofs.YtneinkpfhkojgaaDoor
/-
  What mapping computes, and the walk through mapping.Map.
-/
namespace Go.Proofs.YtneinkpfhkojgaaDoor
open Go.RowKit ND

/-- What a code point is mapped to. -/
def mapOne (T : Tab) (c : Int) : List Int := if T.statusOf c = 1 ∨ T.statusOf c = 4 then [c] else if T.statusOf c = 3 then T.mapsOf c else []
/-- The first code point that is Disallowed. -/
def badAt (T : Tab) : Nat → List Int → Option Nat
  | _, [] => none
  | i, c :: r => if T.statusOf c = 0 then some i else badAt T (i + 1) r
def mapOut (T : Tab) (l : List Int) : List Int := l.flatMap (mapOne T)
/-- What Map hands back. -/
def mapR (T : Tab) (l : List Int) : List Int × Int × Int :=
  if accE T l ≠ 0 then ([], 0, accE T l) else match badAt T 0 l with
    | some i => ([], (i : Int), 16)
    | none => if 4096 < (mapOut T l).length then ([], 0, 7) else (mapOut T l, 0, 0)
theorem mapR_err {T : Tab} {l : List Int} (h : accE T l ≠ 0) : mapR T l = ([], 0, accE T l) := by unfold mapR; rw [if_pos h]
theorem mapR_bad {T : Tab} {l : List Int} {i : Nat} (h : accE T l = 0) (h2 : badAt T 0 l = some i) : mapR T l = ([], (i : Int), 16) := by unfold mapR; rw [if_neg (by omega), h2]
theorem mapR_full {T : Tab} {l : List Int} (h : accE T l = 0) (h2 : badAt T 0 l = none) (h3 : 4096 < (mapOut T l).length) : mapR T l = ([], 0, 7) := by unfold mapR; rw [if_neg (by omega), h2]; simp only; rw [if_pos h3]
theorem mapR_ok {T : Tab} {l : List Int} (h : accE T l = 0) (h2 : badAt T 0 l = none) (h3 : (mapOut T l).length ≤ 4096) : mapR T l = (mapOut T l, 0, 0) := by unfold mapR; rw [if_neg (by omega), h2]; simp only; rw [if_neg (by omega)]

theorem drop_at {l : List Int} {i : Nat} {c : Int} (h : l[i]? = some c) : l.drop i = c :: l.drop (i + 1) := by
  obtain ⟨h1, e⟩ := List.getElem?_eq_some_iff.1 h
  rw [List.drop_eq_getElem_cons h1, e]
theorem bad_hit {T : Tab} {l : List Int} {i : Nat} {c : Int} {R : Option Nat} (hc : l[i]? = some c) (h : badAt T i (l.drop i) = R) (h0 : T.statusOf c = 0) : R = some i := by
  rw [drop_at hc, badAt, if_pos h0] at h; exact h.symm
theorem bad_go {T : Tab} {l : List Int} {i : Nat} {c : Int} {R : Option Nat} (hc : l[i]? = some c) (h : badAt T i (l.drop i) = R) (h0 : T.statusOf c ≠ 0) : badAt T (i + 1) (l.drop (i + 1)) = R := by
  rw [drop_at hc, badAt, if_neg h0] at h; exact h
theorem bad_end {T : Tab} {l : List Int} {i : Nat} {R : Option Nat} (hi : l.length ≤ i) (h : badAt T i (l.drop i) = R) : R = none := by
  rw [List.drop_of_length_le hi, badAt] at h; exact h.symm
theorem out_step {T : Tab} {l : List Int} {i : Nat} {c : Int} (hc : l[i]? = some c) : mapOut T (l.take (i + 1)) = mapOut T (l.take i) ++ mapOne T c := by
  obtain ⟨h1, e⟩ := List.getElem?_eq_some_iff.1 hc
  unfold mapOut
  rw [List.take_succ_eq_append_getElem h1, List.flatMap_append, e]; simp
theorem mapsOf_len {T : Tab} (h : T.check = 0) (c : Int) : (T.mapsOf c).length ≤ 18 := by
  unfold Tab.mapsOf
  split
  · simp
  · by_cases h0 : findL T.maps c = []
    · rw [h0]; simp
    · have h4 := (rules_of h).2.2.2.1
      unfold Tab.rule4 at h4
      simp only [Bool.and_eq_true] at h4
      exact (toB_iff.1 (List.all_eq_true.1 h4.2.1 _ (findL_mem h0))).2.1
theorem mapOne_len {T : Tab} (h : T.check = 0) (c : Int) : (mapOne T c).length ≤ 18 := by
  unfold mapOne
  split
  · simp
  · split
    · exact mapsOf_len h c
    · simp

/-- A sequence, an index and an error come back. -/
def RetMap (w : World) (r : List Int × Int × Int) (e : Ending) (w' : World) : Prop := ∃ v, e = .returned (.tuple #[v, .int .i64 r.2.1, .int .i64 r.2.2]) ∧ w'.ownsRow w.heap.size 3 1 v r.1.length (r.1.map (Value.int .i64)) ∧ Below w.heap.size w w'

set_option maxRecDepth 100000 in
set_option maxHeartbeats 4000000 in
theorem map_any (t : Tv) (T : Tab) (v : Value) (xs : List Int) (w : World) (ht : TabR w w.heap.size t T) (hg : Glob w) (hv : Ints w w.heap.size .i64 v xs) :
    Calls Tryd.prog 23 #[t.val, v] w (RetMap w (mapR T xs)) := by
  obtain ⟨A, c, rfl, _⟩ := id hv
  have HB0 : Hid (Below w.heap.size w (w.alloc (.cells t.cells 26))) := Lib.hid ((Below.refl _ _).alloc (Nat.le_refl _) _)
  have HT : Hid (Tbl (w.alloc (.cells t.cells 26)) w.heap.size t T) := Lib.hid ⟨Blk.new _ _ _, ht.later HB0.out⟩
  have HV := Lib.hid (hv.later HB0.out)
  have HO := Lib.hid (order_any t T _ xs _ HT.out.2 (hg.later HB0.out) HV.out)
  clear hv ht hg
  by_cases h0 : accE T xs = 0
  · obtain ⟨hck, hlen, _⟩ := accE_zero h0
    have H0 := Lib.hid h0
    have HCK := Lib.hid hck
    have hsh := shape_of hck
    have hsz := sized_of hck
    have HC : Hid (∀ (b : Nat) (W : World) (x : Int), Tbl W b t T → Calls Tryd.prog 46 #[.agg #[t.c0, t.c1, t.c2, t.c3, t.c4, t.c5, t.c6, t.c7, t.c8, t.c9, t.c10, t.c11], .int .i64 x] W fun e W' => e = .returned (.int .i64 (T.statusOf x)) ∧ Below W.heap.size W W') := Lib.hid fun b W x h => status_any t T x 0 1114111 W h.2 hsh.c5.1 hsh.c5.2.1
    have HM : Hid (∀ (b : Nat) (W : World) (x : Int), Tbl W b t T → Calls Tryd.prog 47 #[.agg #[t.c0, t.c1, t.c2, t.c3, t.c4, t.c5, t.c6, t.c7, t.c8, t.c9, t.c10, t.c11], .int .i64 x] W (RetSeq W (T.mapsOf x))) := Lib.hid fun b W x h => maps_any t T x W h.2 (keysB_sort hsh.km) hsz.nm hsh.lm
    rw [h0] at HO
    clear h0 hck hsh hsz
    generalize ordL T xs = ol at *
    go_enter Tryd.func23, Tryd.ntmps23
    go_upto_region 1 with fail
    generalize w.alloc (.cells t.cells 26) = w1 at *
    obtain ⟨x0, x1, x2, x3, x4, x5, x6, x7, x8, x9, x10, x11⟩ := HT.out.1.tab
    go_upto_region 2 with (go_at_call 19; refine HO.out.mono ?_; rintro e w2 ⟨u2, rfl, ho2, b2⟩; obtain ⟨A2, c2, rfl, _⟩ := id (Ints.of_own ho2); clear ho2)
    clear x0 x1 x2 x3 x4 x5 x6 x7 x8 x9 x10 x11
    obtain ⟨tb, htb⟩ : ∃ tb, w.heap.size = tb := ⟨_, rfl⟩
    have HT2 : Hid (Tbl w2 tb t T) := Lib.hid (htb ▸ HT.out.later b2)
    have HV2 := Lib.hid (HV.out.later b2)
    have HB2 := Lib.hid (below_next HB0.out b2)
    simp only [htb]
    clear HT HV HB0 HO b2
    obtain ⟨i0, hi, hz0, hz1, hz2⟩ := info_parts Tryd.infoInt'
    go_wp2_with fail
    go_loopw [23, 9] (fun s23 s9 wr => ∃ (k : Nat) (acc : List Int) (A9 : Option Addr) (c9 : Nat), k ≤ xs.length ∧ s23 = .int .i64 k ∧ s9 = .slice A9 acc.length c9 ∧ acc.length ≤ 18 * k ∧ Hid (acc = mapOut T (xs.take k) ∧ badAt T k (xs.drop k) = badAt T 0 xs) ∧ Hid (wr.ownsRow w2.heap.size 3 1 (.slice A9 acc.length c9) acc.length (acc.map (Value.int .i64))) ∧ Hid (Below w2.heap.size w2 wr)) (fun i _ _ => xs.length - (intOf i).toNat)
    case atStart => exact ⟨0, [], none, 0, by omega, rfl, rfl, by simp, Lib.hid ⟨rfl, rfl⟩, Lib.hid (World.ownsRow_nil _ _ _ _), Lib.hid (Below.refl _ _)⟩
    case round =>
      obtain ⟨k, acc, A9, c9, hk, rfl, rfl, hal, HS, HOr, HBr⟩ := hrel
      by_cases hlt : k < xs.length
      · obtain ⟨x, hxk, _⟩ := get_of hlt
        obtain ⟨_, _, hve, _, _, _, hcell⟩ := HV2.out
        cases hve
        obtain ⟨ad, rfl, ha, hce⟩ := hcell k x hxk
        have e1 := (HBr.out.cell (p := ad.add k) (by rw [block_of_add]; exact ha)).trans hce
        have HX := Lib.hid hxk
        have k0 : (0 : Int) ≤ (k : Int) := by omega
        have k1 : (k : Int) < (xs.length : Int) := by omega
        have HTr := Lib.hid (HT2.out.later HBr.out)
        obtain ⟨x0, x1, x2, x3, x4, x5, x6, x7, x8, x9, x10, x11⟩ := HTr.out.1.tab
        have HCx := Lib.hid (HC.out tb wr x HTr.out)
        have HOS := Lib.hid (out_step (T := T) HX.out)
        clear hcell hxk ha hce
        obtain ⟨st, hst⟩ : ∃ st, T.statusOf x = st := ⟨_, rfl⟩
        rw [hst] at HCx
        by_cases s1 : st = 1
        · subst s1
          have HN : Hid (acc ++ [x] = mapOut T (xs.take (k + 1)) ∧ badAt T (k + 1) (xs.drop (k + 1)) = badAt T 0 xs) := Lib.hid ⟨by rw [HOS.out, ← HS.out.1]; unfold mapOne; rw [if_pos (.inl hst)], bad_go HX.out HS.out.2 (by omega)⟩
          clear hst
          go_upto_region 11 with (go_at_call 46; refine HCx.out.mono ?_; rintro e w5 ⟨rfl, b5⟩)
          have HO5 := Lib.hid (own_later HOr.out b5)
          have HB5 := Lib.hid (below_then HBr.out (Nat.le_refl _) b5)
          clear x0 x1 x2 x3 x4 x5 x6 x7 x8 x9 x10 x11 e1 HCx HTr HOr HBr b5 HS HX HOS
          go_wp2_with (at_builtin; refine wpList_append_ints (by rfl) (.tmp 34) (.tmp 36) rfl Tryd.underlying22 hi hz0 hz1 hz2 (w5.heap.size + 1) w2.heap.size (.slice A9 acc.length c9) acc (.slice (some ⟨w5.heap.size, 0, none⟩) 1 1) [x] rfl (HO5.out.alloc _) rfl (by have h := Ints.of_own (own_new w5 3 [x] (by simp)); simpa using h) (by simp; omega) (by have := HB5.out.size; simp; omega) ?_; intro v6 w6 ho6 hg6 _; obtain ⟨A6, c6, rfl, _⟩ := id (Ints.of_own ho6); have HO6 := Lib.hid ho6; have HB6 := Lib.hid ((HB5.out.alloc HB5.out.size (.cells #[.int .i64 x] 3)).grown hg6 (by have := HB5.out.size; simp; omega) (fun q hq => (HO5.out.lt q hq).1)); clear ho6 hg6)
          go_roundw
          case rel => exact ⟨k + 1, acc ++ [x], A6, c6, by omega, by go_num, by simp, by simp; omega, HN, HO6, HB6⟩
          case measure => simp [intOf]; omega
        by_cases s4 : st = 4
        · subst s4
          have HN : Hid (acc ++ [x] = mapOut T (xs.take (k + 1)) ∧ badAt T (k + 1) (xs.drop (k + 1)) = badAt T 0 xs) := Lib.hid ⟨by rw [HOS.out, ← HS.out.1]; unfold mapOne; rw [if_pos (.inr hst)], bad_go HX.out HS.out.2 (by omega)⟩
          clear hst
          go_upto_region 11 with (go_at_call 46; refine HCx.out.mono ?_; rintro e w5 ⟨rfl, b5⟩)
          have HO5 := Lib.hid (own_later HOr.out b5)
          have HB5 := Lib.hid (below_then HBr.out (Nat.le_refl _) b5)
          clear x0 x1 x2 x3 x4 x5 x6 x7 x8 x9 x10 x11 e1 HCx HTr HOr HBr b5 HS HX HOS
          go_wp2_with (at_builtin; refine wpList_append_ints (by rfl) (.tmp 34) (.tmp 36) rfl Tryd.underlying22 hi hz0 hz1 hz2 (w5.heap.size + 1) w2.heap.size (.slice A9 acc.length c9) acc (.slice (some ⟨w5.heap.size, 0, none⟩) 1 1) [x] rfl (HO5.out.alloc _) rfl (by have h := Ints.of_own (own_new w5 3 [x] (by simp)); simpa using h) (by simp; omega) (by have := HB5.out.size; simp; omega) ?_; intro v6 w6 ho6 hg6 _; obtain ⟨A6, c6, rfl, _⟩ := id (Ints.of_own ho6); have HO6 := Lib.hid ho6; have HB6 := Lib.hid ((HB5.out.alloc HB5.out.size (.cells #[.int .i64 x] 3)).grown hg6 (by have := HB5.out.size; simp; omega) (fun q hq => (HO5.out.lt q hq).1)); clear ho6 hg6)
          go_roundw
          case rel => exact ⟨k + 1, acc ++ [x], A6, c6, by omega, by go_num, by simp, by simp; omega, HN, HO6, HB6⟩
          case measure => simp [intOf]; omega
        by_cases s3 : st = 3
        · subst s3
          have HN : Hid (acc ++ T.mapsOf x = mapOut T (xs.take (k + 1)) ∧ badAt T (k + 1) (xs.drop (k + 1)) = badAt T 0 xs) := Lib.hid ⟨by rw [HOS.out, ← HS.out.1]; unfold mapOne; rw [if_neg (by omega), if_pos hst], bad_go HX.out HS.out.2 (by omega)⟩
          have hml := mapsOf_len HCK.out x
          have HMx := Lib.hid (fun W (h : Below wr.heap.size wr W) => HM.out tb W x (HTr.out.later h))
          clear hst HX
          generalize T.mapsOf x = ml at *
          go_upto_region 13 with (go_at_call 46; refine HCx.out.mono ?_; rintro e w5 ⟨rfl, b5⟩)
          have HO5 := Lib.hid (own_later HOr.out b5)
          have HB5 := Lib.hid (below_then HBr.out (Nat.le_refl _) b5)
          clear x0 x1 x2 x3 x4 x5 x6 x7 x8 x9 x10 x11 e1 HCx HOr HOS
          obtain ⟨x0, x1, x2, x3, x4, x5, x6, x7, x8, x9, x10, x11⟩ := (HTr.out.later b5).1.tab
          go_wp2_with (first
            | (go_at_call 47; refine (HMx.out _ b5).mono ?_; rintro e w7 ⟨u7, rfl, hi7, _, b7⟩; obtain ⟨A7, c7, rfl, _⟩ := id hi7; have HI7 := Lib.hid hi7; have HO7 := Lib.hid (own_later HO5.out b7); have HB7 := Lib.hid (below_then HB5.out (Nat.le_refl _) b7); clear hi7 b7)
            | (at_builtin; refine wpList_append_ints (by rfl) (.tmp 40) (.tmp 43) rfl Tryd.underlying22 hi hz0 hz1 hz2 w7.heap.size w2.heap.size (.slice A9 acc.length c9) acc (.slice A7 ml.length c7) ml rfl HO7.out rfl HI7.out (by omega) HB7.out.size ?_; intro v6 w6 ho6 hg6 _; obtain ⟨A6, c6, rfl, _⟩ := id (Ints.of_own ho6); have HO6 := Lib.hid ho6; have HB6 := Lib.hid (HB7.out.grown hg6 HB7.out.size (fun q hq => (HO7.out.lt q hq).1)); clear ho6 hg6))
          go_roundw
          case rel => exact ⟨k + 1, acc ++ ml, A6, c6, by omega, by go_num, by simp, by simp; omega, HN, HO6, HB6⟩
          case measure => simp [intOf]; omega
        by_cases s0 : st = 0
        · subst s0
          have HR : Hid (mapR T xs = ([], (k : Int), 16)) := Lib.hid (mapR_bad H0.out (bad_hit HX.out HS.out.2 hst))
          clear hst
          go_wp2_with (go_at_call 46; refine HCx.out.mono ?_; rintro e w5 ⟨rfl, b5⟩)
          go_ret3
          rw [HR.out]
          exact ⟨_, rfl, World.ownsRow_nil _ _ _ _, below_next HB2.out (below_then HBr.out (Nat.le_refl _) b5)⟩
        · have g1 : (st == 1) = false := by simpa using s1
          have g4 : (st == 4) = false := by simpa using s4
          have g3 : (st == 3) = false := by simpa using s3
          have g0 : (st == 0) = false := by simpa using s0
          have HN : Hid (acc = mapOut T (xs.take (k + 1)) ∧ badAt T (k + 1) (xs.drop (k + 1)) = badAt T 0 xs) := Lib.hid ⟨by rw [HOS.out, ← HS.out.1]; unfold mapOne; rw [if_neg (by omega), if_neg (by omega)]; simp, bad_go HX.out HS.out.2 (by omega)⟩
          clear hst s1 s4 s3 s0
          go_wp2_with (go_at_call 46; refine HCx.out.mono ?_; rintro e w5 ⟨rfl, b5⟩)
          go_roundw
          case rel => exact ⟨k + 1, acc, A9, c9, by omega, by go_num, rfl, by omega, HN, Lib.hid (own_later HOr.out b5), Lib.hid (below_then HBr.out (Nat.le_refl _) b5)⟩
          case measure => simp [intOf]; omega
      · have HE := Lib.hid (bad_end (by omega) HS.out.2)
        have HA : Hid (acc = mapOut T xs) := Lib.hid (by have := HS.out.1; rwa [List.take_of_length_le (by omega)] at this)
        by_cases hfl : 4096 < acc.length
        · have HR : Hid (mapR T xs = ([], 0, 7)) := Lib.hid (mapR_full H0.out HE.out (by rw [← HA.out]; exact hfl))
          have g : (4096 : Int) < (acc.length : Int) := by omega
          clear hfl
          go_wp2_with fail
          go_ret3
          rw [HR.out]
          exact ⟨_, rfl, World.ownsRow_nil _ _ _ _, below_next HB2.out HBr.out⟩
        · have HR : Hid (mapR T xs = (acc, 0, 0)) := Lib.hid (by rw [mapR_ok H0.out HE.out (by rw [← HA.out]; omega), HA.out])
          have g : ¬ (4096 : Int) < (acc.length : Int) := by omega
          clear hfl
          go_wp2_with fail
          go_ret3
          rw [HR.out]
          exact ⟨_, rfl, row_le HOr.out HB2.out.size, below_next HB2.out HBr.out⟩
  · have HR := Lib.hid (mapR_err h0)
    have hb : (accE T xs != 0) = true := by simpa using h0
    clear h0
    go_enter Tryd.func23, Tryd.ntmps23
    go_upto_region 1 with fail
    generalize w.alloc (.cells t.cells 26) = w1 at *
    obtain ⟨x0, x1, x2, x3, x4, x5, x6, x7, x8, x9, x10, x11⟩ := HT.out.1.tab
    go_wp2_with (go_at_call 19; refine HO.out.mono ?_; rintro e w2 ⟨u2, rfl, ho2, b2⟩; obtain ⟨A2, c2, rfl, _⟩ := id (Ints.of_own ho2); clear ho2)
    go_ret3
    rw [HR.out]
    exact ⟨_, rfl, World.ownsRow_nil _ _ _ _, below_next HB0.out b2⟩
end Go.Proofs.YtneinkpfhkojgaaDoor
/-
  Laws of mapping, in plain Lean: one by one, and once for all.
-/
namespace Go.Proofs.YtneinkpfhkojgaaDoor
open Go.RowKit ND

theorem badAt_none {T : Tab} : ∀ (l : List Int) (i : Nat), badAt T i l = none ↔ ∀ c ∈ l, T.statusOf c ≠ 0 := by
  intro l
  induction l with
  | nil => intro i; simp [badAt]
  | cons c r ih =>
    intro i
    rw [badAt]
    by_cases h : T.statusOf c = 0
    · rw [if_pos h]; simp [h]
    · rw [if_neg h, ih]; simp [h]
theorem badAt_shift {T : Tab} : ∀ (l : List Int) (i : Nat), badAt T i l = (badAt T 0 l).map (· + i) := by
  intro l
  induction l with
  | nil => intro i; rfl
  | cons c r ih =>
    intro i
    rw [badAt, badAt]
    by_cases h : T.statusOf c = 0
    · rw [if_pos h, if_pos h]; simp
    · rw [if_neg h, if_neg h, ih (i + 1), ih (0 + 1), Option.map_map]
      congr 1
      funext x; simp only [Function.comp]; omega
theorem badAt_at {T : Tab} : ∀ (l : List Int) (i k : Nat), badAt T i l = some k → i ≤ k ∧ ∃ c, l[k - i]? = some c ∧ T.statusOf c = 0 ∧ ∀ j d, j < k - i → l[j]? = some d → T.statusOf d ≠ 0 := by
  intro l
  induction l with
  | nil => intro i k h; cases h
  | cons c r ih =>
    intro i k h
    rw [badAt] at h
    by_cases h0 : T.statusOf c = 0
    · rw [if_pos h0] at h; cases h
      exact ⟨Nat.le_refl _, c, by simp, h0, fun j d hj => by omega⟩
    · rw [if_neg h0] at h
      obtain ⟨h1, d, h2, h3, h4⟩ := ih (i + 1) k h
      refine ⟨by omega, d, ?_, h3, fun j e hj he => ?_⟩
      · rw [show k - i = k - (i + 1) + 1 by omega]; simpa using h2
      · cases j with
        | zero => simp at he; subst he; exact h0
        | succ j => exact h4 j e (by omega) (by simpa using he)
theorem badAt_app {T : Tab} (a b : List Int) : badAt T 0 (a ++ b) = match badAt T 0 a with | some k => some k | none => (badAt T 0 b).map (· + a.length) := by
  have key : ∀ (a : List Int) (i : Nat), badAt T i (a ++ b) = match badAt T i a with | some k => some k | none => badAt T (i + a.length) b := by
    intro a
    induction a with
    | nil => intro i; rfl
    | cons c r ih =>
      intro i
      rw [List.cons_append, badAt, badAt]
      by_cases h : T.statusOf c = 0
      · rw [if_pos h, if_pos h]
      · rw [if_neg h, if_neg h, ih, List.length_cons, show i + 1 + r.length = i + (r.length + 1) by omega]
  rw [key a 0]
  cases badAt T 0 a with
  | some k => rfl
  | none => simp only; rw [badAt_shift b (0 + a.length)]; simp
theorem mapOut_app {T : Tab} (a b : List Int) : mapOut T (a ++ b) = mapOut T a ++ mapOut T b := by unfold mapOut; rw [List.flatMap_append]
theorem mapOut_len {T : Tab} (h : T.check = 0) : ∀ l : List Int, (mapOut T l).length ≤ 18 * l.length := by
  intro l
  induction l with
  | nil => simp [mapOut]
  | cons c r ih =>
    have := mapOne_len h c
    unfold mapOut at ih ⊢
    rw [List.flatMap_cons, List.length_append, List.length_cons]; omega
end Go.Proofs.YtneinkpfhkojgaaDoor
/-
  The walk through awake of the laws of layer 13: the example of its chapter.
-/
namespace Go.Proofs.YtneinkpfhkojgaaDoor
open Go.RowKit ND

def mtTab : Tab := ⟨[], [], [], [], [], [], [], [], [], [], [], []⟩
def mtTv : Tv := ⟨.slice none 0 0, .slice none 0 0, .slice none 0 0, .slice none 0 0, .slice none 0 0, .slice none 0 0, .slice none 0 0, .slice none 0 0, .slice none 0 0, .slice none 0 0, .slice none 0 0, .slice none 0 0⟩
theorem mtTabR (w : World) (B : Nat) : TabR w B mtTv mtTab :=
  ⟨Spans.none_, Spans.none_, Spans.none_, Spans.none_, Spans.none_, Spans.none_, Spans.none_, Mapps.none_, Mapps.none_, Mapps.none_, Ints.none_, Mapps.none_⟩
theorem mt_map1 : mapR mtTab [65, 45, 98] = ([97, 45, 98], 0, 0) := by decide +kernel
theorem mt_map2 : mapR mtTab [97, 32, 98] = ([], 1, 16) := by decide +kernel

set_option maxRecDepth 100000 in
set_option maxHeartbeats 2000000 in
theorem awake13 (w : World) (hg : Glob w) : Calls Tryd.prog 24 #[] w fun e w' => e = .returned (.bool true) ∧ Below w.heap.size w w' := by
  have HG := Lib.hid (fun W (h : Below w.heap.size w W) => hg.later h)
  clear hg
  have H1 := Lib.hid (fun v W h h3 => map_any mtTv mtTab v [65, 45, 98] W (mtTabR W _) h h3)
  have H2 := Lib.hid (fun v W h h3 => map_any mtTv mtTab v [97, 32, 98] W (mtTabR W _) h h3)
  rw [mt_map1] at H1
  rw [mt_map2] at H2
  go_enter Tryd.func24, Tryd.ntmps24
  have b0 := (Below.refl w.heap.size w).alloc (Nat.le_refl _) (.cells #[.int .i64 65, .int .i64 45, .int .i64 98] 3)
  have HL0 := Lib.hid (lit_k w [65, 45, 98] (by simp))
  have HG0 := Lib.hid (HG.out _ b0)
  have B0 := Lib.hid b0
  clear b0
  go_upto_region 2 with (go_at_call 23; refine (H1.out _ _ HG0.out HL0.out).mono ?_; rintro e w1 ⟨u1, rfl, ho1, b1⟩; obtain ⟨A1, c1, rfl, _⟩ := id (Ints.of_own ho1); have HU1 := Lib.hid (Ints.of_own ho1); have B1 := Lib.hid (below_next B0.out b1); clear ho1 b1)
  have b2 := (Below.refl w1.heap.size w1).alloc (Nat.le_refl _) (.cells #[.int .i64 97, .int .i64 32, .int .i64 98] 3)
  have HL2 := Lib.hid (lit_k w1 [97, 32, 98] (by simp))
  have HG2 := Lib.hid (HG.out _ (below_next B1.out b2))
  have B2 := Lib.hid b2
  clear b2
  go_upto_region 3 with (go_at_call 23; refine (H2.out _ _ HG2.out HL2.out).mono ?_; rintro e w3 ⟨u3, rfl, _, b3⟩; have B3 := Lib.hid (below_next B2.out b3); clear b3)
  have HU3 := Lib.hid (HU1.out.later B3.out)
  have B13 := Lib.hid (below_next B1.out B3.out)
  go_wp2_with (go_at_call 20; have bl := (Below.refl w3.heap.size w3).alloc (Nat.le_refl _) (.cells #[.int .i64 97, .int .i64 45, .int .i64 98] 3); have h := same_any _ _ [97, 45, 98] [97, 45, 98] _ (HU3.out.later bl) (lit_k w3 [97, 45, 98] (by simp)); rw [decide_eq_true rfl] at h; refine h.mono ?_; rintro e w4 ⟨rfl, b4⟩; have B4 := Lib.hid (below_next (below_next B13.out bl) b4); clear bl h b4)
  go_ret
  exact ⟨rfl, B4.out⟩
end Go.Proofs.YtneinkpfhkojgaaDoor
/-
  The walks through keep.word and keep.Word.
-/
namespace Go.Proofs.YtneinkpfhkojgaaDoor
open Go.RowKit ND

def wlitL : List Int := [769, 803, 945, 946, 1072, 1488, 1576, 1632, 7680, 7681, 7682, 19968, 44032, 8204, 2381]
def wordL : List Int := [97, 98, 109, 110, 111, 114, 48, 120, 121] ++ wlitL
def wordB (c : Int) : Bool := wordL.contains c
theorem wlit_mem : ∀ c ∈ wlitL, wordB c = true := by decide
theorem word_scal : ∀ c ∈ wordL, scalarB c = true := by decide
theorem words_scal {ys : List Int} (h : ∀ c ∈ ys, wordB c = true) : ys.all scalarB = true := by
  rw [List.all_eq_true]
  exact fun c hc => word_scal c (by have := h c hc; unfold wordB at this; simpa using this)
theorem wall_snoc {acc : List Int} {y : Int} (h : ∀ x ∈ acc, wordB x = true) (h0 : wordB y = true) : ∀ x ∈ acc ++ [y], wordB x = true := by
  intro x hx
  rcases List.mem_append.1 hx with h2 | h2
  · exact h x h2
  · rw [List.mem_singleton] at h2; subst h2; exact h0

def RetWord1 (w : World) (g : Nat) (v : Value) (n : Nat) (e : Ending) (w' : World) : Prop :=
  ∃ r : Int, e = .returned (.int .i64 r) ∧ wordB r = true ∧ Src w' g v n ∧ w.grownBy w' (some g)

set_option maxRecDepth 100000 in
set_option maxHeartbeats 1000000 in
theorem word_src (w : World) (g : Nat) (v : Value) (xs : List Int) (hv : Ints w g .i64 v xs) (hs : Src w g v xs.length) :
    Calls Tryd.prog 45 #[.pointer (some ⟨g, 0, none⟩)] w (RetWord1 w g v xs.length) := by
  have hlt := hs.lt
  go_enter Tryd.func45, Tryd.ntmps45
  go_wp2_with fail
  refine (next_src w g v xs 2 hv hs (by decide) (by decide)).mono ?_
  rintro e w2 ⟨r, rfl, hr0, hr1, hs2, hg2⟩
  have hv2 := hv.grown hg2 hlt
  have hc2 : r = 0 ∨ 1 ≤ r ∧ (r == 0) = false := by
    have : r = 0 ∨ 1 ≤ r := by omega
    rcases this with h | h
    · exact .inl h
    · exact .inr ⟨h, beq_eq_false_iff_ne.2 (by omega)⟩
  rcases hc2 with rfl | ⟨h5, q0⟩
  · go_wp2_with fail
    refine (next_src w2 g v xs 9 hv2 hs2 (by decide) (by decide)).mono ?_
    rintro e w3 ⟨s, rfl, hs0, hs1', hs3, hg3⟩
    have hG3 := grown_trans hg2 hg3
    have h12 : s = 0 ∨ s = 1 ∨ s = 2 ∨ s = 3 ∨ s = 4 ∨ s = 5 ∨ s = 6 ∨ s = 7 ∨ s = 8 := by omega
    clear hs0 hs1' hg3 hv2 hs2 hg2 hv hs
    rcases h12 with rfl | rfl | rfl | rfl | rfl | rfl | rfl | rfl | rfl
    all_goals
      go_wp2_with fail
      go_ret
      exact ⟨_, rfl, by first | decide +kernel | kernel_rfl | rfl, hs3, hG3⟩
  · go_wp2_with fail
    have hg' := grown_alloc w2 (.cells #[.int .i64 769, .int .i64 803, .int .i64 945, .int .i64 946, .int .i64 1072, .int .i64 1488, .int .i64 1576, .int .i64 1632, .int .i64 7680, .int .i64 7681, .int .i64 7682, .int .i64 19968, .int .i64 44032, .int .i64 8204, .int .i64 2381] 3) (some g)
    refine (next_src _ g v xs 15 (hv2.grown hg' hs2.lt) (hs2.alloc _) (by decide) (by decide)).mono ?_
    rintro e w3 ⟨s, rfl, hs0, hs1', hs3, hg3⟩
    have hG3 := grown_trans hg2 (grown_trans hg' hg3)
    have hk := cell_kept w2.heap.size (cells_new w2 [.int .i64 769, .int .i64 803, .int .i64 945, .int .i64 946, .int .i64 1072, .int .i64 1488, .int .i64 1576, .int .i64 1632, .int .i64 7680, .int .i64 7681, .int .i64 7682, .int .i64 19968, .int .i64 44032, .int .i64 8204, .int .i64 2381] 3) hg3 (by simp) (by have := hs2.lt; omega)
    obtain ⟨m, rfl⟩ := Int.eq_ofNat_of_zero_le hs0
    have hm : m < wlitL.length := by show m < 15; omega
    obtain ⟨x, hx, hxm⟩ := get_of hm
    have k0 := hk m (.int .i64 x) (by
      have h : (wlitL.map (Value.int .i64))[m]? = some (.int .i64 x) := by rw [List.getElem?_map, hx]; rfl
      exact h)
    have hsx := Lib.hid (wlit_mem x hxm)
    clear hk hx hxm hg3 hg'
    go_wp2_with fail
    go_ret
    exact ⟨_, rfl, hsx.out, hs3, hG3⟩

/-- One to six code points of a word come back, in a row of the call's own. -/
def RetWords (w : World) (e : Ending) (w' : World) : Prop :=
  ∃ (v : Value) (ys : List Int), e = .returned v ∧ w'.ownsRow (w.heap.size + 1) 3 1 v ys.length (ys.map (Value.int .i64)) ∧ ys.length ≤ 6 ∧ (∀ c ∈ ys, wordB c = true) ∧ Below w.heap.size w w' ∧ w.heap.size + 1 ≤ w'.heap.size

set_option maxRecDepth 100000 in
set_option maxHeartbeats 1000000 in
theorem word_any (w : World) (v : Value) (xs : List Int) (hv : Ints w w.heap.size .i64 v xs) : Calls Tryd.prog 22 #[v] w (RetWords w) := by
  obtain ⟨i0, hi, hz0, hz1, hz2⟩ := info_parts Tryd.infoInt'
  obtain ⟨A, c, rfl⟩ : ∃ A c, v = .slice A xs.length c := by obtain ⟨A, c, h, _⟩ := hv; exact ⟨A, c, h⟩
  go_enter Tryd.func22, Tryd.ntmps22
  go_wp2_with fail
  refine (from_any A xs.length c w).mono ?_
  rintro e w1 ⟨rfl, rfl⟩
  have hs1 : Src (w.alloc (.cells #[.slice A xs.length c, .int .i64 0] 72)) w.heap.size (.slice A xs.length c) xs.length := ⟨0, Nat.zero_le _, Blk.new w _ _⟩
  have hbel1 : Below w.heap.size w (w.alloc (.cells #[.slice A xs.length c, .int .i64 0] 72)) := (Below.refl _ _).alloc (Nat.le_refl _) _
  have hsz1 : w.heap.size + 1 ≤ (w.alloc (.cells #[.slice A xs.length c, .int .i64 0] 72)).heap.size := by simp
  generalize w.alloc (.cells #[.slice A xs.length c, .int .i64 0] 72) = w1 at *
  have hv1 := hv.below hbel1
  go_wp2_with fail
  refine (next_src w1 w.heap.size _ xs 6 hv1 hs1 (by decide) (by decide)).mono ?_
  rintro e w2 ⟨r, rfl, hr0, hr1, hs2, hg2⟩
  have hbel2 := below_of_grown hbel1 hg2 (Nat.le_refl _) (by omega)
  have hsz2 := Nat.le_trans hsz1 hg2.size
  obtain ⟨m9, hm9⟩ := Int.eq_ofNat_of_zero_le hr0
  obtain ⟨m0, hm00⟩ : ∃ m0, m0 = m9 + 1 := ⟨_, rfl⟩
  have hm0 : m0 ≤ 6 := by omega
  have hme : 1 + r = (m0 : Int) := by omega
  clear hm9 hm00
  have HS2 := Lib.hid hs2
  have HV := Lib.hid hv
  clear hs2 hs1 hbel1 hsz1 hv1 hg2 hr0 hr1 hv
  go_wp2_with fail
  go_loopw [4, 5] (fun l n wr => ∃ (m : Nat) (acc : List Int), n = .int .i64 m ∧ acc.length + m ≤ 6 ∧ wr.ownsRow (w.heap.size + 1) 3 1 l acc.length (acc.map (Value.int .i64)) ∧ Hid (∀ x ∈ acc, wordB x = true) ∧ Hid (Src wr w.heap.size (.slice A xs.length c) xs.length) ∧ Below w.heap.size w wr ∧ w.heap.size + 1 ≤ wr.heap.size) (fun _ n _ => (intOf n).toNat)
  case atStart => exact ⟨m0, [], rfl, by simpa using hm0, World.ownsRow_nil _ _ _ _, Lib.hid (by simp), HS2, hbel2, hsz2⟩
  case round =>
    obtain ⟨m, acc, rfl, hm, hown, HF, HS, hbel, hsz⟩ := hrel
    by_cases hlt : 0 < m
    · have hv' := HV.out.below hbel
      go_wp2_with fail
      refine (word_src wr w.heap.size _ xs hv' HS.out).mono ?_
      rintro e w3 ⟨x, rfl, hx, hs3, hg3⟩
      have hbel3 := below_of_grown hbel hg3 (Nat.le_refl _) (by omega)
      have hsz3 := Nat.le_trans hsz hg3.size
      have hown3 := own_grown hown hg3 (by omega)
      have HF' := Lib.hid (wall_snoc HF.out hx)
      clear hv' hown hbel hsz hg3 HS HF hx
      have HS3 := Lib.hid hs3; clear hs3
      go_wp2_with (at_builtin; refine wpList_append_own _ rfl _ _ 22 rfl (w.heap.size + 1) 3 i0 (.int .i64 0) 1 8 Tryd.underlying22 hi hz0 hz1 hz2 rfl (by decide) _ _ _ rfl (hown3.alloc _) ⟨w3.heap.size, 0, none⟩ 1 1 [.int .i64 x] rfl rfl (cell_one_new _ _ _) ?c1 ?c2 ?c3 ?c4 ?_)
      case c1 => intro u hu; simp at hu; subst hu; rfl
      case c2 => unfold maxLen; omega
      case c3 => omega
      case c4 => simp; omega
      intro v' w4 hown4 hgrow _
      have hbel4 : Below w.heap.size w w4 := (hbel3.alloc hbel3.size _).grown hgrow (by have := hbel3.size; simp; omega) (fun k hk => by have := (hown3.lt k hk).1; omega)
      have hsz4 : w.heap.size + 1 ≤ w4.heap.size := by have := hgrow.size; simp at this; omega
      have HS4 := Lib.hid ((HS3.out.alloc _).grown hgrow (fun hk => by have := (hown3.lt _ hk.symm).1; omega))
      clear hgrow hown3 hbel3 hsz3 HS3
      go_wp2_with fail
      go_roundw
      case rel => exact ⟨m - 1, acc ++ [x], by go_num, by simp; omega, by simpa using hown4, HF', HS4, hbel4, hsz4⟩
      case measure => simp [intOf]; omega
    · go_wp2_with fail
      go_ret
      exact ⟨_, acc, rfl, hown, by omega, HF.out, hbel, hsz⟩

end Go.Proofs.YtneinkpfhkojgaaDoor
/-
  The walk through the law MappingConcatenation.
-/
namespace Go.Proofs.YtneinkpfhkojgaaDoor
open Go.RowKit ND

theorem map_eq (t : Tv) (T : Tab) (v : Value) (xs : List Int) (w : World) (r : List Int × Int × Int) (ht : TabR w w.heap.size t T) (hg : Glob w) (hv : Ints w w.heap.size .i64 v xs) (hr : mapR T xs = r) :
    Calls Tryd.prog 23 #[t.val, v] w (RetMap w r) := by subst hr; exact map_any t T v xs w ht hg hv

/-- What holds ahead of region 5. -/
structure mc5Ctx (w0 : World) (b : Nat) (t : Tv) (T : Tab) (va : Value) (as_ : List Int) (vb : Value) (bs : List Int) (vx : Value) (ae : Int) (vy : Value) (be : Int) (zl : List Int) (zi : Int) (ze : Int) : Prop where
  tb : Tbl w0 b t T
  g : Glob w0
  la : Ints w0 w0.heap.size .i64 va as_
  lb : Ints w0 w0.heap.size .i64 vb bs
  na : as_.length ≤ 6
  nb : bs.length ≤ 6
  hz : mapR T (as_ ++ bs) = (zl, zi, ze)
def mc5Specs (t : Tv) (as_ : List Int) (bs : List Int) (zl : List Int) (zi : Int) (ze : Int) : List SpecK := [.val t.val, .low (· = as_), .own as_, .low (· = bs), .own (as_ ++ bs), .tri zi ze (· = zl), .tri zi ze (· = zl), .lst (· = zl), .val (.int .i64 zi), .val (.int .i64 ze), .lst (· = zl), .val (.int .i64 zi), .val (.int .i64 ze)]
def mc5Fixed (b : Nat) (va : Value) (vb : Value) (vx : Value) (ae : Int) (vy : Value) (be : Int) : List (Tmp × Value) := [(7, .pointer (some ⟨b, 0, none⟩)), (8, va), (9, vb), (10, vx), (12, .int .i64 ae), (13, vy), (15, .int .i64 be)]
def mc5Ob (w0 : World) (b : Nat) (t : Tv) (va : Value) (as_ : List Int) (vb : Value) (bs : List Int) (vx : Value) (ae : Int) (vy : Value) (be : Int) (zl : List Int) (zi : Int) (ze : Int) (Q : Exit → Act → World → Prop) (k : Nat) : Prop := ObR 24 Tryd.prog (opsAt Tryd.f6 5) 87 [] (mc5Fixed b va vb vx ae vy be) w0 (mc5Specs t as_ bs zl zi ze) [4] Q k
section
variable {w0 : World} {b : Nat} {t : Tv} {T : Tab} {va : Value} {as_ : List Int} {vb : Value} {bs : List Int} {vx : Value} {ae : Int} {vy : Value} {be : Int} {zl : List Int} {zi : Int} {ze : Int} {Q : Exit → Act → World → Prop}
theorem mc5_ob0 (H : mc5Ctx w0 b t T va as_ vb bs vx ae vy be zl zi ze) : mc5Ob w0 b t va as_ vb bs vx ae vy be zl zi ze Q 0 := by
  intro o ho a w hb hf hd K hK
  rw [if_pos (wanted_none _ (get_op (·.guard) ho (by kernel_rfl)))]
  exact ob_value (load_tab (H.tb.later hb) (get_op (·.op) ho (by kernel_rfl)) (eval_tmp (hf.2.2 (7, _) (by simp [mc5Fixed])))) (hK _ _ (rk_of rfl rfl) (.inl (Below.refl _ _)))
theorem mc5_ob1 (H : mc5Ctx w0 b t T va as_ vb bs vx ae vy be zl zi ze) : mc5Ob w0 b t va as_ vb bs vx ae vy be zl zi ze Q 1 := by
  intro o ho a w hb hf hd K hK
  rw [if_pos (wanted_none _ (get_op (·.guard) ho (by kernel_rfl)))]
  exact ob_move (get_op (·.op) ho (by kernel_rfl)) (eval_tmp (hf.2.2 (8, _) (by simp [mc5Fixed]))) (hK _ _ (rk_of rfl ⟨_, H.la.below hb, rfl⟩) (.inl (Below.refl _ _)))
theorem mc5_ob2 (H : mc5Ctx w0 b t T va as_ vb bs vx ae vy be zl zi ze) : mc5Ob w0 b t va as_ vb bs vx ae vy be zl zi ze Q 2 := by
  intro o ho a w hb hf hd K hK
  rw [if_pos (wanted_none _ (get_op (·.guard) ho (by kernel_rfl)))]
  obtain ⟨v1, h1, e1⟩ := dep_k (F := 24) ho hd 1 41 (.low (· = as_)) (by kernel_rfl) (by kernel_rfl) rfl (by kernel_rfl)
  obtain ⟨_, hi1, rfl⟩ := e1
  obtain ⟨i0, hi, hz, hz1, hz2⟩ := info_parts Tryd.infoInt'
  refine ob_app_ints (.const (.slice none 0 0)) (.tmp 41) (get_op (·.op) ho (by kernel_rfl)) Tryd.underlying22 hi hz hz1 hz2 _ w0.heap.size (.slice none 0 0) [] _ _ rfl (World.ownsRow_nil _ _ _ _) (eval_tmp h1) hi1 (by have := H.na; simp; omega) hb.size fun v' w' hv' hg => ?_
  exact hK _ _ (rk_of rfl (by simpa [SpecK.ok] using hv')) (.inl ((Below.refl _ _).grown hg (Nat.le_refl _) (fun k hk => by cases hk)))
theorem mc5_ob3 (H : mc5Ctx w0 b t T va as_ vb bs vx ae vy be zl zi ze) : mc5Ob w0 b t va as_ vb bs vx ae vy be zl zi ze Q 3 := by
  intro o ho a w hb hf hd K hK
  rw [if_pos (wanted_none _ (get_op (·.guard) ho (by kernel_rfl)))]
  exact ob_move (get_op (·.op) ho (by kernel_rfl)) (eval_tmp (hf.2.2 (9, _) (by simp [mc5Fixed]))) (hK _ _ (rk_of rfl ⟨_, H.lb.below hb, rfl⟩) (.inl (Below.refl _ _)))
theorem mc5_ob4 (H : mc5Ctx w0 b t T va as_ vb bs vx ae vy be zl zi ze) : mc5Ob w0 b t va as_ vb bs vx ae vy be zl zi ze Q 4 := by
  intro o ho a w hb hf hd K hK
  rw [if_pos (wanted_none _ (get_op (·.guard) ho (by kernel_rfl)))]
  obtain ⟨v3, h3, e3⟩ := dep_k (F := 24) ho hd 3 43 (.low (· = bs)) (by kernel_rfl) (by kernel_rfl) rfl (by kernel_rfl)
  obtain ⟨_, hi1, rfl⟩ := e3
  obtain ⟨i0, hi, hz, hz1, hz2⟩ := info_parts Tryd.infoInt'
  obtain ⟨v2, h2, e2⟩ := dep_k (F := 24) ho hd 2 42 (.own as_) (by kernel_rfl) (by kernel_rfl) rfl (by kernel_rfl)
  refine ob_app_ints (.tmp 42) (.tmp 43) (get_op (·.op) ho (by kernel_rfl)) Tryd.underlying22 hi hz hz1 hz2 _ w0.heap.size v2 _ _ _ (eval_tmp h2) e2 (eval_tmp h3) hi1 (by have := H.na; have := H.nb; omega) hb.size fun v' w' hv' hg => ?_
  exact hK _ _ (rk_of rfl hv') (.inr ⟨rfl, (Below.refl _ _).grown hg hb.size (fun k hk => (e2.lt k hk).1)⟩)
theorem mc5_ob5 (H : mc5Ctx w0 b t T va as_ vb bs vx ae vy be zl zi ze) : mc5Ob w0 b t va as_ vb bs vx ae vy be zl zi ze Q 5 := by
  intro o ho a w hb hf hd K hK
  rw [if_pos (wanted_none _ (get_op (·.guard) ho (by kernel_rfl)))]
  obtain ⟨v0, h0, e0⟩ := dep_k (F := 24) ho hd 0 40 (.val t.val) (by kernel_rfl) (by kernel_rfl) rfl (by kernel_rfl)
  obtain rfl : v0 = _ := e0
  obtain ⟨v4, h4, e4⟩ := dep_k (F := 24) ho hd 4 44 (.own (as_ ++ bs)) (by kernel_rfl) (by kernel_rfl) rfl (by kernel_rfl)
  refine ob_enter (enter2 (tys := #[26, 22]) (x := .tmp 40) (y := .tmp 44) (get_op (·.op) ho (by kernel_rfl)) (eval_tmp h0) (eval_tmp h4) (fun args w => enters_of Tryd.func23 (by kernel_rfl) rfl args w)) (map_eq t T _ _ w _ (H.tb.later hb).2 (H.g.later hb) (Ints.of_own e4) H.hz) fun e w' ⟨u, he, h2, h1⟩ => ⟨_, he, ?_⟩
  exact hK _ _ (rk_of rfl ⟨u, _, rfl, Ints.of_own h2, rfl⟩) (.inl h1)
theorem mc5_ob6 : mc5Ob w0 b t va as_ vb bs vx ae vy be zl zi ze Q 6 := by
  intro o ho a w hb hf hd K hK
  rw [if_pos (wanted_none _ (get_op (·.guard) ho (by kernel_rfl)))]
  obtain ⟨v5, h5, e5⟩ := dep_k (F := 24) ho hd 5 45 (.tri zi ze (· = zl)) (by kernel_rfl) (by kernel_rfl) rfl (by kernel_rfl)
  exact ob_move (get_op (·.op) ho (by kernel_rfl)) (eval_tmp h5) (hK _ _ (rk_of rfl e5) (.inl (Below.refl _ _)))
theorem mc5_ob7 : mc5Ob w0 b t va as_ vb bs vx ae vy be zl zi ze Q 7 := by
  intro o ho a w hb hf hd K hK
  rw [if_pos (wanted_none _ (get_op (·.guard) ho (by kernel_rfl)))]
  obtain ⟨v6, h6, e6⟩ := dep_k (F := 24) ho hd 6 39 (.tri zi ze (· = zl)) (by kernel_rfl) (by kernel_rfl) rfl (by kernel_rfl)
  obtain ⟨u, ys, rfl, hi1, hp⟩ := e6
  exact ob_extract (k := 0) (get_op (·.op) ho (by kernel_rfl)) (eval_tmp h6) rfl (hK _ _ (rk_of rfl ⟨ys, hi1, hp⟩) (.inl (Below.refl _ _)))
theorem mc5_ob8 : mc5Ob w0 b t va as_ vb bs vx ae vy be zl zi ze Q 8 := by
  intro o ho a w hb hf hd K hK
  rw [if_pos (wanted_none _ (get_op (·.guard) ho (by kernel_rfl)))]
  obtain ⟨v6, h6, e6⟩ := dep_k (F := 24) ho hd 6 39 (.tri zi ze (· = zl)) (by kernel_rfl) (by kernel_rfl) rfl (by kernel_rfl)
  obtain ⟨u, ys, rfl, hi1, hp⟩ := e6
  exact ob_extract (k := 1) (get_op (·.op) ho (by kernel_rfl)) (eval_tmp h6) rfl (hK _ _ (rk_of rfl rfl) (.inl (Below.refl _ _)))
theorem mc5_ob9 : mc5Ob w0 b t va as_ vb bs vx ae vy be zl zi ze Q 9 := by
  intro o ho a w hb hf hd K hK
  rw [if_pos (wanted_none _ (get_op (·.guard) ho (by kernel_rfl)))]
  obtain ⟨v6, h6, e6⟩ := dep_k (F := 24) ho hd 6 39 (.tri zi ze (· = zl)) (by kernel_rfl) (by kernel_rfl) rfl (by kernel_rfl)
  obtain ⟨u, ys, rfl, hi1, hp⟩ := e6
  exact ob_extract (k := 2) (get_op (·.op) ho (by kernel_rfl)) (eval_tmp h6) rfl (hK _ _ (rk_of rfl rfl) (.inl (Below.refl _ _)))
theorem mc5_ob10 : mc5Ob w0 b t va as_ vb bs vx ae vy be zl zi ze Q 10 := by
  intro o ho a w hb hf hd K hK
  rw [if_pos (wanted_none _ (get_op (·.guard) ho (by kernel_rfl)))]
  obtain ⟨v7, h7, e7⟩ := dep_k (F := 24) ho hd 7 46 (.lst (· = zl)) (by kernel_rfl) (by kernel_rfl) rfl (by kernel_rfl)
  exact ob_assign (get_op (·.op) ho (by kernel_rfl)) (eval_tmp h7) (hK _ _ (rk_of rfl e7) (.inl (Below.refl _ _)))
theorem mc5_ob11 : mc5Ob w0 b t va as_ vb bs vx ae vy be zl zi ze Q 11 := by
  intro o ho a w hb hf hd K hK
  rw [if_pos (wanted_none _ (get_op (·.guard) ho (by kernel_rfl)))]
  obtain ⟨v8, h8, e8⟩ := dep_k (F := 24) ho hd 8 47 (.val (.int .i64 zi)) (by kernel_rfl) (by kernel_rfl) rfl (by kernel_rfl)
  obtain rfl : v8 = _ := e8
  exact ob_assign (get_op (·.op) ho (by kernel_rfl)) (eval_tmp h8) (hK _ _ (rk_of rfl rfl) (.inl (Below.refl _ _)))
theorem mc5_ob12 : mc5Ob w0 b t va as_ vb bs vx ae vy be zl zi ze Q 12 := by
  intro o ho a w hb hf hd K hK
  rw [if_pos (wanted_none _ (get_op (·.guard) ho (by kernel_rfl)))]
  obtain ⟨v9, h9, e9⟩ := dep_k (F := 24) ho hd 9 48 (.val (.int .i64 ze)) (by kernel_rfl) (by kernel_rfl) rfl (by kernel_rfl)
  obtain rfl : v9 = _ := e9
  exact ob_assign (get_op (·.op) ho (by kernel_rfl)) (eval_tmp h9) (hK _ _ (rk_of rfl rfl) (.inl (Below.refl _ _)))
theorem mc5_obs (H : mc5Ctx w0 b t T va as_ vb bs vx ae vy be zl zi ze) (k : Nat) (hk : k < 13) : mc5Ob w0 b t va as_ vb bs vx ae vy be zl zi ze Q k := by
  match k, hk with
  | 0, _ => exact mc5_ob0 H
  | 1, _ => exact mc5_ob1 H
  | 2, _ => exact mc5_ob2 H
  | 3, _ => exact mc5_ob3 H
  | 4, _ => exact mc5_ob4 H
  | 5, _ => exact mc5_ob5 H
  | 6, _ => exact mc5_ob6
  | 7, _ => exact mc5_ob7
  | 8, _ => exact mc5_ob8
  | 9, _ => exact mc5_ob9
  | 10, _ => exact mc5_ob10
  | 11, _ => exact mc5_ob11
  | 12, _ => exact mc5_ob12
  | m + 13, h => exact absurd h (by omega)
theorem mc5_region {a : Act} (H : mc5Ctx w0 b t T va as_ vb bs vx ae vy be zl zi ze) (hf : FS 87 [] (mc5Fixed b va vb vx ae vy be) a)
    (hend : ∀ a w, Below w0.heap.size w0 w → FS 87 [] (mc5Fixed b va vb vx ae vy be) a → (∀ (i : Nat) (o : Oper) (d : Tmp), (opsAt Tryd.f6 5)[i]? = some o → (∀ j, killK (mc5Specs t as_ bs zl zi ze) [4] i j = false) → o.dst = some d → ∃ v, a.tmps[d]? = some v ∧ RK w0.heap.size (mc5Specs t as_ bs zl zi ze) i v w) → Q .normal a w) : (Code.region 5 (opsAt Tryd.f6 5) true).wp Tryd.prog Q a w0 := by
  refine wp_region_k 24 (n := 87) (ds := []) (fixed := mc5Fixed b va vb vx ae vy be) (specs := mc5Specs t as_ bs zl zi ze) (apps := [4]) (by kernel_rfl) (by kernel_rfl) (by kernel_rfl) (by kernel_rfl) hf (fun i hi => mc5_obs H i ?_) hend
  have hn : (opsAt Tryd.f6 5).size = 13 := by kernel_rfl
  omega
end

/-- The three ways of a concatenation. -/
theorem mc_ways {T : Tab} {as_ bs : List Int} {al bl zl : List Int} {ai ae bi be zi ze : Int} (hck : T.check = 0) (ha : as_.length ≤ 6) (hb : bs.length ≤ 6) (sa : as_.all scalarB = true) (sb : bs.all scalarB = true) (h1 : mapR T as_ = (al, ai, ae)) (h2 : mapR T bs = (bl, bi, be)) (h3 : mapR T (as_ ++ bs) = (zl, zi, ze)) :
    (ae = 16 ∧ ze = 16 ∧ zl = [] ∧ zi < (as_.length : Int)) ∨ (ae = 0 ∧ be = 16 ∧ ze = 16 ∧ zl = [] ∧ (as_.length : Int) ≤ zi) ∨ (ae = 0 ∧ be = 0 ∧ ze = 0 ∧ zl = al ++ bl ∧ al.length ≤ 108 ∧ bl.length ≤ 108) := by
  have ea : accE T as_ = 0 := accE_ok hck (by omega) sa
  have eb : accE T bs = 0 := accE_ok hck (by omega) sb
  have ez : accE T (as_ ++ bs) = 0 := accE_ok hck (by simp; omega) (by rw [List.all_append, sa, sb]; rfl)
  have la := mapOut_len hck as_
  have lb := mapOut_len hck bs
  have hz := badAt_app (T := T) as_ bs
  cases ba : badAt T 0 as_ with
  | some k =>
    rw [ba] at hz
    rw [mapR_bad ea ba] at h1; cases h1
    rw [mapR_bad ez hz] at h3; cases h3
    obtain ⟨_, c, h4, _⟩ := badAt_at as_ 0 k ba
    have := (List.getElem?_eq_some_iff.1 h4).1
    exact .inl ⟨rfl, rfl, rfl, by omega⟩
  | none =>
    rw [ba] at hz
    rw [mapR_ok ea ba (by omega)] at h1; cases h1
    cases bb : badAt T 0 bs with
    | some k =>
      rw [bb] at hz
      rw [mapR_bad eb bb] at h2; cases h2
      rw [mapR_bad ez hz] at h3; cases h3
      exact .inr (.inl ⟨rfl, rfl, rfl, rfl, by push_cast; omega⟩)
    | none =>
      rw [bb] at hz
      rw [mapR_ok eb bb (by omega)] at h2; cases h2
      rw [mapR_ok ez hz (by rw [mapOut_app, List.length_append]; omega), mapOut_app] at h3; cases h3
      exact .inr (.inr ⟨rfl, rfl, rfl, rfl, by omega, by omega⟩)

set_option maxRecDepth 100000 in
set_option maxHeartbeats 4000000 in
theorem MappingConcatenation_go (W : World) (hg : Glob W) (v : Value) (xs : List Int) (hv : Ints W W.heap.size .i64 v xs) (vm : Value) (ms : List Int) (hm : Ints W W.heap.size .i64 vm ms) (vr : Value) (rs : List Int) (hr : Ints W W.heap.size .i64 vr rs) :
    Calls Tryd.prog 6 #[v, vm, vr] W fun e W' => e = .returned (.bool true) ∧ Below W.heap.size W W' := by
  have HG := Lib.hid hg
  have HM := Lib.hid hm
  have HR := Lib.hid hr
  obtain ⟨Ax, cx, rfl, _⟩ := id hv
  obtain ⟨Am, cm, rfl, _⟩ := id hm
  obtain ⟨Ar, cr, rfl, _⟩ := id hr
  have HT := Lib.hid (keepTables_any W _ xs hv)
  clear hv hg hm hr
  go_enter Tryd.func6, Tryd.ntmps6
  go_upto_region 2 with (go_at_call 14; refine HT.out.mono ?_; rintro e w1 ⟨t, T, rfl, ht1, hm1, hb1⟩; obtain ⟨A0, A1, A2, A3, A4, A5, A6, A7, A8, A9, A10, A11, k0, k1, k2, k3, k4, k5, k6, k7, k8, k9, k10, k11, rfl⟩ := ht1.shape; have HT1 := Lib.hid ht1; have HM1 := Lib.hid hm1; have HB1 := Lib.hid hb1; clear ht1 hm1 hb1)
  obtain ⟨t, ht, htb⟩ := Tbl.new HT1.out
  have HT2 := Lib.hid htb
  have HB2 := Lib.hid (HB1.out.alloc HB1.out.size (.cells #[.slice A0 T.category.length k0, .slice A1 T.cls.length k1, .slice A2 T.joining.length k2, .slice A3 T.bidi.length k3, .slice A4 T.script.length k4, .slice A5 T.status.length k5, .slice A6 T.ignorable.length k6, .slice A7 T.extensions.length k7, .slice A8 T.maps.length k8, .slice A9 T.decomps.length k9, .slice A10 T.excluded.length k10, .slice A11 T.prototypes.length k11] 26))
  clear htb HT1 HT
  generalize w1.alloc (.cells #[.slice A0 T.category.length k0, .slice A1 T.cls.length k1, .slice A2 T.joining.length k2, .slice A3 T.bidi.length k3, .slice A4 T.script.length k4, .slice A5 T.status.length k5, .slice A6 T.ignorable.length k6, .slice A7 T.extensions.length k7, .slice A8 T.maps.length k8, .slice A9 T.decomps.length k9, .slice A10 T.excluded.length k10, .slice A11 T.prototypes.length k11] 26) = w2 at *
  generalize w1.heap.size = tb at *
  clear ht
  have HCK := Lib.hid HM1.out.check
  have HG2 := Lib.hid (HG.out.later HB2.out)
  have HM2 := Lib.hid (HM.out.later HB2.out)
  have HR2 := Lib.hid (HR.out.later HB2.out)
  clear HG HM HR HM1
  go_upto_region 3 with (first
    | (go_at_call 22; refine (word_any _ (.slice Am ms.length cm) ms HM2.out).mono ?_; rintro e w3 ⟨u3, as_, rfl, ho3, hal, has, b3, _⟩; obtain ⟨A3, c3, rfl, _⟩ := id (Ints.of_own ho3); have HA3 := Lib.hid (Ints.of_own ho3); have HAS := Lib.hid (words_scal has); have B3 := Lib.hid b3; clear ho3 b3 HM2 has)
    | (go_at_call 22; refine (word_any _ (.slice Ar rs.length cr) rs (HR2.out.later B3.out)).mono ?_; rintro e w4 ⟨u4, bs, rfl, ho4, hbl, hbs, b4, _⟩; obtain ⟨A4, c4, rfl, _⟩ := id (Ints.of_own ho4); have HB4 := Lib.hid (Ints.of_own ho4); have HBS := Lib.hid (words_scal hbs); have HA4 := Lib.hid (HA3.out.later b4); have B4 := Lib.hid (below_next B3.out b4); clear ho4 b4 hbs))
  have H1 := Lib.hid (fun W (h : Below w2.heap.size w2 W) hi => map_any t T (.slice A3 as_.length c3) as_ W (HT2.out.later h).2 (HG2.out.later h) hi)
  have H2 := Lib.hid (fun W (h : Below w2.heap.size w2 W) hi => map_any t T (.slice A4 bs.length c4) bs W (HT2.out.later h).2 (HG2.out.later h) hi)
  obtain ⟨al, ai, ae, h1⟩ : ∃ al ai ae, mapR T as_ = (al, ai, ae) := ⟨_, _, _, rfl⟩
  obtain ⟨bl, bi, be, h2⟩ : ∃ bl bi be, mapR T bs = (bl, bi, be) := ⟨_, _, _, rfl⟩
  obtain ⟨zl, zi, ze, h3⟩ : ∃ zl zi ze, mapR T (as_ ++ bs) = (zl, zi, ze) := ⟨_, _, _, rfl⟩
  have HWY := Lib.hid (mc_ways HCK.out hal hbl HAS.out HBS.out h1 h2 h3)
  have HZ3 := Lib.hid h3
  rw [h1] at H1
  rw [h2] at H2
  clear h1 h2 h3 HAS HBS HCK
  obtain ⟨x0, x1, x2, x3, x4, x5, x6, x7, x8, x9, x10, x11⟩ := (HT2.out.later B4.out).1.tab
  go_upto_region 4 with (go_at_call 23; refine (H1.out _ B4.out HA4.out).mono ?_; rintro e w5 ⟨u5, rfl, ho5, b5⟩; obtain ⟨A5, c5, rfl, _⟩ := id (Ints.of_own ho5); have HX5 := Lib.hid (Ints.of_own ho5); have B5 := Lib.hid (below_next B4.out b5); have HB5 := Lib.hid (HB4.out.later b5); have HA5 := Lib.hid (HA4.out.later b5); clear ho5 b5)
  clear x0 x1 x2 x3 x4 x5 x6 x7 x8 x9 x10 x11
  obtain ⟨x0, x1, x2, x3, x4, x5, x6, x7, x8, x9, x10, x11⟩ := (HT2.out.later B5.out).1.tab
  go_upto_region 5 with (go_at_call 23; refine (H2.out _ B5.out HB5.out).mono ?_; rintro e w6 ⟨u6, rfl, ho6, b6⟩; obtain ⟨A6, c6, rfl, _⟩ := id (Ints.of_own ho6); have HY6 := Lib.hid (Ints.of_own ho6); have B6 := Lib.hid (below_next B5.out b6); have HB6 := Lib.hid (HB5.out.later b6); have HA6 := Lib.hid (HA5.out.later b6); have HX6 := Lib.hid (HX5.out.later b6); clear ho6 b6)
  rename_i K hK
  clear x0 x1 x2 x3 x4 x5 x6 x7 x8 x9 x10 x11 H1 H2 HA3 HA4 HA5 HB4 HB5 HX5
  refine wp_region_as (ops := (opsAt Tryd.f6 5)) (by kernel_rfl) ?_
  refine mc5_region (b := tb) (t := t) (T := T) (va := .slice A3 as_.length c3) (as_ := as_) (vb := .slice A4 bs.length c4) (bs := bs) (vx := .slice A5 al.length c5) (ae := ae) (vy := .slice A6 bl.length c6) (be := be) (zl := zl) (zi := zi) (ze := ze) ⟨HT2.out.later B6.out, HG2.out.later B6.out, HA6.out, HB6.out, hal, hbl, HZ3.out⟩ ⟨rfl, rfl, by intro p hp; simp [mc5Fixed] at hp; rcases hp with rfl | rfl | rfl | rfl | rfl | rfl | rfl <;> rfl⟩ ?_
  intro a w7 hb hf hr
  obtain ⟨v16, h16, zs, hi16, hz16⟩ := end_k hr 10 16 (.lst (· = zl)) (by kernel_rfl) rfl (by kernel_rfl)
  obtain ⟨v17, h17, e17⟩ := end_k hr 11 17 (.val (.int .i64 zi)) (by kernel_rfl) rfl (by kernel_rfl)
  obtain rfl : v17 = .int .i64 zi := e17
  obtain ⟨v18, h18, e18⟩ := end_k hr 12 18 (.val (.int .i64 ze)) (by kernel_rfl) rfl (by kernel_rfl)
  obtain rfl : v18 = .int .i64 ze := e18
  obtain rfl : zs = zl := hz16
  obtain ⟨A7, c7, rfl, _⟩ := id hi16
  have HI7 := Lib.hid hi16
  have B7 := Lib.hid (B6.out.trans (hb.mono B6.out.size))
  have HX7 := Lib.hid (HX6.out.later hb)
  have HY7 := Lib.hid (HY6.out.later hb)
  have hs := hf.1
  have hd := hf.2.1
  refine hK a w7 ?_
  obtain ⟨fa, hfa, ha⟩ := act_fun hs hd
  have ea7 : fa 7 = .pointer (some ⟨tb, 0, none⟩) := Option.some.inj ((hfa 7 (by decide)).symm.trans (hf.2.2 (7, _) (by simp [mc5Fixed])))
  have ea8 : fa 8 = .slice A3 as_.length c3 := Option.some.inj ((hfa 8 (by decide)).symm.trans (hf.2.2 (8, _) (by simp [mc5Fixed])))
  have ea10 : fa 10 = .slice A5 al.length c5 := Option.some.inj ((hfa 10 (by decide)).symm.trans (hf.2.2 (10, _) (by simp [mc5Fixed])))
  have ea12 : fa 12 = .int .i64 ae := Option.some.inj ((hfa 12 (by decide)).symm.trans (hf.2.2 (12, _) (by simp [mc5Fixed])))
  have ea13 : fa 13 = .slice A6 bl.length c6 := Option.some.inj ((hfa 13 (by decide)).symm.trans (hf.2.2 (13, _) (by simp [mc5Fixed])))
  have ea15 : fa 15 = .int .i64 be := Option.some.inj ((hfa 15 (by decide)).symm.trans (hf.2.2 (15, _) (by simp [mc5Fixed])))
  have ea16 : fa 16 = .slice A7 zs.length c7 := Option.some.inj ((hfa 16 (by decide)).symm.trans (h16))
  have ea17 : fa 17 = .int .i64 zi := Option.some.inj ((hfa 17 (by decide)).symm.trans (h17))
  have ea18 : fa 18 = .int .i64 ze := Option.some.inj ((hfa 18 (by decide)).symm.trans (h18))
  have ha2 : a = ⟨#[fa 0, fa 1, fa 2, fa 3, fa 4, fa 5, fa 6, fa 7, fa 8, fa 9, fa 10, fa 11, fa 12, fa 13, fa 14, fa 15, fa 16, fa 17, fa 18, fa 19, fa 20, fa 21, fa 22, fa 23, fa 24, fa 25, fa 26, fa 27, fa 28, fa 29, fa 30, fa 31, fa 32, fa 33, fa 34, fa 35, fa 36, fa 37, fa 38, fa 39, fa 40, fa 41, fa 42, fa 43, fa 44, fa 45, fa 46, fa 47, fa 48, fa 49, fa 50, fa 51, fa 52, fa 53, fa 54, fa 55, fa 56, fa 57, fa 58, fa 59, fa 60, fa 61, fa 62, fa 63, fa 64, fa 65, fa 66, fa 67, fa 68, fa 69, fa 70, fa 71, fa 72, fa 73, fa 74, fa 75, fa 76, fa 77, fa 78, fa 79, fa 80, fa 81, fa 82, fa 83, fa 84, fa 85, fa 86], []⟩ := ha.trans (by kernel_rfl)
  rw [ea7, ea8, ea10, ea12, ea13, ea15, ea16, ea17, ea18] at ha2
  clear ha hfa ea7 ea8 ea10 ea12 ea13 ea15 ea16 ea17 ea18
  subst ha2
  clear hf hr h16 h17 h18 hs hd hi16 hK
  rcases HWY.out with ⟨rfl, rfl, rfl, hlt⟩ | ⟨rfl, rfl, rfl, rfl, hge⟩ | ⟨rfl, rfl, rfl, rfl, l1, l2⟩
  · have g : decide ((as_.length : Int) ≤ zi) = false := decide_eq_false (by omega)
    go_wp2_with (go_at_call 24; refine (awake13 _ (HG2.out.later B7.out)).mono ?_; rintro e w8 ⟨rfl, b8⟩)
    go_ret
    exact ⟨rfl, below_next HB2.out (below_next B7.out b8)⟩
  · have g : decide ((as_.length : Int) ≤ zi) = true := decide_eq_true hge
    go_wp2_with (go_at_call 24; refine (awake13 _ (HG2.out.later B7.out)).mono ?_; rintro e w8 ⟨rfl, b8⟩)
    go_ret
    exact ⟨rfl, below_next HB2.out (below_next B7.out b8)⟩
  · have hi7 := HI7.out
    rw [List.length_append] at hi7
    clear HI7
    have HI7 := Lib.hid hi7
    clear hi7
    obtain ⟨i0, hi, hz0, hz1, hz2⟩ := info_parts Tryd.infoInt'
    go_wp2_with (first
      | (go_at_call 24; refine (awake13 _ (HG2.out.later B7.out)).mono ?_; rintro e w8 ⟨rfl, b8⟩; have HX8 := Lib.hid (HX7.out.later b8); have HY8 := Lib.hid (HY7.out.later b8); have HI8 := Lib.hid (HI7.out.later b8); have B8 := Lib.hid (below_next B7.out b8); clear b8)
      | (at_builtin; refine wpList_append_ints (by rfl) (.const (.slice none 0 0)) (.tmp 81) rfl Tryd.underlying22 hi hz0 hz1 hz2 w8.heap.size w8.heap.size (.slice none 0 0) [] (.slice A5 al.length c5) al rfl (World.ownsRow_nil _ _ _ _) rfl HX8.out (by simp; omega) (Nat.le_refl _) ?_; intro v9 w9 ho9 hg9 _; simp only [List.nil_append] at ho9; have HO9 := Lib.hid ho9; have B9 := Lib.hid ((Below.refl _ _).grown hg9 (Nat.le_refl _) (fun k hk => by cases hk) : Below w8.heap.size w8 w9); clear ho9 hg9)
      | (at_builtin; refine wpList_append_ints (by rfl) (.tmp 82) (.tmp 83) rfl Tryd.underlying22 hi hz0 hz1 hz2 w8.heap.size w8.heap.size v9 al (.slice A6 bl.length c6) bl rfl HO9.out rfl (HY8.out.below B9.out) (by omega) B9.out.size ?_; intro v11 w11 ho11 hg11 _; have HO11 := Lib.hid ho11; have B11 := Lib.hid (B9.out.grown hg11 B9.out.size (fun q hq => (HO9.out.lt q hq).1) : Below w8.heap.size w8 w11); clear ho11 hg11)
      | (go_at_call 20; have h := same_any (.slice A7 (al.length + bl.length) c7) v11 (al ++ bl) (al ++ bl) w11 (HI8.out.later B11.out) (Ints.of_own HO11.out); rw [decide_eq_true rfl] at h; refine h.mono ?_; rintro e w12 ⟨rfl, b12⟩; clear h))
    go_ret
    exact ⟨rfl, below_next HB2.out (below_next (below_next B8.out B11.out) b12)⟩
theorem MappingConcatenation_walk (W : World) (hg : Glob W) (v : Value) (xs : List Int) (hv : Ints W W.heap.size .i64 v xs) (_ : ∀ x ∈ xs, -9223372036854775808 ≤ x ∧ x ≤ 9223372036854775807) (_ : xs.length * 8 ≤ 140737488351232) (vm : Value) (ms : List Int) (hm : Ints W W.heap.size .i64 vm ms) (_ : ∀ x ∈ ms, -9223372036854775808 ≤ x ∧ x ≤ 9223372036854775807) (_ : ms.length * 8 ≤ 140737488351232) (vr : Value) (rs : List Int) (hr : Ints W W.heap.size .i64 vr rs) (_ : ∀ x ∈ rs, -9223372036854775808 ≤ x ∧ x ≤ 9223372036854775807) (_ : rs.length * 8 ≤ 140737488351232) :
    Calls Tryd.prog 6 #[v, vm, vr] W fun e W' => e = .returned (.bool true) ∧ Below W.heap.size W W' := MappingConcatenation_go W hg v xs hv vm ms hm vr rs hr
end Go.Proofs.YtneinkpfhkojgaaDoor
/-
  Plain law of TableMapped: exactly the code points with the status Mapped are mapped, to permitted ones. No program in sight.
-/
namespace ND
open Go

theorem value_mem {l : List Sp} {c : Int} (h : valueL l c ≠ 0) : ∃ s ∈ l, s.1 ≤ c ∧ c ≤ s.2.1 ∧ valueL l c = s.2.2 := by
  induction l with
  | nil => exact absurd rfl h
  | cons a r ih =>
    rw [valueL] at h ⊢
    by_cases h1 : a.1 ≤ c ∧ c ≤ a.2.1
    · rw [if_pos h1]; exact ⟨a, List.mem_cons_self, h1.1, h1.2, rfl⟩
    · rw [if_neg h1] at h ⊢
      obtain ⟨s, hs, h2⟩ := ih h
      exact ⟨s, List.mem_cons_of_mem _ hs, h2⟩

theorem Made.mapped {T : Tab} (h : Made T) (x : Int) : (T.mapsOf x ≠ [] ↔ T.statusOf x = 3) ∧ ∀ y ∈ T.mapsOf x, T.statusOf y = 1 ∨ T.statusOf y = 4 := by
  have hst := Go.Proofs.YtneinkpfhkojgaaDoor.status_ref (T := T) h.shape.c5
  have h5 := h.rule5
  unfold Tab.rule5 at h5
  rw [Bool.and_eq_true, List.all_eq_true] at h5
  by_cases hx : 65 ≤ x ∧ x ≤ 90
  · unfold Tab.mapsOf
    rw [if_pos hx]
    refine ⟨⟨fun _ => ?_, fun _ => by simp⟩, fun y hy => ?_⟩
    · rw [hst, if_neg, if_pos hx]
      rw [nameB_iff, sylB_iff]; omega
    · rw [List.mem_singleton] at hy
      subst hy
      rw [hst, if_pos (.inl (by rw [nameB_iff]; omega))]
      exact .inl rfl
  · unfold Tab.mapsOf
    rw [if_neg hx]
    refine ⟨⟨fun hf => ?_, fun hs => ?_⟩, fun y hy => ?_⟩
    · have hm := h5.2 _ (findL_mem hf)
      unfold Tab.mapOk at hm
      rw [Bool.and_eq_true, decide_eq_true_eq] at hm
      exact hm.1
    · rw [hst] at hs
      split at hs
      · cases hs
      · obtain ⟨s, hsm, h1, h2, h3⟩ := value_mem (l := T.status) (c := x) (by omega)
        have he := (h.map.col.2 s hsm).1
        obtain rfl : x = s.1 := by omega
        have hk : s.1 ∈ keysOf T.maps := by
          rw [← h.map.same]
          exact List.mem_map.2 ⟨s, List.mem_filter.2 ⟨hsm, by simpa using (by omega : s.2.2 = 3)⟩, rfl⟩
        obtain ⟨m, hm, hme⟩ := List.mem_map.1 hk
        have hp : (keysOf T.maps).Pairwise (· < ·) := by
          rw [← h.map.same]
          exact ((pool_sort.sublist (List.take_sublist _ _)).sublist h.map.col.1).sublist (List.filter_sublist.map _)
        rw [← hme, find_key hp hm]
        obtain ⟨a, _, hl⟩ := h.map.form m hm
        rcases hl with hl | hl <;> rw [hl] <;> simp
    · have hf : findL T.maps x ≠ [] := fun e => by rw [e] at hy; cases hy
      have hm := h5.2 _ (findL_mem hf)
      unfold Tab.mapOk at hm
      rw [Bool.and_eq_true, List.all_eq_true] at hm
      simpa [okStat] using hm.2 y hy
end ND
/-
  The walk through the law MappingPermitted.
-/
namespace Go.Proofs.YtneinkpfhkojgaaDoor
open Go.RowKit ND

theorem mapOut_ok {T : Tab} (h : ∀ x y, y ∈ T.mapsOf x → T.statusOf y = 1 ∨ T.statusOf y = 4) {l : List Int} {y : Int} (hy : y ∈ mapOut T l) : T.statusOf y = 1 ∨ T.statusOf y = 4 := by
  unfold mapOut at hy
  obtain ⟨c, _, hc⟩ := List.mem_flatMap.1 hy
  unfold mapOne at hc
  split at hc
  · rename_i h1
    rw [List.mem_singleton] at hc; subst hc; exact h1
  · split at hc
    · exact h c y hc
    · cases hc
theorem points_acc {T : Tab} {l : List Int} (hck : T.check = 0) (hl : l.length ≤ 10) (hs : ∀ c ∈ l, scalarB c = true) : accE T l = 0 := accE_ok hck (by omega) (List.all_eq_true.2 hs)

set_option maxRecDepth 100000 in
set_option maxHeartbeats 4000000 in
theorem MappingPermitted_go (W : World) (hg : Glob W) (v : Value) (xs : List Int) (hv : Ints W W.heap.size .i64 v xs) (vm : Value) (ms : List Int) (hm : Ints W W.heap.size .i64 vm ms) :
    Calls Tryd.prog 7 #[v, vm] W fun e W' => e = .returned (.bool true) ∧ Below W.heap.size W W' := by
  have HG := Lib.hid hg
  have HM := Lib.hid hm
  obtain ⟨Ax, cx, rfl, _⟩ := id hv
  obtain ⟨Am, cm, rfl, _⟩ := id hm
  have HT := Lib.hid (keepTables_any W _ xs hv)
  clear hv hg hm
  go_enter Tryd.func7, Tryd.ntmps7
  go_upto_region 2 with (go_at_call 14; refine HT.out.mono ?_; rintro e w1 ⟨t, T, rfl, ht1, hm1, hb1⟩; obtain ⟨A0, A1, A2, A3, A4, A5, A6, A7, A8, A9, A10, A11, k0, k1, k2, k3, k4, k5, k6, k7, k8, k9, k10, k11, rfl⟩ := ht1.shape; have HT1 := Lib.hid ht1; have HM1 := Lib.hid hm1; have HB1 := Lib.hid hb1; clear ht1 hm1 hb1)
  obtain ⟨t, ht, htb⟩ := Tbl.new HT1.out
  have HT2 := Lib.hid htb
  have HB2 := Lib.hid (HB1.out.alloc HB1.out.size (.cells #[.slice A0 T.category.length k0, .slice A1 T.cls.length k1, .slice A2 T.joining.length k2, .slice A3 T.bidi.length k3, .slice A4 T.script.length k4, .slice A5 T.status.length k5, .slice A6 T.ignorable.length k6, .slice A7 T.extensions.length k7, .slice A8 T.maps.length k8, .slice A9 T.decomps.length k9, .slice A10 T.excluded.length k10, .slice A11 T.prototypes.length k11] 26))
  clear htb HT1 HT
  generalize w1.alloc (.cells #[.slice A0 T.category.length k0, .slice A1 T.cls.length k1, .slice A2 T.joining.length k2, .slice A3 T.bidi.length k3, .slice A4 T.script.length k4, .slice A5 T.status.length k5, .slice A6 T.ignorable.length k6, .slice A7 T.extensions.length k7, .slice A8 T.maps.length k8, .slice A9 T.decomps.length k9, .slice A10 T.excluded.length k10, .slice A11 T.prototypes.length k11] 26) = w2 at *
  generalize w1.heap.size = tb at *
  clear ht
  have HCK := Lib.hid HM1.out.check
  have HMP : Hid (∀ x y, y ∈ T.mapsOf x → T.statusOf y = 1 ∨ T.statusOf y = 4) := Lib.hid fun x y hy => (HM1.out.mapped x).2 y hy
  have HG2 := Lib.hid (HG.out.later HB2.out)
  have HM2 := Lib.hid (HM.out.later HB2.out)
  clear HG HM HM1
  have HC : Hid (∀ (b : Nat) (W : World) (x : Int), Tbl W b t T → Calls Tryd.prog 26 #[.agg #[t.c0, t.c1, t.c2, t.c3, t.c4, t.c5, t.c6, t.c7, t.c8, t.c9, t.c10, t.c11], .int .i64 x] W fun e W' => e = .returned (.int .i64 (T.statusOf x)) ∧ Below W.heap.size W W') := Lib.hid fun b W x h => refStatus_any t T x W h.2 (shape_of HCK.out).c5
  go_upto_region 3 with (go_at_call 25; refine (points_any _ (.slice Am ms.length cm) ms HM2.out).mono ?_; rintro e w3 ⟨u3, as_, rfl, hi3, hal, has, b3⟩; obtain ⟨A3, c3, rfl, _⟩ := id hi3; have HA3 := Lib.hid hi3; have B3 := Lib.hid b3; clear hi3 b3 HM2)
  have EA := Lib.hid (points_acc HCK.out hal has)
  have hol := mapOut_len HCK.out as_
  obtain ⟨ol, ai, ae, h1⟩ : ∃ ol ai ae, mapR T as_ = (ol, ai, ae) := ⟨_, _, _, rfl⟩
  have H1 := Lib.hid (map_any t T (.slice A3 as_.length c3) as_ w3 (HT2.out.later B3.out).2 (HG2.out.later B3.out) HA3.out)
  rw [h1] at H1
  have HR1 := Lib.hid h1
  clear h1 has
  obtain ⟨x0, x1, x2, x3, x4, x5, x6, x7, x8, x9, x10, x11⟩ := (HT2.out.later B3.out).1.tab
  go_upto_region 4 with (go_at_call 23; refine H1.out.mono ?_; rintro e w5 ⟨u5, rfl, ho5, b5⟩; obtain ⟨A5, c5, rfl, _⟩ := id (Ints.of_own ho5); have HX5 := Lib.hid (Ints.of_own ho5); have B5 := Lib.hid (below_next B3.out b5); have HA5 := Lib.hid (HA3.out.later b5); clear ho5 b5)
  clear x0 x1 x2 x3 x4 x5 x6 x7 x8 x9 x10 x11 H1 HA3
  go_wp2_with fail
  go_loopw [28] (fun s28 wr => ∃ i : Nat, i ≤ as_.length ∧ s28 = .int .i64 i ∧ Hid (badAt T i (as_.drop i) = badAt T 0 as_) ∧ Hid (Below w5.heap.size w5 wr)) (fun i _ => as_.length - (intOf i).toNat)
  case atStart => exact ⟨0, by omega, rfl, Lib.hid rfl, Lib.hid (Below.refl _ _)⟩
  case round =>
    obtain ⟨i, hin, rfl, HS, HBr⟩ := hrel
    by_cases hlt : i < as_.length
    · obtain ⟨c, hc, _⟩ := get_of hlt
      obtain ⟨_, _, hve, _, _, _, hcell⟩ := HA5.out
      cases hve
      obtain ⟨ad, rfl, ha, hce⟩ := hcell i c hc
      have e1 := (HBr.out.cell (p := ad.add i) (by rw [block_of_add]; exact ha)).trans hce
      have q0 : (0 : Int) ≤ (i : Int) := by omega
      have q1 : (i : Int) < (as_.length : Int) := by omega
      have B6 := Lib.hid (below_next B5.out HBr.out)
      have HTr := Lib.hid (HT2.out.later B6.out)
      have HCc := Lib.hid (HC.out tb wr c HTr.out)
      obtain ⟨x0, x1, x2, x3, x4, x5, x6, x7, x8, x9, x10, x11⟩ := HTr.out.1.tab
      by_cases h0 : T.statusOf c = 0
      · have hr := mapR_bad EA.out (bad_hit hc HS.out h0)
        rw [HR1.out] at hr
        injection hr with h9 hr
        injection hr with h10 h11
        subst h9; subst h10; subst h11
        rw [h0] at HCc
        clear h0 hcell hce ha hc
        go_wp2_with (first
          | (go_at_call 26; refine HCc.out.mono ?_; rintro e w7 ⟨rfl, b7⟩; have B7 := Lib.hid (below_next B6.out b7); clear HCc)
          | (go_at_call 24; refine (awake13 _ (HG2.out.later B7.out)).mono ?_; rintro e w8 ⟨rfl, b8⟩))
        go_ret
        exact ⟨rfl, below_next HB2.out (below_next B7.out b8)⟩
      · have b0 : (T.statusOf c == 0) = false := by simpa using h0
        have HN := Lib.hid (bad_go hc HS.out h0)
        clear h0 hcell hce ha hc
        go_wp2_with (go_at_call 26; refine HCc.out.mono ?_; rintro e w7 ⟨rfl, b7⟩)
        go_roundw
        case rel => exact ⟨i + 1, by omega, by go_num, HN, Lib.hid (below_then HBr.out (Nat.le_refl _) b7)⟩
        case measure => simp [intOf]; omega
    · have hr := mapR_ok EA.out (bad_end (by omega) HS.out) (by omega)
      rw [HR1.out] at hr
      injection hr with h9 hr
      injection hr with h10 h11
      subst h10; subst h11
      have HOL := Lib.hid h9
      clear h9
      have hll : ol.length ≤ 180 := by rw [HOL.out]; omega
      have q1 : ¬ (i : Int) < (as_.length : Int) := by omega
      go_wp2_with fail
      go_loopw [55] (fun s55 wr => ∃ j : Nat, j ≤ ol.length ∧ s55 = .int .i64 j ∧ Hid (Below w5.heap.size w5 wr)) (fun i _ => ol.length - (intOf i).toNat)
      case atStart => exact ⟨0, by omega, rfl, HBr⟩
      case round =>
        clear HBr HS
        obtain ⟨j, hjn, rfl, HBr⟩ := hrel
        have B6 := Lib.hid (below_next B5.out HBr.out)
        by_cases hj : j < ol.length
        · obtain ⟨y, hy, hym⟩ := get_of hj
          obtain ⟨_, _, hve, _, _, _, hcell⟩ := HX5.out
          cases hve
          obtain ⟨ad, rfl, ha, hce⟩ := hcell j y hy
          have e1 := (HBr.out.cell (p := ad.add j) (by rw [block_of_add]; exact ha)).trans hce
          have hst := mapOut_ok HMP.out (by rw [← HOL.out]; exact hym : y ∈ mapOut T as_)
          have q0 : (0 : Int) ≤ (j : Int) := by omega
          have q2 : (j : Int) < (ol.length : Int) := by omega
          have HTr := Lib.hid (HT2.out.later B6.out)
          have HCc := Lib.hid (HC.out tb wr y HTr.out)
          obtain ⟨x0, x1, x2, x3, x4, x5, x6, x7, x8, x9, x10, x11⟩ := HTr.out.1.tab
          clear hcell hce ha hy hym
          rcases hst with hst | hst
          · rw [hst] at HCc
            clear hst
            go_wp2_with (go_at_call 26; refine HCc.out.mono ?_; rintro e w7 ⟨rfl, b7⟩)
            go_roundw
            case rel => exact ⟨j + 1, by omega, by go_num, Lib.hid (below_then HBr.out (Nat.le_refl _) b7)⟩
            case measure => simp [intOf]; omega
          · rw [hst] at HCc
            clear hst
            go_wp2_with (go_at_call 26; refine HCc.out.mono ?_; rintro e w7 ⟨rfl, b7⟩)
            go_roundw
            case rel => exact ⟨j + 1, by omega, by go_num, Lib.hid (below_then HBr.out (Nat.le_refl _) b7)⟩
            case measure => simp [intOf]; omega
        · have q2 : ¬ (j : Int) < (ol.length : Int) := by omega
          go_wp2_with (go_at_call 24; refine (awake13 _ (HG2.out.later B6.out)).mono ?_; rintro e w8 ⟨rfl, b8⟩)
          go_ret
          exact ⟨rfl, below_next HB2.out (below_next B6.out b8)⟩
theorem MappingPermitted_walk (W : World) (hg : Glob W) (v : Value) (xs : List Int) (hv : Ints W W.heap.size .i64 v xs) (_ : ∀ x ∈ xs, -9223372036854775808 ≤ x ∧ x ≤ 9223372036854775807) (_ : xs.length * 8 ≤ 140737488351232) (vm : Value) (ms : List Int) (hm : Ints W W.heap.size .i64 vm ms) (_ : ∀ x ∈ ms, -9223372036854775808 ≤ x ∧ x ≤ 9223372036854775807) (_ : ms.length * 8 ≤ 140737488351232) :
    Calls Tryd.prog 7 #[v, vm] W fun e W' => e = .returned (.bool true) ∧ Below W.heap.size W W' := MappingPermitted_go W hg v xs hv vm ms hm
end Go.Proofs.YtneinkpfhkojgaaDoor
/-
  The walk through mapping.Stable.
-/
namespace Go.Proofs.YtneinkpfhkojgaaDoor
open Go.RowKit ND

/-- Whether mapping does not change a sequence. -/
def stableB (T : Tab) (xs : List Int) : Bool := (mapR T xs).2.2 == 0 && decide ((mapR T xs).1 = xs)

set_option maxRecDepth 100000 in
set_option maxHeartbeats 1000000 in
theorem stable_any (t : Tv) (T : Tab) (v : Value) (xs : List Int) (w : World) (ht : TabR w w.heap.size t T) (hg : Glob w) (hv : Ints w w.heap.size .i64 v xs) :
    Calls Tryd.prog 30 #[t.val, v] w fun e w' => e = .returned (.bool (stableB T xs)) ∧ Below w.heap.size w w' := by
  obtain ⟨A, c, rfl, _⟩ := id hv
  have HB0 : Hid (Below w.heap.size w (w.alloc (.cells t.cells 26))) := Lib.hid ((Below.refl _ _).alloc (Nat.le_refl _) _)
  have HT : Hid (Tbl (w.alloc (.cells t.cells 26)) w.heap.size t T) := Lib.hid ⟨Blk.new _ _ _, ht.later HB0.out⟩
  have HV := Lib.hid (hv.later HB0.out)
  have HO := Lib.hid (map_any t T _ xs _ HT.out.2 (hg.later HB0.out) HV.out)
  clear hv ht hg
  unfold stableB
  obtain ⟨ys, ai, er, hr⟩ : ∃ ys ai er, mapR T xs = (ys, ai, er) := ⟨_, _, _, rfl⟩
  rw [hr] at HO ⊢
  clear hr
  show Calls _ _ _ _ fun e w' => e = .returned (.bool (er == 0 && decide (ys = xs))) ∧ _
  obtain ⟨R, hR⟩ : ∃ R, R = decide (ys = xs) := ⟨_, rfl⟩
  have HR := Lib.hid hR
  rw [← hR]
  clear hR
  go_enter Tryd.func30, Tryd.ntmps30
  go_upto_region 1 with fail
  generalize w.alloc (.cells t.cells 26) = w1 at *
  obtain ⟨x0, x1, x2, x3, x4, x5, x6, x7, x8, x9, x10, x11⟩ := HT.out.1.tab
  go_upto_region 2 with (go_at_call 23; refine HO.out.mono ?_; rintro e w2 ⟨u, rfl, ho2, b2⟩; obtain ⟨A2, c2, rfl, _⟩ := id (Ints.of_own ho2); have HU := Lib.hid (Ints.of_own ho2); clear ho2)
  have HEQ : Hid (∀ V, Below w2.heap.size w2 V → Calls Tryd.prog 54 #[.slice A2 ys.length c2, .slice A xs.length c] V fun e V' => e = .returned (.bool R) ∧ Below V.heap.size V V') := Lib.hid fun V hV => by
    have h := equal_any _ _ ys xs V (HU.out.later hV) ((HV.out.later b2).later hV)
    rw [← HR.out] at h; exact h
  clear x0 x1 x2 x3 x4 x5 x6 x7 x8 x9 x10 x11
  by_cases h0 : er = 0
  · have hb : (er == 0) = true := by rw [h0]; rfl
    clear h0
    go_wp2_with (go_at_call 54; refine (HEQ.out _ (Below.refl _ _)).mono ?_; rintro e w3 ⟨rfl, b3⟩)
    go_ret
    exact ⟨by rw [hb]; rfl, below_next (below_next HB0.out b2) b3⟩
  · have hb : (er == 0) = false := by simpa using h0
    clear h0
    go_wp2_with fail
    go_ret
    exact ⟨by rw [hb]; rfl, below_next HB0.out b2⟩
end Go.Proofs.YtneinkpfhkojgaaDoor
/-
  The walk through the law MappingTwice.
-/
namespace Go.Proofs.YtneinkpfhkojgaaDoor
open Go.RowKit ND

theorem mapsOf_scal {T : Tab} (h : T.check = 0) (c y : Int) (hy : y ∈ T.mapsOf c) : scalarB y = true := by
  unfold Tab.mapsOf at hy
  split at hy
  · rename_i h1
    rw [List.mem_singleton] at hy
    subst hy
    rw [scalarB_iff]; omega
  · by_cases h0 : findL T.maps c = []
    · rw [h0] at hy; cases hy
    · have h4 := (rules_of h).2.2.2.1
      unfold Tab.rule4 at h4
      simp only [Bool.and_eq_true] at h4
      have h5 := (toB_iff.1 (List.all_eq_true.1 h4.2.1 _ (findL_mem h0))).2.2
      simp only [Bool.false_eq_true, if_false] at h5
      exact List.all_eq_true.1 h5 y hy
theorem mapOut_scal {T : Tab} (h : T.check = 0) {l : List Int} (hl : l.all scalarB = true) : (mapOut T l).all scalarB = true := by
  rw [List.all_eq_true] at hl ⊢
  intro y hy
  unfold mapOut at hy
  obtain ⟨c, hc, hy⟩ := List.mem_flatMap.1 hy
  unfold mapOne at hy
  split at hy
  · rw [List.mem_singleton] at hy; subst hy; exact hl _ hc
  · split at hy
    · exact mapsOf_scal h c y hy
    · cases hy
theorem mapOut_same {T : Tab} : ∀ {l : List Int}, (∀ c ∈ l, T.statusOf c = 1 ∨ T.statusOf c = 4) → mapOut T l = l := by
  intro l
  induction l with
  | nil => intro _; rfl
  | cons c r ih =>
    intro h
    have h1 : mapOne T c = [c] := by unfold mapOne; rw [if_pos (h c List.mem_cons_self)]
    have h2 := ih fun d hd => h d (List.mem_cons_of_mem _ hd)
    unfold mapOut at h2 ⊢
    rw [List.flatMap_cons, h1, h2]; rfl
/-- What Map has handed back is mapped to itself. -/
theorem map_twice {T : Tab} (h : T.check = 0) (hm : ∀ x y, y ∈ T.mapsOf x → T.statusOf y = 1 ∨ T.statusOf y = 4) {l ol : List Int} {ai ae : Int} (hl : l.length ≤ 10) (hs : l.all scalarB = true) (hr : mapR T l = (ol, ai, ae)) : ae = 0 ∧ mapR T ol = (ol, 0, 0) ∨ ae = 16 := by
  have ea : accE T l = 0 := accE_ok h (by omega) hs
  have hol := mapOut_len h l
  cases hb : badAt T 0 l with
  | some k => rw [mapR_bad ea hb] at hr; cases hr; exact .inr rfl
  | none =>
    rw [mapR_ok ea hb (by omega)] at hr; cases hr
    have hst : ∀ c ∈ mapOut T l, T.statusOf c = 1 ∨ T.statusOf c = 4 := fun c hc => mapOut_ok hm hc
    have e2 := mapOut_same hst
    have h2 : accE T (mapOut T l) = 0 := accE_ok h (by omega) (mapOut_scal h hs)
    refine .inl ⟨rfl, ?_⟩
    rw [mapR_ok h2 ((badAt_none _ _).2 fun c hc => by have := hst c hc; omega) (by rw [e2]; omega), e2]

set_option maxRecDepth 100000 in
set_option maxHeartbeats 4000000 in
theorem MappingTwice_go (W : World) (hg : Glob W) (v : Value) (xs : List Int) (hv : Ints W W.heap.size .i64 v xs) (vm : Value) (ms : List Int) (hm : Ints W W.heap.size .i64 vm ms) :
    Calls Tryd.prog 13 #[v, vm] W fun e W' => e = .returned (.bool true) ∧ Below W.heap.size W W' := by
  have HG := Lib.hid hg
  have HM := Lib.hid hm
  obtain ⟨Ax, cx, rfl, _⟩ := id hv
  obtain ⟨Am, cm, rfl, _⟩ := id hm
  have HT := Lib.hid (keepTables_any W _ xs hv)
  clear hv hg hm
  go_enter Tryd.func13, Tryd.ntmps13
  go_upto_region 2 with (go_at_call 14; refine HT.out.mono ?_; rintro e w1 ⟨t, T, rfl, ht1, hm1, hb1⟩; obtain ⟨A0, A1, A2, A3, A4, A5, A6, A7, A8, A9, A10, A11, k0, k1, k2, k3, k4, k5, k6, k7, k8, k9, k10, k11, rfl⟩ := ht1.shape; have HT1 := Lib.hid ht1; have HM1 := Lib.hid hm1; have HB1 := Lib.hid hb1; clear ht1 hm1 hb1)
  obtain ⟨t, ht, htb⟩ := Tbl.new HT1.out
  have HT2 := Lib.hid htb
  have HB2 := Lib.hid (HB1.out.alloc HB1.out.size (.cells #[.slice A0 T.category.length k0, .slice A1 T.cls.length k1, .slice A2 T.joining.length k2, .slice A3 T.bidi.length k3, .slice A4 T.script.length k4, .slice A5 T.status.length k5, .slice A6 T.ignorable.length k6, .slice A7 T.extensions.length k7, .slice A8 T.maps.length k8, .slice A9 T.decomps.length k9, .slice A10 T.excluded.length k10, .slice A11 T.prototypes.length k11] 26))
  clear htb HT1 HT
  generalize w1.alloc (.cells #[.slice A0 T.category.length k0, .slice A1 T.cls.length k1, .slice A2 T.joining.length k2, .slice A3 T.bidi.length k3, .slice A4 T.script.length k4, .slice A5 T.status.length k5, .slice A6 T.ignorable.length k6, .slice A7 T.extensions.length k7, .slice A8 T.maps.length k8, .slice A9 T.decomps.length k9, .slice A10 T.excluded.length k10, .slice A11 T.prototypes.length k11] 26) = w2 at *
  generalize w1.heap.size = tb at *
  clear ht
  have HCK := Lib.hid HM1.out.check
  have HMP : Hid (∀ x y, y ∈ T.mapsOf x → T.statusOf y = 1 ∨ T.statusOf y = 4) := Lib.hid fun x y hy => (HM1.out.mapped x).2 y hy
  have HG2 := Lib.hid (HG.out.later HB2.out)
  have HM2 := Lib.hid (HM.out.later HB2.out)
  clear HG HM HM1
  go_wp2_with (first
    | (go_at_call 22; refine (word_any _ (.slice Am ms.length cm) ms HM2.out).mono ?_; rintro e w3 ⟨u3, as_, rfl, ho3, hal, has, b3, _⟩; obtain ⟨A3, c3, rfl, _⟩ := id (Ints.of_own ho3); have HA3 := Lib.hid (Ints.of_own ho3); have HAS := Lib.hid (words_scal has); have B3 := Lib.hid b3; clear ho3 b3 has)
    | (go_at_call 25; refine (points_any _ (.slice Am ms.length cm) ms (HM2.out.later B3.out)).mono ?_; rintro e w4 ⟨u4, bs, rfl, hi4, hbl, hbs, b4⟩; obtain ⟨A4, c4, rfl, _⟩ := id hi4; have HB4 := Lib.hid hi4; have HBS := Lib.hid (List.all_eq_true.2 hbs); have HA4 := Lib.hid (HA3.out.later b4); have B4 := Lib.hid (below_next B3.out b4); clear hi4 b4 hbs HA3))
  have HX : Hid (∀ k : Nat, k < 2 → ∃ (A : Option Addr) (l : List Int) (c : Nat), Ints w4 w4.heap.size .i64 (.slice A l.length c) l ∧ l.length ≤ 10 ∧ l.all scalarB = true ∧ ∀ w : World, (Instr.index 51 (.agg #[.slice A3 as_.length c3, .slice A4 bs.length c4]) (.int .i64 k)).run Tryd.prog w = .ok (.slice A l.length c) w) := by
    refine Lib.hid fun k hk => ?_
    match k, hk with
    | 0, _ => exact ⟨A3, as_, c3, HA4.out, by omega, HAS.out, fun w => by kernel_rfl⟩
    | 1, _ => exact ⟨A4, bs, c4, HB4.out, hbl, HBS.out, fun w => by kernel_rfl⟩
  clear HA4 HB4 HAS HBS HM2
  go_loopw [21] (fun s21 wr => ∃ k : Nat, k ≤ 2 ∧ s21 = .int .i64 k ∧ Hid (Below w4.heap.size w4 wr)) (fun i _ => 2 - (intOf i).toNat)
  case atStart => exact ⟨0, by omega, rfl, Lib.hid (Below.refl _ _)⟩
  case round =>
    obtain ⟨k, hk, rfl, HBr⟩ := hrel
    have B5 := Lib.hid (below_next B4.out HBr.out)
    by_cases hlt : k < 2
    · obtain ⟨Al, l, cl, hil, hll, hls, hix⟩ := HX.out k hlt
      obtain ⟨ol, ai, ae, h1⟩ : ∃ ol ai ae, mapR T l = (ol, ai, ae) := ⟨_, _, _, rfl⟩
      have HL := Lib.hid (hil.later HBr.out)
      have HTr := Lib.hid (HT2.out.later B5.out)
      have H1 := Lib.hid (map_any t T (.slice Al l.length cl) l wr HTr.out.2 (HG2.out.later B5.out) HL.out)
      rw [h1] at H1
      obtain ⟨x0, x1, x2, x3, x4, x5, x6, x7, x8, x9, x10, x11⟩ := HTr.out.1.tab
      rcases map_twice HCK.out HMP.out hll hls h1 with ⟨rfl, h2⟩ | rfl
      · have H2 := Lib.hid (fun v W (h : Below w2.heap.size w2 W) hi => map_any t T v ol W (HT2.out.later h).2 (HG2.out.later h) hi)
        rw [h2] at H2
        have hsb : stableB T ol = true := by unfold stableB; rw [h2]; simp
        have H3 := Lib.hid (fun v W (h : Below w2.heap.size w2 W) hi => stable_any t T v ol W (HT2.out.later h).2 (HG2.out.later h) hi)
        rw [hsb] at H3
        clear h1 h2 hsb hil hls
        go_upto_region 7 with (go_at_call 23; refine H1.out.mono ?_; rintro e w7 ⟨u7, rfl, ho7, b7⟩; obtain ⟨A7, c7, rfl, _⟩ := id (Ints.of_own ho7); have HU7 := Lib.hid (Ints.of_own ho7); have B7 := Lib.hid (below_next B5.out b7); have HBr7 := Lib.hid (below_then HBr.out (Nat.le_refl _) b7); clear ho7 b7)
        clear x0 x1 x2 x3 x4 x5 x6 x7 x8 x9 x10 x11 H1
        obtain ⟨x0, x1, x2, x3, x4, x5, x6, x7, x8, x9, x10, x11⟩ := (HT2.out.later B7.out).1.tab
        go_upto_region 8 with (go_at_call 23; refine (H2.out (.slice A7 ol.length c7) w7 B7.out HU7.out).mono ?_; rintro e w8 ⟨u8, rfl, ho8, b8⟩; obtain ⟨A8, c8, rfl, _⟩ := id (Ints.of_own ho8); have HU8 := Lib.hid (Ints.of_own ho8); have HU78 := Lib.hid (HU7.out.later b8); have B8 := Lib.hid (below_next B7.out b8); have HBr8 := Lib.hid (below_then HBr7.out (Nat.le_refl _) b8); clear ho8 b8)
        clear x0 x1 x2 x3 x4 x5 x6 x7 x8 x9 x10 x11 H2
        go_wp2_with (first
          | (go_at_call 20; have h := same_any _ _ ol ol w8 HU78.out HU8.out; rw [decide_eq_true rfl] at h; refine h.mono ?_; rintro e w9 ⟨rfl, b9⟩; clear h; have B9 := Lib.hid (below_next B8.out b9); have HBr9 := Lib.hid (below_then HBr8.out (Nat.le_refl _) b9); have HU9 := Lib.hid (HU78.out.later b9); obtain ⟨x0, x1, x2, x3, x4, x5, x6, x7, x8, x9, x10, x11⟩ := (HT2.out.later B9.out).1.tab)
          | (go_at_call 30; refine (H3.out (.slice A7 ol.length c7) w9 B9.out HU9.out).mono ?_; rintro e w10 ⟨rfl, b10⟩; have HBr10 := Lib.hid (below_then HBr9.out (Nat.le_refl _) b10)))
        go_roundw
        case rel => exact ⟨k + 1, by omega, by go_num, HBr10⟩
        case measure => simp [intOf]; omega
      · clear h1 hil hls
        go_wp2_with (go_at_call 23; refine H1.out.mono ?_; rintro e w7 ⟨u7, rfl, ho7, b7⟩; obtain ⟨A7, c7, rfl, _⟩ := id (Ints.of_own ho7); have HBr7 := Lib.hid (below_then HBr.out (Nat.le_refl _) b7); clear ho7 b7)
        go_roundw
        case rel => exact ⟨k + 1, by omega, by go_num, HBr7⟩
        case measure => simp [intOf]; omega
    · go_wp2_with (go_at_call 24; refine (awake13 _ (HG2.out.later B5.out)).mono ?_; rintro e w8 ⟨rfl, b8⟩)
      go_ret
      exact ⟨rfl, below_next HB2.out (below_next B5.out b8)⟩
theorem MappingTwice_walk (W : World) (hg : Glob W) (v : Value) (xs : List Int) (hv : Ints W W.heap.size .i64 v xs) (_ : ∀ x ∈ xs, -9223372036854775808 ≤ x ∧ x ≤ 9223372036854775807) (_ : xs.length * 8 ≤ 140737488351232) (vm : Value) (ms : List Int) (hm : Ints W W.heap.size .i64 vm ms) (_ : ∀ x ∈ ms, -9223372036854775808 ≤ x ∧ x ≤ 9223372036854775807) (_ : ms.length * 8 ≤ 140737488351232) :
    Calls Tryd.prog 13 #[v, vm] W fun e W' => e = .returned (.bool true) ∧ Below W.heap.size W W' := MappingTwice_go W hg v xs hv vm ms hm
end Go.Proofs.YtneinkpfhkojgaaDoor
