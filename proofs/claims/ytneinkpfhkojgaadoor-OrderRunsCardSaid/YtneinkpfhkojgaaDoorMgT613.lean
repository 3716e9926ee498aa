/-
  Merged texts: lemmas and walks that the last text of this claim leans on.
-/
import Derived.Test.YtneinkpfhkojgaaDoorMgT68
import Derived.Test.YtneinkpfhkojgaaDoorMgT611
import Derived.Test.YtneinkpfhkojgaaDoorMgT612
/-
  The walk through the law OrderRuns.
-/
namespace Go.Proofs.YtneinkpfhkojgaaDoor
open Go.RowKit ND

theorem runs_cases (f : Int → Int) (l : List Int) : ∀ (m i : Nat), i + m = l.length →
    (runsGo f i false (l.drop i) = [] ∧ ∀ j c, i ≤ j → l[j]? = some c → f c = 0) ∨
    ∃ s e : Nat, i ≤ s ∧ s < e ∧ e ≤ l.length ∧ runsGo f i false (l.drop i) = (s : Int) :: (e : Int) :: runsGo f e false (l.drop e) ∧
      (∀ j c, i ≤ j → j < s → l[j]? = some c → f c = 0) ∧ (∀ j c, s ≤ j → j < e → l[j]? = some c → f c ≠ 0) ∧ (∀ c, l[e]? = some c → f c = 0) := by
  have hin : ∀ (m i s : Nat), i + m = l.length → s < i → (∀ j c, s ≤ j → j < i → l[j]? = some c → f c ≠ 0) →
      ∃ e : Nat, s < e ∧ e ≤ l.length ∧ runsGo f i true (l.drop i) = (e : Int) :: runsGo f e false (l.drop e) ∧ (∀ j c, s ≤ j → j < e → l[j]? = some c → f c ≠ 0) ∧ (∀ c, l[e]? = some c → f c = 0) := by
    intro m
    induction m with
    | zero =>
      intro i s h hs ha
      refine ⟨i, hs, by omega, ?_, ha, fun c hc => ?_⟩
      · rw [runsGo_end true (by omega), runsGo_end false (by omega)]; rfl
      · rw [List.getElem?_eq_none (by omega)] at hc; cases hc
    | succ m ih =>
      intro i s h hs ha
      obtain ⟨x, hx⟩ : ∃ x, l[i]? = some x := ⟨_, List.getElem?_eq_getElem (by omega)⟩
      by_cases h0 : f x = 0
      · refine ⟨i, hs, by omega, ?_, ha, fun c hc => by rw [hx] at hc; cases hc; exact h0⟩
        rw [runsGo_step true hx, if_neg (by simp [h0]), runsGo_step false hx, if_pos (by simp [h0])]; rfl
      · obtain ⟨e, e1, e2, e3, e4, e5⟩ := ih (i + 1) s (by omega) (by omega) (fun j c h1 h2 hc => by
          by_cases hj : j = i
          · subst hj; rw [hx] at hc; cases hc; exact h0
          · exact ha j c h1 (by omega) hc)
        exact ⟨e, e1, e2, by rw [runsGo_step true hx, if_pos (by simp [h0])]; exact e3, e4, e5⟩
  intro m
  induction m with
  | zero =>
    intro i h
    refine .inl ⟨by rw [runsGo_end false (by omega)]; rfl, fun j c h1 hc => ?_⟩
    rw [List.getElem?_eq_none (by omega)] at hc; cases hc
  | succ m ih =>
    intro i h
    obtain ⟨x, hx⟩ : ∃ x, l[i]? = some x := ⟨_, List.getElem?_eq_getElem (by omega)⟩
    by_cases h0 : f x = 0
    · have hs : runsGo f i false (l.drop i) = runsGo f (i + 1) false (l.drop (i + 1)) := by rw [runsGo_step false hx, if_pos (by simp [h0])]
      have hz : ∀ j c, j = i → l[j]? = some c → f c = 0 := fun j c e hc => by subst e; rw [hx] at hc; cases hc; exact h0
      rcases ih (i + 1) (by omega) with ⟨h1, h2⟩ | ⟨s, e, h1, h2, h3, h4, h5, h6, h7⟩
      · exact .inl ⟨hs.trans h1, fun j c hj hc => by
          by_cases e : j = i
          · exact hz j c e hc
          · exact h2 j c (by omega) hc⟩
      · exact .inr ⟨s, e, by omega, h2, h3, hs.trans h4, fun j c hj hj2 hc => by
          by_cases e : j = i
          · exact hz j c e hc
          · exact h5 j c (by omega) hj2 hc, h6, h7⟩
    · obtain ⟨e, e1, e2, e3, e4, e5⟩ := hin m (i + 1) i (by omega) (by omega) (fun j c h1 h2 hc => by
        obtain rfl : j = i := by omega
        rw [hx] at hc; cases hc; exact h0)
      refine .inr ⟨i, e, Nat.le_refl _, e1, e2, ?_, fun j c h1 h2 => absurd h2 (by omega), e4, e5⟩
      rw [runsGo_step false hx, if_neg (by simp [h0]), Bool.not_false, e3]

theorem runs_even (f : Int → Int) (l : List Int) : ∀ (m i : Nat), i + m = l.length → (runsGo f i false (l.drop i)).length % 2 = 0 := by
  intro m
  induction m using Nat.strongRecOn with
  | ind m ih =>
    intro i h
    rcases runs_cases f l m i h with ⟨h1, _⟩ | ⟨s, e, h1, h2, h3, h4, _⟩
    · rw [h1]; rfl
    · have := ih (l.length - e) (by omega) e (by omega)
      rw [h4]; simp; omega

/-- Every second end of a run has been met, up to k; the marks are set up to i. -/
structure RA (f : Int → Int) (l r : List Int) (k : Nat) (bs : List Bool) (i : Nat) : Prop where
  drop : r.drop k = runsGo f i false (l.drop i)
  le : i ≤ l.length
  start : k = 0 ∧ i = 0 ∨ 0 < k ∧ r[k - 1]? = some (i : Int) ∧ ∀ c, l[i]? = some c → f c = 0
  bl : bs.length = 16
  bt : ∀ j c, l[j]? = some c → bs[j]? = some (decide (j < i) && (f c != 0))
theorem RA.next {f : Int → Int} {l r : List Int} {k i : Nat} {bs : List Bool} (h : RA f l r k bs i) (hk : k < r.length) : ∃ s e : Nat, r[k]? = some (s : Int) ∧ r[k + 1]? = some (e : Int) ∧ s < e ∧ e ≤ l.length ∧ (0 < k → i < s) ∧
    ∀ bs' : List Bool, bs'.length = 16 → (∀ j : Nat, bs'[j]? = if s ≤ j ∧ j < e then some true else bs[j]?) → RA f l r (k + 2) bs' e := by
  rcases runs_cases f l (l.length - i) i (by have := h.le; omega) with ⟨h1, _⟩ | ⟨s, e, h1, h2, h3, h4, h5, h6, h7⟩
  · have := h.drop
    rw [h1] at this
    have h2 := congrArg List.length this
    simp at h2; omega
  · have hd := h.drop
    rw [h4] at hd
    have g0 : r[k]? = some (s : Int) := by
      have h9 : (r.drop k)[0]? = some (s : Int) := by rw [hd]; rfl
      rw [List.getElem?_drop] at h9; simpa using h9
    have g1 : r[k + 1]? = some (e : Int) := by
      have h9 : (r.drop k)[1]? = some (e : Int) := by rw [hd]; rfl
      rw [List.getElem?_drop] at h9; exact h9
    refine ⟨s, e, g0, g1, h2, h3, fun hk0 => ?_, fun bs' hl hb => ⟨?_, h3, .inr ⟨by omega, by simpa using g1, h7⟩, hl, fun j c hc => ?_⟩⟩
    · rcases h.start with ⟨e0, _⟩ | ⟨_, _, hz⟩
      · omega
      · rcases Nat.lt_or_ge i s with hh | hh
        · exact hh
        · exfalso
          obtain rfl : i = s := by omega
          obtain ⟨x, hx⟩ : ∃ x, l[i]? = some x := ⟨_, List.getElem?_eq_getElem (by omega)⟩
          exact h6 i x (Nat.le_refl _) h2 hx (hz x hx)
    · rw [show r.drop (k + 2) = (r.drop k).drop 2 by rw [List.drop_drop], hd]; rfl
    · rw [hb j, h.bt j c hc]
      by_cases hj : s ≤ j ∧ j < e
      · rw [if_pos hj, decide_eq_true hj.2]
        have := h6 j c hj.1 hj.2 hc
        simp [this]
      · rw [if_neg hj]
        by_cases hi : j < i
        · rw [decide_eq_true hi, decide_eq_true (by omega)]
        · rw [decide_eq_false hi]
          by_cases hje : j < e
          · have := h5 j c (by omega) (by omega) hc
            simp [this]
          · rw [decide_eq_false hje]
theorem RA.last {f : Int → Int} {l r : List Int} {k i : Nat} {bs : List Bool} (h : RA f l r k bs i) (hk : r.length ≤ k) : ∀ (j : Nat) (c : Int), l[j]? = some c → bs[j]? = some (f c != 0) := by
  have hd := h.drop
  rw [List.drop_of_length_le hk] at hd
  rcases runs_cases f l (l.length - i) i (by have := h.le; omega) with ⟨_, h2⟩ | ⟨s, e, h1, h2, h3, h4, _⟩
  · intro j c hc
    rw [h.bt j c hc]
    by_cases hi : j < i
    · rw [decide_eq_true hi]; rfl
    · rw [decide_eq_false hi, h2 j c (by omega) hc]; rfl
  · rw [h4] at hd; cases hd

set_option maxRecDepth 100000 in
set_option maxHeartbeats 4000000 in
theorem OrderRuns_go (W : World) (hg : Glob W) (v : Value) (xs : List Int) (hv : Ints W W.heap.size .i64 v xs) (vm : Value) (ms : List Int) (hm : Ints W W.heap.size .i64 vm ms) :
    Calls Tryd.prog 5 #[v, vm] W fun e W' => e = .returned (.bool true) ∧ Below W.heap.size W W' := by
  have HG := Lib.hid hg
  have HM := Lib.hid hm
  obtain ⟨Ax, cx, rfl, _⟩ := id hv
  obtain ⟨Am, cm, rfl, _⟩ := id hm
  have HT := Lib.hid (keepTables_any W _ xs hv)
  clear hv hg hm
  go_enter Tryd.func5, Tryd.ntmps5
  go_upto_region 2 with (go_at_call 14; refine HT.out.mono ?_; rintro e w1 ⟨t, T, rfl, ht1, hm1, hb1⟩; obtain ⟨A0, A1, A2, A3, A4, A5, A6, A7, A8, A9, A10, A11, k0, k1, k2, k3, k4, k5, k6, k7, k8, k9, k10, k11, rfl⟩ := ht1.shape; have HT1 := Lib.hid ht1; have HM1 := Lib.hid hm1; have HB1 := Lib.hid hb1; clear ht1 hm1 hb1)
  obtain ⟨t, ht, htb⟩ := Tbl.new HT1.out
  have HT2 := Lib.hid htb
  have HB2 := Lib.hid (HB1.out.alloc HB1.out.size (.cells #[.slice A0 T.category.length k0, .slice A1 T.cls.length k1, .slice A2 T.joining.length k2, .slice A3 T.bidi.length k3, .slice A4 T.script.length k4, .slice A5 T.status.length k5, .slice A6 T.ignorable.length k6, .slice A7 T.extensions.length k7, .slice A8 T.maps.length k8, .slice A9 T.decomps.length k9, .slice A10 T.excluded.length k10, .slice A11 T.prototypes.length k11] 26))
  clear htb HT1 HT
  generalize w1.alloc (.cells #[.slice A0 T.category.length k0, .slice A1 T.cls.length k1, .slice A2 T.joining.length k2, .slice A3 T.bidi.length k3, .slice A4 T.script.length k4, .slice A5 T.status.length k5, .slice A6 T.ignorable.length k6, .slice A7 T.extensions.length k7, .slice A8 T.maps.length k8, .slice A9 T.decomps.length k9, .slice A10 T.excluded.length k10, .slice A11 T.prototypes.length k11] 26) = w2 at *
  generalize w1.heap.size = tb at *
  clear ht
  have hck := HM1.out.check
  have HCK := Lib.hid hck
  have HG2 := Lib.hid (HG.out.later HB2.out)
  have HM2 := Lib.hid (HM.out.later HB2.out)
  clear HG HM HM1 hck
  go_upto_region 3 with (go_at_call 15; refine (marks_any _ (.slice Am ms.length cm) ms HM2.out).mono ?_; rintro e w3 ⟨u3, as_, rfl, ho3, hal, has, b3, _⟩; obtain ⟨A3, c3, rfl, _⟩ := id (Ints.of_own ho3); have HA3 := Lib.hid (Ints.of_own ho3); have B3 := Lib.hid b3; clear ho3 b3 HM2)
  have ea : accE T as_ = 0 := accE_ok HCK.out (by omega) (marks_scal has)
  obtain ⟨f, hf⟩ : ∃ f, T.classOf = f := ⟨_, rfl⟩
  have er : runL T as_ = runsL f as_ := by unfold runL; rw [if_pos ea, hf]
  have H1 := Lib.hid (fun W (h : Below w2.heap.size w2 W) hi => runs_any t T (.slice A3 as_.length c3) as_ W (HT2.out.later h).2 (HG2.out.later h) hi)
  rw [ea, er] at H1
  have HC : Hid (∀ (b : Nat) (W : World) (x : Int), Tbl W b t T → Calls Tryd.prog 18 #[.agg #[t.c0, t.c1, t.c2, t.c3, t.c4, t.c5, t.c6, t.c7, t.c8, t.c9, t.c10, t.c11], .int .i64 x] W fun e W' => e = .returned (.int .i64 (f x)) ∧ Below W.heap.size W W') := Lib.hid fun b W x h => by
    have h2 := refClass_any t T x W h.2
    rw [hf] at h2; exact h2
  have HEV := Lib.hid (runs_even f as_ as_.length 0 (by omega))
  rw [show runsGo f 0 false (as_.drop 0) = runsL f as_ from rfl] at HEV
  have HRA0 : Hid (RA f as_ (runsL f as_) 0 (List.replicate 16 false) 0) := Lib.hid ⟨rfl, by omega, .inl ⟨rfl, rfl⟩, rfl, fun j c hc => by
    have := (List.getElem?_eq_some_iff.1 hc).1
    rw [List.getElem?_replicate, if_pos (by omega), decide_eq_false (by omega)]; rfl⟩
  have hrl : (runsL f as_).length ≤ 10 := by have := runsGo_len f as_ 0 false; unfold runsL; omega
  clear ea er hf has
  generalize runsL f as_ = r at *
  obtain ⟨x0, x1, x2, x3, x4, x5, x6, x7, x8, x9, x10, x11⟩ := (HT2.out.later B3.out).1.tab
  go_upto_region 4 with (go_at_call 21; refine (H1.out _ B3.out HA3.out).mono ?_; rintro e w5 ⟨u5, rfl, ho5, b5⟩; obtain ⟨A5, c5, rfl, _⟩ := id (Ints.of_own ho5); have HX5 := Lib.hid (Ints.of_own ho5); have B5 := Lib.hid (below_next B3.out b5); have HA5 := Lib.hid (HA3.out.later b5); clear ho5 b5)
  clear x0 x1 x2 x3 x4 x5 x6 x7 x8 x9 x10 x11 H1 HA3
  have hev : (((r.length : Int) % 2) != 0) = false := by
    have := HEV.out
    simp; omega
  go_upto_region 7 with fail
  have hBk : Blk (w5.alloc (.cells #[.bool false, .bool false, .bool false, .bool false, .bool false, .bool false, .bool false, .bool false, .bool false, .bool false, .bool false, .bool false, .bool false, .bool false, .bool false, .bool false] 38)) w5.heap.size 38 ((List.replicate 16 false).map Value.bool).toArray := Blk.new _ _ _
  have HBK := Lib.hid hBk
  have HB6 := Lib.hid ((Below.refl _ _).alloc (Nat.le_refl _) _ : Below w5.heap.size w5 (w5.alloc (.cells #[.bool false, .bool false, .bool false, .bool false, .bool false, .bool false, .bool false, .bool false, .bool false, .bool false, .bool false, .bool false, .bool false, .bool false, .bool false, .bool false] 38)))
  clear hBk hev HEV
  generalize w5.alloc (.cells #[.bool false, .bool false, .bool false, .bool false, .bool false, .bool false, .bool false, .bool false, .bool false, .bool false, .bool false, .bool false, .bool false, .bool false, .bool false, .bool false] 38) = w6 at *
  obtain ⟨ib, hib⟩ : ∃ ib, w5.heap.size = ib := ⟨_, rfl⟩
  rw [hib] at HBK
  simp only [hib]
  have HCLa : Hid (∀ (V : World) (j : Nat) (y : Int), Below w5.heap.size w5 V → as_[j]? = some y → ∃ ad, A3 = some ad ∧ V.cell? (ad.add j) = some (.int .i64 y)) := Lib.hid fun V j y hV hy => by
    obtain ⟨_, _, hve, _, _, _, hcell⟩ := HA5.out
    cases hve
    obtain ⟨ad, e, ha, hc⟩ := hcell j y hy
    exact ⟨ad, e, (hV.cell (p := ad.add j) (by rw [block_of_add]; exact ha)).trans hc⟩
  have HCLr : Hid (∀ (V : World) (j : Nat) (y : Int), Below w5.heap.size w5 V → r[j]? = some y → ∃ ad, A5 = some ad ∧ V.cell? (ad.add j) = some (.int .i64 y)) := Lib.hid fun V j y hV hy => by
    obtain ⟨_, _, hve, _, _, _, hcell⟩ := HX5.out
    cases hve
    obtain ⟨ad, e, ha, hc⟩ := hcell j y hy
    exact ⟨ad, e, (hV.cell (p := ad.add j) (by rw [block_of_add]; exact ha)).trans hc⟩
  clear HA5 HX5
  go_wp2_with fail
  go_loopw [10] (fun s10 wr => ∃ (k i : Nat) (bs : List Bool), s10 = .int .i64 k ∧ k ≤ r.length + 1 ∧ Hid (RA f as_ r k bs i) ∧ Hid (Blk wr ib 38 (bs.map Value.bool).toArray) ∧ Hid (Below w5.heap.size w5 wr)) (fun i _ => r.length + 2 - (intOf i).toNat)
  case atStart => exact ⟨0, 0, _, rfl, by omega, HRA0, HBK, HB6⟩
  case round =>
    clear HBK HB6 HRA0
    obtain ⟨k, i, bs, rfl, hkr, HR, HBk, HBr⟩ := hrel
    by_cases hlt : k < r.length
    · obtain ⟨s, e, h0, h1, hse, hel, hks, hnx⟩ := HR.out.next hlt
      have HNX := Lib.hid hnx
      obtain ⟨adR, rfl, ek⟩ := HCLr.out wr k s HBr.out h0
      obtain ⟨ad2, e9, ek1⟩ := HCLr.out wr (k + 1) e HBr.out h1
      cases e9
      have HST := Lib.hid HR.out.start
      have H0 := Lib.hid h0
      have H1 := Lib.hid h1
      have hk1 : k + 1 < r.length := (List.getElem?_eq_some_iff.1 h1).1
      clear hnx h0 h1
      have d1 : ¬ (s : Int) < 0 := by omega
      have d2 : ¬ (e : Int) ≤ (s : Int) := by omega
      have d3 : ¬ (as_.length : Int) < (e : Int) := by omega
      have q0 : (0 : Int) ≤ (k : Int) := by omega
      have q1 : (k : Int) < (r.length : Int) := by omega
      have q2 : (0 : Int) ≤ (k : Int) + 1 := by omega
      have q3 : (k : Int) + 1 < (r.length : Int) := by omega
      have v1 : IntKind.i64.wrap ((k : Int) + 1) = (k : Int) + 1 := by rw [IntWalk.i64_in _ (by omega)]
      replace ek := cell_regrown ek
      replace ek1 : ∀ d' os, (Go.Sort.grow (redrawn wr d') os).cell? ⟨adR.block, adR.off + (k + 1), none⟩ = some (.int .i64 e) := fun d' os => by have h := cell_regrown ek1 d' os; simpa [Addr.add] using h
      go_upto_region 10 with fail
      go_cut [80] from 38 to 79 (fun s80 wx => s80 = .bool false ∧ Hid (∃ dq osq, wx = Go.Sort.grow (redrawn wr dq) osq))
      case first =>
        cases k with
        | zero =>
          replace ek : ∀ d' os, (Go.Sort.grow (redrawn wr d') os).cell? adR = some (.int .i64 s) := fun d' os => by have h := ek d' os; simpa [Addr.add] using h
          replace ek1 : ∀ d' os, (Go.Sort.grow (redrawn wr d') os).cell? ⟨adR.block, adR.off + 1, none⟩ = some (.int .i64 e) := fun d' os => by have h := ek1 d' os; simpa using h
          refine wp_region_quiet_below (by kernel_rfl) (by kernel_rfl) ?_
          repeat (go_big_quiet_step (fail))
          refine wpQuiet_nil ?_
          rintro _ ⟨⟨dq, osq⟩, rfl⟩
          go_wp2_with fail
          go_meet
          case rel => exact ⟨rfl, Lib.hid ⟨dq, osq, rfl⟩⟩
        | succ p =>
          have his : i < s := hks (by omega)
          obtain ⟨ad3, e9, ekp⟩ := HCLr.out wr p i HBr.out (by
            rcases HST.out with ⟨h, _⟩ | ⟨_, h, _⟩
            · cases h
            · simpa using h)
          cases e9
          replace ekp := cell_regrown ekp
          replace ek : ∀ d' os, (Go.Sort.grow (redrawn wr d') os).cell? ⟨adR.block, adR.off + (p + 1), none⟩ = some (.int .i64 s) := fun d' os => by have h := ek d' os; simpa [Addr.add] using h
          have d4 : ¬ (s : Int) ≤ (i : Int) := by omega
          have d5 : (0 : Int) < ((p + 1 : Nat) : Int) := by omega
          have v2 : IntKind.i64.wrap (((p + 1 : Nat) : Int) - 1) = (p : Int) := by rw [IntWalk.i64_in _ (by omega)]; omega
          have q4 : (0 : Int) ≤ (p : Int) := by omega
          have q5 : (p : Int) < (r.length : Int) := by omega
          refine wp_region_quiet_below (by kernel_rfl) (by kernel_rfl) ?_
          repeat (go_big_quiet_step (fail))
          refine wpQuiet_nil ?_
          rintro _ ⟨⟨dq, osq⟩, rfl⟩
          go_wp2_with fail
          go_meet
          case rel => exact ⟨rfl, Lib.hid ⟨dq, osq, rfl⟩⟩
      case rest =>
        obtain ⟨rfl, hw⟩ := hcut
        obtain ⟨dq, osq, rfl⟩ := hw.out
        have b7 := below_regrown wr dq osq
        have HBk7 := Lib.hid (HBk.out.later b7)
        have HB7 := Lib.hid (below_then HBr.out (Nat.le_refl _) b7)
        replace ek := ek dq osq
        replace ek1 := ek1 dq osq
        generalize Go.Sort.grow (redrawn wr dq) osq = w7 at *
        clear b7 hw HBk HBr
        go_wp2_with fail
        clear ek ek1
        go_loopw [11] (fun s11 wr => ∃ (q : Nat) (bq : List Bool), s11 = .int .i64 q ∧ s ≤ q ∧ q ≤ e ∧ Hid (bq.length = 16 ∧ ∀ j : Nat, bq[j]? = if s ≤ j ∧ j < q then some true else bs[j]?) ∧ Hid (Blk wr ib 38 (bq.map Value.bool).toArray) ∧ Hid (Below w5.heap.size w5 wr)) (fun i _ => e - (intOf i).toNat)
        case atStart => exact ⟨s, bs, rfl, Nat.le_refl _, by omega, Lib.hid ⟨HR.out.bl, fun j => by rw [if_neg (by omega)]⟩, HBk7, HB7⟩
        case round =>
          clear HBk7 HB7
          obtain ⟨q, bq, rfl, hsq, hqe, HQ, HBk, HBr⟩ := hrel
          obtain ⟨ad2, e9, ek1⟩ := HCLr.out wr (k + 1) e HBr.out H1.out
          cases e9
          replace ek1 : wr.cell? ⟨adR.block, adR.off + (k + 1), none⟩ = some (.int .i64 e) := by simpa [Addr.add] using ek1
          by_cases hqlt : q < e
          · have g0 : (0 : Int) ≤ (q : Int) := by omega
            have g1 : (q : Int) < 16 := by omega
            have g2 : (q : Int) < (e : Int) := by omega
            obtain ⟨bv, hbv⟩ : ∃ bv, bq[q]? = some bv := ⟨_, List.getElem?_eq_getElem (by have := HQ.out.1; omega)⟩
            have c0 := HBk.out.at_ (i := q) (u := .bool bv) (by rw [List.getElem?_toArray, List.getElem?_map, hbv]; rfl)
            have f0 := HBk.out.free q
            have HQN : Hid ((bq.set q true).length = 16 ∧ ∀ j : Nat, (bq.set q true)[j]? = if s ≤ j ∧ j < q + 1 then some true else bs[j]?) := Lib.hid ⟨by rw [List.length_set]; exact HQ.out.1, fun j => by
              rw [List.getElem?_set]
              by_cases hj : q = j
              · subst hj; rw [if_pos rfl, if_pos (by have := HQ.out.1; omega), if_pos (by omega)]
              · rw [if_neg hj, HQ.out.2 j]
                by_cases h9 : s ≤ j ∧ j < q
                · rw [if_pos h9, if_pos (by omega)]
                · rw [if_neg h9, if_neg (by omega)]⟩
            have HBN : Hid (Blk (wr.setCell ⟨ib, q, none⟩ (.bool true)) ib 38 ((bq.set q true).map Value.bool).toArray) := Lib.hid (by
              have h := HBk.out.put q (.bool true)
              rw [List.map_set]
              simpa using h)
            have HBB : Hid (Below w5.heap.size w5 (wr.setCell ⟨ib, q, none⟩ (.bool true))) := Lib.hid (HBr.out.setCell (p := ⟨ib, q, none⟩) (by show w5.heap.size ≤ ib; omega) _)
            clear hbv
            go_wp2_with fail
            go_roundw
            case rel => exact ⟨q + 1, bq.set q true, by go_num, by omega, by omega, HQN, HBN, HBB⟩
            case measure => simp [intOf]; omega
          · obtain rfl : q = e := by omega
            have g2 : ¬ (q : Int) < (q : Int) := by omega
            have HRN := Lib.hid (HNX.out bq HQ.out.1 HQ.out.2)
            go_wp2_with fail
            go_roundw
            case rel => exact ⟨k + 2, q, bq, by go_num, by omega, HRN, HBk, HBr⟩
            case measure => simp [intOf]; omega
    · have HL := Lib.hid (HR.out.last (by omega))
      have q1 : ¬ (k : Int) < (r.length : Int) := by omega
      clear HR
      go_wp2_with fail
      go_loopw [98] (fun s98 wr => ∃ j : Nat, j ≤ as_.length ∧ s98 = .int .i64 j ∧ Hid (Blk wr ib 38 (bs.map Value.bool).toArray) ∧ Hid (Below w5.heap.size w5 wr)) (fun i _ => as_.length - (intOf i).toNat)
      case atStart => exact ⟨0, by omega, rfl, HBk, HBr⟩
      case round =>
        clear HBk HBr
        obtain ⟨j, hjn, rfl, HBk, HBr⟩ := hrel
        by_cases hj : j < as_.length
        · obtain ⟨c, hc, _⟩ := get_of hj
          obtain ⟨adA, rfl, e1⟩ := HCLa.out wr j c HBr.out hc
          have hb0 := HL.out j c hc
          have e2 := cell_regrown (HBk.out.at_ (i := j) (u := .bool (f c != 0)) (by rw [List.getElem?_toArray, List.getElem?_map, hb0]; rfl))
          have HTr := Lib.hid (HT2.out.later (below_next B5.out HBr.out))
          have HCx : Hid (∀ V, Below wr.heap.size wr V → Calls Tryd.prog 18 #[.agg #[t.c0, t.c1, t.c2, t.c3, t.c4, t.c5, t.c6, t.c7, t.c8, t.c9, t.c10, t.c11], .int .i64 c] V fun e V' => e = .returned (.int .i64 (f c)) ∧ Below V.heap.size V V') := Lib.hid fun V hV => HC.out tb V c (HTr.out.later hV)
          have q0 : (0 : Int) ≤ (j : Int) := by omega
          have q2 : (j : Int) < (as_.length : Int) := by omega
          have q3 : (j : Int) < 16 := by omega
          clear hc hb0
          cases hb : (f c != 0)
          · rw [hb] at e2
            go_upto_region 19 with fail
            obtain ⟨x0, x1, x2, x3, x4, x5, x6, x7, x8, x9, x10, x11⟩ := HTr.out.1.tabG
            refine wp_region_quiet_below (by kernel_rfl) (by kernel_rfl) ?_
            repeat (go_big_quiet_step ((go_at_call 18; with_reducible exact quiet_t HCx.out)))
            refine wpQuiet_nil ?_
            rintro _ ⟨⟨dq, osq⟩, rfl⟩
            have b7 := below_regrown wr dq osq
            have HBk7 := Lib.hid (HBk.out.later b7)
            have HB7 := Lib.hid (below_then HBr.out (Nat.le_refl _) b7)
            generalize Go.Sort.grow (redrawn wr dq) osq = w7 at *
            clear x0 x1 x2 x3 x4 x5 x6 x7 x8 x9 x10 x11 e2 b7
            go_wp2_with fail
            go_roundw
            case rel => exact ⟨j + 1, by omega, by go_num, HBk7, HB7⟩
            case measure => simp [intOf]; omega
          · rw [hb] at e2
            go_upto_region 19 with fail
            obtain ⟨x0, x1, x2, x3, x4, x5, x6, x7, x8, x9, x10, x11⟩ := HTr.out.1.tabG
            refine wp_region_quiet_below (by kernel_rfl) (by kernel_rfl) ?_
            repeat (go_big_quiet_step ((go_at_call 18; with_reducible exact quiet_t HCx.out)))
            refine wpQuiet_nil ?_
            rintro _ ⟨⟨dq, osq⟩, rfl⟩
            have b7 := below_regrown wr dq osq
            have HBk7 := Lib.hid (HBk.out.later b7)
            have HB7 := Lib.hid (below_then HBr.out (Nat.le_refl _) b7)
            generalize Go.Sort.grow (redrawn wr dq) osq = w7 at *
            clear x0 x1 x2 x3 x4 x5 x6 x7 x8 x9 x10 x11 e2 b7
            go_wp2_with fail
            go_roundw
            case rel => exact ⟨j + 1, by omega, by go_num, HBk7, HB7⟩
            case measure => simp [intOf]; omega
        · have B8 := Lib.hid (below_next B5.out HBr.out)
          have q2 : ¬ (j : Int) < (as_.length : Int) := by omega
          go_wp2_with (go_at_call 16; refine (awake6 _ (HG2.out.later B8.out)).mono ?_; rintro e w10 ⟨rfl, b10⟩)
          go_ret
          exact ⟨rfl, below_next HB2.out (below_next B8.out b10)⟩
theorem OrderRuns_walk (W : World) (hg : Glob W) (v : Value) (xs : List Int) (hv : Ints W W.heap.size .i64 v xs) (_ : ∀ x ∈ xs, -9223372036854775808 ≤ x ∧ x ≤ 9223372036854775807) (_ : xs.length * 8 ≤ 140737488351232) (vm : Value) (ms : List Int) (hm : Ints W W.heap.size .i64 vm ms) (_ : ∀ x ∈ ms, -9223372036854775808 ≤ x ∧ x ≤ 9223372036854775807) (_ : ms.length * 8 ≤ 140737488351232) :
    Calls Tryd.prog 5 #[v, vm] W fun e W' => e = .returned (.bool true) ∧ Below W.heap.size W W' := OrderRuns_go W hg v xs hv vm ms hm
end Go.Proofs.YtneinkpfhkojgaaDoor
