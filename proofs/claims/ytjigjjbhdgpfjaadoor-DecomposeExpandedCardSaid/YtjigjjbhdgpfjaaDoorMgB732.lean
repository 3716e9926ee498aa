/-
  Merged texts: lemmas and walks that the last text of this claim leans on.
-/
import Derived.Test.YtjigjjbhdgpfjaaDoorMgB731
import Derived.Test.YtjigjjbhdgpfjaaDoorMgB726
import Derived.Test.YtjigjjbhdgpfjaaDoorMgB715
import Derived.Test.YtjigjjbhdgpfjaaDoorMgB725
import Derived.Test.YtjigjjbhdgpfjaaDoorMgB716
import Derived.Test.YtjigjjbhdgpfjaaDoorMgB71
import Derived.Test.YtjigjjbhdgpfjaaDoorMgB73
/-
  The walk through awake of the laws of layer 16: the example of its chapter.
-/
namespace Go.Proofs.YtjigjjbhdgpfjaaDoor
open Go.RowKit ND

def tab16 : Tab := ⟨[], [], [], [(1488, 1488, 1)], [], [], [], [], [], [], [], []⟩
theorem rule16_1 : ruleR tab16 [1488, 97] = (2, 0) := by decide +kernel
theorem rule16_2 : ruleR tab16 [49] = (1, 0) := by decide +kernel
theorem dom16_1 : domR tab16 [[1488], [49]] = (1, 19) := by decide +kernel
theorem dom16_2 : domR tab16 [[97], [49]] = (0, 0) := by decide +kernel
theorem rtl16_1 : rtlR tab16 [1488] = true := by decide +kernel
set_option maxRecDepth 100000 in
set_option maxHeartbeats 4000000 in
theorem awake16 (w : World) (hg : Glob w) : Calls Tryd.prog 23 #[] w fun e w' => e = .returned (.bool true) ∧ Below w.heap.size w w' := by
  have HG := Lib.hid (fun W (h : Below w.heap.size w W) => hg.later h)
  clear hg
  go_enter Tryd.func23, Tryd.ntmps23
  go_upto_region 2 with fail
  obtain ⟨t, ht⟩ : ∃ t : Tv, t = ⟨.slice none 0 0, .slice none 0 0, .slice none 0 0, .slice (some ⟨w.heap.size, 0, none⟩) 1 1, .slice none 0 0, .slice none 0 0, .slice none 0 0, .slice none 0 0, .slice none 0 0, .slice none 0 0, .slice none 0 0, .slice none 0 0⟩ := ⟨_, rfl⟩
  have b0 : Below w.heap.size w ((w.alloc (.cells #[.int .i64 1488, .int .i64 1488, .int .i64 1] 58)).alloc (.cells #[.slice none 0 0, .slice none 0 0, .slice none 0 0, .slice (some ⟨w.heap.size, 0, none⟩) 1 1, .slice none 0 0, .slice none 0 0, .slice none 0 0, .slice none 0 0, .slice none 0 0, .slice none 0 0, .slice none 0 0, .slice none 0 0] 26)) := ((Below.refl _ _).alloc (Nat.le_refl _) _).alloc (by simp) _
  have hX : Blk ((w.alloc (.cells #[.int .i64 1488, .int .i64 1488, .int .i64 1] 58)).alloc (.cells #[.slice none 0 0, .slice none 0 0, .slice none 0 0, .slice (some ⟨w.heap.size, 0, none⟩) 1 1, .slice none 0 0, .slice none 0 0, .slice none 0 0, .slice none 0 0, .slice none 0 0, .slice none 0 0, .slice none 0 0, .slice none 0 0] 26)) (w.heap.size + 1) 26 #[.slice none 0 0, .slice none 0 0, .slice none 0 0, .slice (some ⟨w.heap.size, 0, none⟩) 1 1, .slice none 0 0, .slice none 0 0, .slice none 0 0, .slice none 0 0, .slice none 0 0, .slice none 0 0, .slice none 0 0, .slice none 0 0] := by
    have h := Blk.new (w.alloc (.cells #[.int .i64 1488, .int .i64 1488, .int .i64 1] 58)) 26 #[.slice none 0 0, .slice none 0 0, .slice none 0 0, .slice (some ⟨w.heap.size, 0, none⟩) 1 1, .slice none 0 0, .slice none 0 0, .slice none 0 0, .slice none 0 0, .slice none 0 0, .slice none 0 0, .slice none 0 0, .slice none 0 0]
    rw [show (w.alloc (.cells #[.int .i64 1488, .int .i64 1488, .int .i64 1] 58)).heap.size = w.heap.size + 1 by simp] at h
    exact h
  have hs := (lit_span w 1488 1488 1).later ((Below.refl (w.alloc (.cells #[.int .i64 1488, .int .i64 1488, .int .i64 1] 58)).heap.size (w.alloc (.cells #[.int .i64 1488, .int .i64 1488, .int .i64 1] 58))).alloc (Nat.le_refl _) (.cells #[.slice none 0 0, .slice none 0 0, .slice none 0 0, .slice (some ⟨w.heap.size, 0, none⟩) 1 1, .slice none 0 0, .slice none 0 0, .slice none 0 0, .slice none 0 0, .slice none 0 0, .slice none 0 0, .slice none 0 0, .slice none 0 0] 26))
  have HT : Hid (Tbl ((w.alloc (.cells #[.int .i64 1488, .int .i64 1488, .int .i64 1] 58)).alloc (.cells #[.slice none 0 0, .slice none 0 0, .slice none 0 0, .slice (some ⟨w.heap.size, 0, none⟩) 1 1, .slice none 0 0, .slice none 0 0, .slice none 0 0, .slice none 0 0, .slice none 0 0, .slice none 0 0, .slice none 0 0, .slice none 0 0] 26)) (w.heap.size + 1) t tab16) := Lib.hid (by
    subst ht
    exact ⟨hX, ⟨Spans.none_, Spans.none_, Spans.none_, hs, Spans.none_, Spans.none_, Spans.none_, Mapps.none_, Mapps.none_, Mapps.none_, Ints.none_, Mapps.none_⟩⟩)
  have B0 := Lib.hid b0
  clear hX hs b0 ht
  generalize ((w.alloc (.cells #[.int .i64 1488, .int .i64 1488, .int .i64 1] 58)).alloc (.cells #[.slice none 0 0, .slice none 0 0, .slice none 0 0, .slice (some ⟨w.heap.size, 0, none⟩) 1 1, .slice none 0 0, .slice none 0 0, .slice none 0 0, .slice none 0 0, .slice none 0 0, .slice none 0 0, .slice none 0 0, .slice none 0 0] 26)) = w1 at *
  obtain ⟨tb, htb⟩ : ∃ tb, w.heap.size + 1 = tb := ⟨_, rfl⟩
  rw [htb] at HT
  simp only [htb]
  clear htb
  have HG1 := Lib.hid (fun W (h : Below w1.heap.size w1 W) => HG.out W (below_next B0.out h))
  have HRU := Lib.hid (fun v xs W (h : Below w1.heap.size w1 W) hi => rule16_any t tab16 v xs W (HT.out.later h).2 (HG1.out W h) hi)
  have HDO := Lib.hid (fun v ls W (h : Below w1.heap.size w1 W) hi => domain_any t tab16 v ls W (HT.out.later h).2 (HG1.out W h) hi)
  have HRT := Lib.hid (fun v xs W (h : Below w1.heap.size w1 W) hi => rtl_any t tab16 v xs W (HT.out.later h).2 (HG1.out W h) hi)
  clear HG
  obtain ⟨x0, x1, x2, x3, x4, x5, x6, x7, x8, x9, x10, x11⟩ := HT.out.1.tab
  go_upto_region 3 with (go_at_call 22; have bl := (Below.refl w1.heap.size w1).alloc (Nat.le_refl _) (.cells #[.int .i64 1488, .int .i64 97] 3); have hc := HRU.out (.slice (some ⟨w1.heap.size, 0, none⟩) 2 2) [1488, 97] _ bl (by have h := Ints.of_own (own_new w1 3 [1488, 97] (by simp)); simpa using h); rw [rule16_1] at hc; refine hc.mono ?_; rintro e w2 ⟨rfl, b2⟩; have B2 := Lib.hid (below_next bl b2); clear bl b2 hc)
  clear x0 x1 x2 x3 x4 x5 x6 x7 x8 x9 x10 x11
  obtain ⟨x0, x1, x2, x3, x4, x5, x6, x7, x8, x9, x10, x11⟩ := (HT.out.later B2.out).1.tab
  go_upto_region 4 with (go_at_call 22; have bl := (Below.refl w2.heap.size w2).alloc (Nat.le_refl _) (.cells #[.int .i64 49] 3); have hc := HRU.out (.slice (some ⟨w2.heap.size, 0, none⟩) 1 1) [49] _ (below_next B2.out bl) (by have h := Ints.of_own (own_new w2 3 [49] (by simp)); simpa using h); rw [rule16_2] at hc; refine hc.mono ?_; rintro e w3 ⟨rfl, b3⟩; have B3 := Lib.hid (below_next B2.out (below_next bl b3)); clear bl b3 hc)
  clear x0 x1 x2 x3 x4 x5 x6 x7 x8 x9 x10 x11
  obtain ⟨x0, x1, x2, x3, x4, x5, x6, x7, x8, x9, x10, x11⟩ := (HT.out.later B3.out).1.tab
  go_upto_region 5 with (go_at_call 26; have b1 := (Below.refl w3.heap.size w3).alloc (Nat.le_refl _) (.cells #[.int .i64 1488] 3); have b2 := (Below.refl (w3.alloc (.cells #[.int .i64 1488] 3)).heap.size (w3.alloc (.cells #[.int .i64 1488] 3))).alloc (Nat.le_refl _) (.cells #[.int .i64 49] 3); have i1 : Ints (w3.alloc (.cells #[.int .i64 1488] 3)) (w3.alloc (.cells #[.int .i64 1488] 3)).heap.size .i64 (.slice (some ⟨w3.heap.size, 0, none⟩) 1 1) [1488] := (by have h := Ints.of_own (own_new w3 3 [1488] (by simp)); simpa using h); have i2 : Ints ((w3.alloc (.cells #[.int .i64 1488] 3)).alloc (.cells #[.int .i64 49] 3)) ((w3.alloc (.cells #[.int .i64 1488] 3)).alloc (.cells #[.int .i64 49] 3)).heap.size .i64 (.slice (some ⟨(w3.alloc (.cells #[.int .i64 1488] 3)).heap.size, 0, none⟩) 1 1) [49] := (by have h := Ints.of_own (own_new (w3.alloc (.cells #[.int .i64 1488] 3)) 3 [49] (by simp)); simpa using h); have hl := lists_two ((w3.alloc (.cells #[.int .i64 1488] 3)).alloc (.cells #[.int .i64 49] 3)) _ _ [1488] [49] (i1.later b2) i2; have b3 := (Below.refl ((w3.alloc (.cells #[.int .i64 1488] 3)).alloc (.cells #[.int .i64 49] 3)).heap.size ((w3.alloc (.cells #[.int .i64 1488] 3)).alloc (.cells #[.int .i64 49] 3))).alloc (Nat.le_refl _) (.cells #[.slice (some ⟨w3.heap.size, 0, none⟩) 1 1, .slice (some ⟨(w3.alloc (.cells #[.int .i64 1488] 3)).heap.size, 0, none⟩) 1 1] 22); have hc := HDO.out _ [[1488], [49]] _ (below_next B3.out (below_next (below_next b1 b2) b3)) hl; rw [dom16_1] at hc; simp only [World.size_alloc] at hc; refine hc.mono ?_; rintro e w4 ⟨rfl, b4⟩; have b4 : Below (((w3.alloc (.cells #[.int .i64 1488] 3)).alloc (.cells #[.int .i64 49] 3)).alloc (.cells #[.slice (some ⟨w3.heap.size, 0, none⟩) 1 1, .slice (some ⟨w3.heap.size + 1, 0, none⟩) 1 1] 22)).heap.size (((w3.alloc (.cells #[.int .i64 1488] 3)).alloc (.cells #[.int .i64 49] 3)).alloc (.cells #[.slice (some ⟨w3.heap.size, 0, none⟩) 1 1, .slice (some ⟨w3.heap.size + 1, 0, none⟩) 1 1] 22)) w4 := (by simpa using b4); have b3 : Below ((w3.alloc (.cells #[.int .i64 1488] 3)).alloc (.cells #[.int .i64 49] 3)).heap.size ((w3.alloc (.cells #[.int .i64 1488] 3)).alloc (.cells #[.int .i64 49] 3)) (((w3.alloc (.cells #[.int .i64 1488] 3)).alloc (.cells #[.int .i64 49] 3)).alloc (.cells #[.slice (some ⟨w3.heap.size, 0, none⟩) 1 1, .slice (some ⟨w3.heap.size + 1, 0, none⟩) 1 1] 22)) := (by simpa using b3); have B4 := Lib.hid (below_next B3.out (below_next (below_next (below_next b1 b2) b3) b4)); clear b1 b2 b3 b4 i1 i2 hl hc)
  clear x0 x1 x2 x3 x4 x5 x6 x7 x8 x9 x10 x11
  obtain ⟨x0, x1, x2, x3, x4, x5, x6, x7, x8, x9, x10, x11⟩ := (HT.out.later B4.out).1.tab
  go_upto_region 6 with (go_at_call 26; have b1 := (Below.refl w4.heap.size w4).alloc (Nat.le_refl _) (.cells #[.int .i64 97] 3); have b2 := (Below.refl (w4.alloc (.cells #[.int .i64 97] 3)).heap.size (w4.alloc (.cells #[.int .i64 97] 3))).alloc (Nat.le_refl _) (.cells #[.int .i64 49] 3); have i1 : Ints (w4.alloc (.cells #[.int .i64 97] 3)) (w4.alloc (.cells #[.int .i64 97] 3)).heap.size .i64 (.slice (some ⟨w4.heap.size, 0, none⟩) 1 1) [97] := (by have h := Ints.of_own (own_new w4 3 [97] (by simp)); simpa using h); have i2 : Ints ((w4.alloc (.cells #[.int .i64 97] 3)).alloc (.cells #[.int .i64 49] 3)) ((w4.alloc (.cells #[.int .i64 97] 3)).alloc (.cells #[.int .i64 49] 3)).heap.size .i64 (.slice (some ⟨(w4.alloc (.cells #[.int .i64 97] 3)).heap.size, 0, none⟩) 1 1) [49] := (by have h := Ints.of_own (own_new (w4.alloc (.cells #[.int .i64 97] 3)) 3 [49] (by simp)); simpa using h); have hl := lists_two ((w4.alloc (.cells #[.int .i64 97] 3)).alloc (.cells #[.int .i64 49] 3)) _ _ [97] [49] (i1.later b2) i2; have b3 := (Below.refl ((w4.alloc (.cells #[.int .i64 97] 3)).alloc (.cells #[.int .i64 49] 3)).heap.size ((w4.alloc (.cells #[.int .i64 97] 3)).alloc (.cells #[.int .i64 49] 3))).alloc (Nat.le_refl _) (.cells #[.slice (some ⟨w4.heap.size, 0, none⟩) 1 1, .slice (some ⟨(w4.alloc (.cells #[.int .i64 97] 3)).heap.size, 0, none⟩) 1 1] 22); have hc := HDO.out _ [[97], [49]] _ (below_next B4.out (below_next (below_next b1 b2) b3)) hl; rw [dom16_2] at hc; simp only [World.size_alloc] at hc; refine hc.mono ?_; rintro e w5 ⟨rfl, b4⟩; have b4 : Below (((w4.alloc (.cells #[.int .i64 97] 3)).alloc (.cells #[.int .i64 49] 3)).alloc (.cells #[.slice (some ⟨w4.heap.size, 0, none⟩) 1 1, .slice (some ⟨w4.heap.size + 1, 0, none⟩) 1 1] 22)).heap.size (((w4.alloc (.cells #[.int .i64 97] 3)).alloc (.cells #[.int .i64 49] 3)).alloc (.cells #[.slice (some ⟨w4.heap.size, 0, none⟩) 1 1, .slice (some ⟨w4.heap.size + 1, 0, none⟩) 1 1] 22)) w5 := (by simpa using b4); have b3 : Below ((w4.alloc (.cells #[.int .i64 97] 3)).alloc (.cells #[.int .i64 49] 3)).heap.size ((w4.alloc (.cells #[.int .i64 97] 3)).alloc (.cells #[.int .i64 49] 3)) (((w4.alloc (.cells #[.int .i64 97] 3)).alloc (.cells #[.int .i64 49] 3)).alloc (.cells #[.slice (some ⟨w4.heap.size, 0, none⟩) 1 1, .slice (some ⟨w4.heap.size + 1, 0, none⟩) 1 1] 22)) := (by simpa using b3); have B5 := Lib.hid (below_next B4.out (below_next (below_next (below_next b1 b2) b3) b4)); clear b1 b2 b3 b4 i1 i2 hl hc)
  clear x0 x1 x2 x3 x4 x5 x6 x7 x8 x9 x10 x11
  obtain ⟨x0, x1, x2, x3, x4, x5, x6, x7, x8, x9, x10, x11⟩ := (HT.out.later B5.out).1.tab
  go_wp2_with (go_at_call 25; have bl := (Below.refl w5.heap.size w5).alloc (Nat.le_refl _) (.cells #[.int .i64 1488] 3); have hc := HRT.out (.slice (some ⟨w5.heap.size, 0, none⟩) 1 1) [1488] _ (below_next B5.out bl) (by have h := Ints.of_own (own_new w5 3 [1488] (by simp)); simpa using h); rw [rtl16_1] at hc; refine hc.mono ?_; rintro e w6 ⟨rfl, b6⟩; have B6 := Lib.hid (below_next B5.out (below_next bl b6)); clear bl b6 hc)
  go_ret
  exact ⟨rfl, below_next B0.out B6.out⟩
end Go.Proofs.YtjigjjbhdgpfjaaDoor
/-
  bidi.Rule of a sequence that can be put into order.
-/
namespace Go.Proofs.YtjigjjbhdgpfjaaDoor
open Go.RowKit ND

theorem rule_ok16 {T : Tab} {t : Tv} {v : Value} {xs : List Int} {w : World} {r : Int} (ht : TabR w w.heap.size t T) (hg : Glob w) (hv : Ints w w.heap.size .i64 v xs) (h0 : accE T xs = 0) (hr : ruleL T xs = r) :
    Calls Tryd.prog 22 #[t.val, v] w fun e w' => e = .returned (.tuple #[.int .i64 r, .int .i64 0]) ∧ Below w.heap.size w w' := by
  have h := rule16_any t T v xs w ht hg hv
  unfold ruleR at h
  rw [if_pos h0, hr] at h; exact h
end Go.Proofs.YtjigjjbhdgpfjaaDoor
/-
  The walk through the law BidiMarks.
-/
namespace Go.Proofs.YtjigjjbhdgpfjaaDoor
open Go.RowKit ND

theorem any_snoc10 {T : Tab} (h : T.bidiOf 769 = 10) (l ks : List Int) (hk : inB 10 ks = false) : anyB T (l ++ [769]) ks = anyB T l ks := by
  unfold anyB
  rw [List.any_append]
  have : ([769] : List Int).any (fun c => ks.any fun k => T.bidiOf c == k) = false := by
    simp only [List.any_cons, List.any_nil, Bool.or_false, h]; exact hk
  rw [this, Bool.or_false]
theorem ruleL_snoc10 {T : Tab} (h : T.bidiOf 769 = 10) {l : List Int} (hl : l ≠ []) : ruleL T (l ++ [769]) = ruleL T l := by
  match l, hl with
  | c :: r, _ =>
    have ha := fun ks hk => any_snoc10 h (c :: r) ks hk
    have hb := last_snoc T (c :: r) 769
    rw [if_pos h] at hb
    have e : (c :: r) ++ [769] = c :: (r ++ [769]) := rfl
    rw [e] at ha hb ⊢
    unfold ruleL
    simp only
    rw [ha [0, 11] (by decide), ha [4] (by decide), ha [3] (by decide), ha [1, 2, 3, 11] (by decide), hb]
theorem ruleL_marks {T : Tab} (h : T.bidiOf 769 = 10) {l : List Int} (hl : l ≠ []) : ∀ k, ruleL T (l ++ List.replicate k 769) = ruleL T l
  | 0 => by simp
  | k + 1 => by
    rw [List.replicate_succ', ← List.append_assoc, ruleL_snoc10 h (by simp [hl]), ruleL_marks h hl k]
theorem scal_marks {l : List Int} (h : l.all scalarB = true) (k : Nat) : (l ++ List.replicate k 769).all scalarB = true := by
  rw [List.all_append, h, Bool.true_and, List.all_eq_true]
  intro c hc
  rw [(List.mem_replicate.1 hc).2]; decide

set_option maxRecDepth 100000 in
set_option maxHeartbeats 4000000 in
theorem BidiMarks_go (W : World) (hg : Glob W) (v : Value) (xs : List Int) (hv : Ints W W.heap.size .i64 v xs) (va : Value) (as_ : List Int) (hva : Ints W W.heap.size .i64 va as_) (n : Int) :
    Calls Tryd.prog 6 #[v, va, .int .i64 n] W fun e W' => e = .returned (.bool true) ∧ Below W.heap.size W W' := by
  have HG := Lib.hid hg
  have HA := Lib.hid hva
  obtain ⟨Ax, cx, rfl, _⟩ := id hv
  obtain ⟨Aa, ca, rfl, _⟩ := id hva
  have HT := Lib.hid (keepTables_any W _ xs hv)
  clear hv hg hva
  have hp4 := pick_in n (n := 4) (by omega)
  obtain ⟨i0, hi, hz0, hz1, hz2⟩ := info_parts Tryd.infoInt'
  go_enter Tryd.func6, Tryd.ntmps6
  go_upto_region 2 with (go_at_call 10; refine HT.out.mono ?_; rintro e w1 ⟨t, T, rfl, ht1, hm1, hb1⟩; obtain ⟨A0, A1, A2, A3, A4, A5, A6, A7, A8, A9, A10, A11, k0, k1, k2, k3, k4, k5, k6, k7, k8, k9, k10, k11, rfl⟩ := ht1.shape; have HT1 := Lib.hid ht1; have HB1 := Lib.hid hb1; have HM1 := Lib.hid hm1; clear ht1 hb1 hm1)
  obtain ⟨t, ht, htb⟩ := Tbl.new HT1.out
  have HT2 := Lib.hid htb
  have HB2 := Lib.hid (HB1.out.alloc HB1.out.size (.cells #[.slice A0 T.category.length k0, .slice A1 T.cls.length k1, .slice A2 T.joining.length k2, .slice A3 T.bidi.length k3, .slice A4 T.script.length k4, .slice A5 T.status.length k5, .slice A6 T.ignorable.length k6, .slice A7 T.extensions.length k7, .slice A8 T.maps.length k8, .slice A9 T.decomps.length k9, .slice A10 T.excluded.length k10, .slice A11 T.prototypes.length k11] 26))
  clear htb HT1 HT
  generalize w1.alloc (.cells #[.slice A0 T.category.length k0, .slice A1 T.cls.length k1, .slice A2 T.joining.length k2, .slice A3 T.bidi.length k3, .slice A4 T.script.length k4, .slice A5 T.status.length k5, .slice A6 T.ignorable.length k6, .slice A7 T.extensions.length k7, .slice A8 T.maps.length k8, .slice A9 T.decomps.length k9, .slice A10 T.excluded.length k10, .slice A11 T.prototypes.length k11] 26) = w2 at *
  generalize w1.heap.size = tb at *
  clear ht
  have hck := HM1.out.check
  have hsh := shape_of hck
  have HG2 := Lib.hid (HG.out.later HB2.out)
  have HA2 := Lib.hid (HA.out.later HB2.out)
  clear HG HA HM1
  go_upto_region 3 with (go_at_call 21; refine (mixed_any _ (.slice Aa as_.length ca) as_ HA2.out).mono ?_; rintro e w3 ⟨u3, x, rfl, ho3, hl3, hm3, b3, _⟩; obtain ⟨A3, c3, rfl, _⟩ := id (Ints.of_own ho3); have HX3 := Lib.hid (Ints.of_own ho3); have HS := Lib.hid (mixed_scal hm3); have B3 := Lib.hid b3; clear ho3 hm3 b3 HA2)
  have HT3 := Lib.hid (HT2.out.later B3.out)
  have HG3 := Lib.hid (HG2.out.later B3.out)
  have HB3 := Lib.hid (below_next HB2.out B3.out)
  have HA0 := Lib.hid (accE_ok hck (by omega) HS.out)
  have HC := Lib.hid (refBidi_any t T 769 w3 HT3.out.2 hsh.c3)
  clear HT2 HG2 HB2 B3 hsh
  by_cases hx0 : x.length = 0
  · have hq : ((x.length : Int) == 0) = true := by rw [hx0]; rfl
    go_wp2_with (go_at_call 23; refine (awake16 _ HG3.out).mono ?_; rintro e w4 ⟨rfl, b4⟩)
    go_ret
    exact ⟨rfl, below_next HB3.out b4⟩
  · have hq : ¬ (x.length : Int) = 0 := by omega
    have HNE : Hid (x ≠ []) := Lib.hid (fun e => hx0 (by rw [e]; rfl))
    by_cases hb10 : T.bidiOf 769 = 10
    · have HBI := Lib.hid hb10
      rw [hb10] at HC
      clear hb10 hx0
      obtain ⟨x0, x1, x2, x3, x4, x5, x6, x7, x8, x9, x10, x11⟩ := HT3.out.1.tab
      go_upto_region 5 with (go_at_call 24; refine HC.out.mono ?_; rintro e w4 ⟨rfl, b4⟩; have B4 := Lib.hid b4; clear b4)
      clear x0 x1 x2 x3 x4 x5 x6 x7 x8 x9 x10 x11 HC
      have HX4 := Lib.hid (HX3.out.later B4.out)
      go_upto_region 6 with (at_builtin; refine wpList_append_ints (by rfl) (.const (.slice none 0 0)) (.tmp 28) rfl Tryd.underlying22 hi hz0 hz1 hz2 w4.heap.size w4.heap.size (.slice none 0 0) [] (.slice A3 x.length c3) x rfl (World.ownsRow_nil _ _ _ _) rfl HX4.out (by simp; omega) (Nat.le_refl _) ?_; intro v6 w5 ho hg _; simp only [List.nil_append] at ho; obtain ⟨A9, c9, rfl, _⟩ := id (Ints.of_own ho); have HO := Lib.hid ho; have b5 : Below w4.heap.size w4 w5 := (Below.refl _ _).grown hg (Nat.le_refl _) (fun k hk => by cases hk); have B5 := Lib.hid b5; clear ho hg b5)
      generalize hpk : pick n 4 = p at *
      go_wp2_with (go_at_call 11; have h := pick_any n 4 w5 (by omega) (by omega); rw [hpk] at h; refine h.mono ?_; rintro e w6 ⟨rfl, rfl⟩; clear h)
      go_loopw [10, 9] (fun si so wr => ∃ (m : Nat) (A8 : Option Addr) (c8 : Nat) (ac : List Int), (m : Int) ≤ p + 1 ∧ si = .int .i64 (p - m) ∧ so = .slice A8 ac.length c8 ∧ ac.length ≤ 6 + m ∧ Hid (ac = x ++ List.replicate m 769) ∧ Hid (wr.ownsRow w4.heap.size 3 1 (.slice A8 ac.length c8) ac.length (ac.map (Value.int .i64))) ∧ Hid (Below w4.heap.size w4 wr)) (fun si _ _ => (intOf si + 1).toNat)
      case atStart => exact ⟨0, A9, c9, x, by omega, by go_num, rfl, by omega, Lib.hid (by simp), HO, B5⟩
      case round =>
        obtain ⟨m, A8, c8, ac, hm, rfl, rfl, hal, HS8, HO8, B8⟩ := hrel
        by_cases hlt : (m : Int) ≤ p
        · have q0 : 0 ≤ p - (m : Int) := by omega
          have HN : Hid (ac ++ [769] = x ++ List.replicate (m + 1) 769) := Lib.hid (by rw [HS8.out, List.replicate_succ', List.append_assoc])
          go_wp2_with (at_builtin; refine wpList_append_ints (by rfl) (.tmp 36) (.tmp 37) rfl Tryd.underlying22 hi hz0 hz1 hz2 (wr.heap.size + 1) w4.heap.size (.slice A8 ac.length c8) ac (.slice (some ⟨wr.heap.size, 0, none⟩) 1 1) [769] rfl (HO8.out.alloc _) rfl (by have h := Ints.of_own (own_new wr 3 [769] (by simp)); simpa using h) (by simp; omega) (by have := B8.out.size; simp; omega) ?_; intro v10 w10 ho10 hg10 _; obtain ⟨A10, c10, rfl, _⟩ := id (Ints.of_own ho10); have HO10 := Lib.hid ho10; have B10 := Lib.hid ((B8.out.alloc B8.out.size (.cells #[.int .i64 769] 3)).grown hg10 (by have := B8.out.size; simp; omega) (fun q hq => (HO8.out.lt q hq).1) : Below w4.heap.size w4 w10); clear ho10 hg10)
          go_roundw
          case rel => exact ⟨m + 1, A10, c10, ac ++ [769], by omega, by go_num, by simp, by simp; omega, HN, HO10, B10⟩
          case measure => simp [intOf]; omega
        · have q0 : ¬ 0 ≤ p - (m : Int) := by omega
          have HI8 := Lib.hid (Ints.of_own HO8.out)
          have HA8 : Hid (accE T ac = 0) := Lib.hid (accE_ok hck (by omega) (by rw [HS8.out]; exact scal_marks HS.out m))
          have HR8 : Hid (ruleL T ac = ruleL T x) := Lib.hid (by rw [HS8.out]; exact ruleL_marks HBI.out HNE.out m)
          have HT4 := Lib.hid (HT3.out.later B4.out)
          have HG4 := Lib.hid (HG3.out.later B4.out)
          have HT8 := Lib.hid (HT4.out.later B8.out)
          have H1 := Lib.hid (fun W (h : Below wr.heap.size wr W) => rule_ok16 (HT8.out.later h).2 ((HG4.out.later B8.out).later h) ((HX4.out.later B8.out).later h) HA0.out rfl)
          have H2 := Lib.hid (fun W (h : Below wr.heap.size wr W) => rule_ok16 (HT8.out.later h).2 ((HG4.out.later B8.out).later h) (HI8.out.later h) HA8.out HR8.out)
          generalize ruleL T x = rl at *
          obtain ⟨x0, x1, x2, x3, x4, x5, x6, x7, x8, x9, x10, x11⟩ := HT8.out.1.tab
          go_upto_region 11 with (go_at_call 22; refine (H1.out _ (Below.refl _ _)).mono ?_; rintro e w11 ⟨rfl, b11⟩; have B11 := Lib.hid b11; clear b11 H1)
          clear x0 x1 x2 x3 x4 x5 x6 x7 x8 x9 x10 x11
          obtain ⟨x0, x1, x2, x3, x4, x5, x6, x7, x8, x9, x10, x11⟩ := (HT8.out.later B11.out).1.tab
          go_upto_region 12 with (go_at_call 22; refine (H2.out _ B11.out).mono ?_; rintro e w12 ⟨rfl, b12⟩; have B12 := Lib.hid (below_next B11.out b12); clear b12 H2)
          clear x0 x1 x2 x3 x4 x5 x6 x7 x8 x9 x10 x11
          go_wp2_with (go_at_call 23; refine (awake16 _ ((HG4.out.later B8.out).later B12.out)).mono ?_; rintro e w13 ⟨rfl, b13⟩)
          go_ret
          exact ⟨rfl, below_next HB3.out (below_next B4.out (below_next B8.out (below_next B12.out b13)))⟩
    · have hb : (T.bidiOf 769 != 10) = true := by simpa using hb10
      generalize T.bidiOf 769 = bq at *
      obtain ⟨x0, x1, x2, x3, x4, x5, x6, x7, x8, x9, x10, x11⟩ := HT3.out.1.tab
      go_wp2_with (first
        | (go_at_call 24; refine HC.out.mono ?_; rintro e w4 ⟨rfl, b4⟩; have B4 := Lib.hid b4; clear b4 HC)
        | (go_at_call 23; refine (awake16 _ (HG3.out.later B4.out)).mono ?_; rintro e w5 ⟨rfl, b5⟩))
      go_ret
      exact ⟨rfl, below_next HB3.out (below_next B4.out b5)⟩
theorem BidiMarks_walk (W : World) (hg : Glob W) (v : Value) (xs : List Int) (hv : Ints W W.heap.size .i64 v xs) (_ : ∀ x ∈ xs, -9223372036854775808 ≤ x ∧ x ≤ 9223372036854775807) (_ : xs.length * 8 ≤ 140737488351232) (va : Value) (as_ : List Int) (hva : Ints W W.heap.size .i64 va as_) (_ : ∀ x ∈ as_, -9223372036854775808 ≤ x ∧ x ≤ 9223372036854775807) (_ : as_.length * 8 ≤ 140737488351232) (n : Int) (_ : -9223372036854775808 ≤ n ∧ n ≤ 9223372036854775807) :
    Calls Tryd.prog 6 #[v, va, .int .i64 n] W fun e W' => e = .returned (.bool true) ∧ Below W.heap.size W W' := BidiMarks_go W hg v xs hv va as_ hva n
end Go.Proofs.YtjigjjbhdgpfjaaDoor
/-
  The walk through the law BidiLetters.
-/
namespace Go.Proofs.YtjigjjbhdgpfjaaDoor
open Go.RowKit ND

theorem bidi_let (T : Tab) {c : Int} (h : 97 ≤ c ∧ c ≤ 122) : T.bidiOf c = 0 := by
  unfold Tab.bidiOf
  rw [propL_own (fun e => by rw [lenC_zero] at e; have := (scalarB_iff c).2 (by omega); rw [this] at e; cases e) (by rw [resB_iff]; omega)]
  unfold fixC; rw [if_pos h]
theorem any_let (T : Tab) {l ks : List Int} (h : ∀ c ∈ l, 97 ≤ c ∧ c ≤ 122) (hk : inB 0 ks = false) : anyB T l ks = false := by
  unfold anyB
  rw [List.any_eq_false]
  intro c hc
  rw [bidi_let T (h c hc)]
  unfold inB at hk
  rw [hk]; simp
theorem last_let (T : Tab) {l : List Int} (h : ∀ c ∈ l, 97 ≤ c ∧ c ≤ 122) (hl : l ≠ []) : lastB T l = 0 := by
  obtain ⟨r, c, rfl⟩ : ∃ r c, l = r ++ [c] := ⟨l.dropLast, l.getLast hl, (List.dropLast_concat_getLast hl).symm⟩
  have hc := bidi_let T (h c (by simp))
  rw [last_snoc, if_neg (by omega), hc]
theorem rule_let (T : Tab) {l : List Int} (h : ∀ c ∈ l, 97 ≤ c ∧ c ≤ 122) : ruleL T l = 0 := by
  match l, h with
  | [], _ => rfl
  | c :: r, h =>
    have hc := bidi_let T (h c (by simp))
    unfold ruleL
    simp only
    rw [if_neg (by omega), if_pos hc, any_let T h (by decide), last_let T h (by simp)]
    rfl
theorem scal_let {l : List Int} (h : ∀ c ∈ l, 97 ≤ c ∧ c ≤ 122) : l.all scalarB = true := by
  rw [List.all_eq_true]
  exact fun c hc => (scalarB_iff c).2 (by have := h c hc; omega)
theorem dom_let (T : Tab) {l : List Int} (h : ∀ c ∈ l, 97 ≤ c ∧ c ≤ 122) (h0 : accE T l = 0) : (domR T [l, l]).2 = 0 := by
  rw [domR_none (firstA_none.2 (by intro x hx; simp at hx; subst hx; exact h0))]
  split
  · exact rulesGo_err.2 (by intro x hx; simp at hx; subst hx; exact rule_let T h)
  · rfl
theorem rtl_let (T : Tab) {l : List Int} (h : ∀ c ∈ l, 97 ≤ c ∧ c ≤ 122) : rtlR T l = false := by
  unfold rtlR
  rw [any_let T h (by decide)]
  simp
theorem snoc_let {l : List Int} (h : ∀ c ∈ l, 97 ≤ c ∧ c ≤ 122) (m : Int) : ∀ c ∈ l ++ [97 + m % 26], 97 ≤ c ∧ c ≤ 122 := by
  intro c hc
  rw [List.mem_append, List.mem_singleton] at hc
  rcases hc with h1 | rfl
  · exact h c h1
  · omega

theorem domain_ok16 {T : Tab} {t : Tv} {v : Value} {ls : List (List Int)} {w : World} {r : Int} (ht : TabR w w.heap.size t T) (hg : Glob w) (hv : Lists w w.heap.size v ls) (hr : (domR T ls).2 = r) :
    Calls Tryd.prog 26 #[t.val, v] w fun e w' => (∃ i, e = .returned (.tuple #[.int .i64 i, .int .i64 r])) ∧ Below w.heap.size w w' := by
  refine (domain_any t T v ls w ht hg hv).mono ?_
  rintro e w' ⟨h, hb⟩
  rw [hr] at h
  exact ⟨⟨_, h⟩, hb⟩

set_option maxRecDepth 100000 in
set_option maxHeartbeats 4000000 in
theorem BidiLetters_go (W : World) (hg : Glob W) (v : Value) (xs : List Int) (hv : Ints W W.heap.size .i64 v xs) (vm : Value) (ms : List Int) (hvm : Ints W W.heap.size .u8 vm ms) (bvm : ∀ x ∈ ms, 0 ≤ x ∧ x ≤ 255) :
    Calls Tryd.prog 7 #[v, vm] W fun e W' => e = .returned (.bool true) ∧ Below W.heap.size W W' := by
  have HG := Lib.hid hg
  have HM := Lib.hid hvm
  have HMR := Lib.hid bvm
  obtain ⟨Ax, cx, rfl, _⟩ := id hv
  obtain ⟨Am, cm, rfl, hmc1, hmc2, _⟩ := id hvm
  have hml : ms.length ≤ 9223372036854775807 := by unfold maxLen at hmc2; omega
  have HT := Lib.hid (keepTables_any W _ xs hv)
  clear hv hg hvm bvm hmc1 hmc2
  go_enter Tryd.func7, Tryd.ntmps7
  go_upto_region 2 with (go_at_call 10; refine HT.out.mono ?_; rintro e w1 ⟨t, T, rfl, ht1, hm1, hb1⟩; obtain ⟨A0, A1, A2, A3, A4, A5, A6, A7, A8, A9, A10, A11, k0, k1, k2, k3, k4, k5, k6, k7, k8, k9, k10, k11, rfl⟩ := ht1.shape; have HT1 := Lib.hid ht1; have HB1 := Lib.hid hb1; have HM1 := Lib.hid hm1; clear ht1 hb1 hm1)
  obtain ⟨t, ht, htb⟩ := Tbl.new HT1.out
  have HT2 := Lib.hid htb
  have HB2 := Lib.hid (HB1.out.alloc HB1.out.size (.cells #[.slice A0 T.category.length k0, .slice A1 T.cls.length k1, .slice A2 T.joining.length k2, .slice A3 T.bidi.length k3, .slice A4 T.script.length k4, .slice A5 T.status.length k5, .slice A6 T.ignorable.length k6, .slice A7 T.extensions.length k7, .slice A8 T.maps.length k8, .slice A9 T.decomps.length k9, .slice A10 T.excluded.length k10, .slice A11 T.prototypes.length k11] 26))
  clear htb HT1 HT
  generalize w1.alloc (.cells #[.slice A0 T.category.length k0, .slice A1 T.cls.length k1, .slice A2 T.joining.length k2, .slice A3 T.bidi.length k3, .slice A4 T.script.length k4, .slice A5 T.status.length k5, .slice A6 T.ignorable.length k6, .slice A7 T.extensions.length k7, .slice A8 T.maps.length k8, .slice A9 T.decomps.length k9, .slice A10 T.excluded.length k10, .slice A11 T.prototypes.length k11] 26) = w2 at *
  generalize w1.heap.size = tb at *
  clear ht
  have hck := HM1.out.check
  have HG2 := Lib.hid (HG.out.later HB2.out)
  have HM2 := Lib.hid (HM.out.later HB2.out)
  clear HG HM HM1
  obtain ⟨i0, hi, hz0, hz1, hz2⟩ := info_parts Tryd.infoInt'
  go_wp2_with fail
  go_loopw [7, 6] (fun s7 s6 wr => ∃ (j : Nat) (ac : List Int) (A6 : Option Addr) (c6 : Nat), s7 = .int .i64 j ∧ s6 = .slice A6 ac.length c6 ∧ j ≤ 20 ∧ j ≤ ms.length ∧ Hid (ac.length = j) ∧ Hid (∀ c ∈ ac, 97 ≤ c ∧ c ≤ 122) ∧ Hid (wr.ownsRow w2.heap.size 3 1 (.slice A6 ac.length c6) ac.length (ac.map (Value.int .i64))) ∧ Hid (Below w2.heap.size w2 wr)) (fun i _ _ => 21 - (intOf i).toNat)
  case atStart => exact ⟨0, [], none, 0, rfl, rfl, by omega, by omega, Lib.hid rfl, Lib.hid (fun c h => by cases h), Lib.hid (World.ownsRow_nil _ _ _ _), Lib.hid (Below.refl _ _)⟩
  case round =>
    obtain ⟨j, ac, A6, c6, rfl, rfl, hj20, hjm, HL, HS, HO6, HBr⟩ := hrel
    by_cases hlt : j < ms.length
    · by_cases h20 : j < 20
      · obtain ⟨m, hm, hmm⟩ := get_of hlt
        obtain ⟨_, _, hve, _, _, _, hcell⟩ := HM2.out
        cases hve
        obtain ⟨ad, rfl, ha, hce⟩ := hcell j m hm
        have e1 := (HBr.out.cell (p := ad.add j) (by rw [block_of_add]; exact ha)).trans hce
        obtain ⟨m0, m1⟩ := HMR.out m hmm
        have q0 : (0 : Int) ≤ (j : Int) := by omega
        have q1 : (j : Int) < (ms.length : Int) := by omega
        have q2 : (j : Int) < 20 := by omega
        have r0 : 0 ≤ m % 26 := by omega
        have r1 : m % 26 < 26 := by omega
        have HN := Lib.hid (snoc_let HS.out m)
        clear hcell ha hce hm hmm
        go_wp2_with (at_builtin; refine wpList_append_ints (by rfl) (.tmp 24) (.tmp 32) rfl Tryd.underlying22 hi hz0 hz1 hz2 (wr.heap.size + 1) w2.heap.size (.slice A6 ac.length c6) ac (.slice (some ⟨wr.heap.size, 0, none⟩) 1 1) [97 + m % 26] rfl (HO6.out.alloc _) rfl (by have h := Ints.of_own (own_new wr 3 [97 + m % 26] (by simp)); simpa using h) (by have := HL.out; simp; omega) (by have := HBr.out.size; simp; omega) ?_; intro v10 w10 ho10 hg10 _; obtain ⟨A10, c10, rfl, _⟩ := id (Ints.of_own ho10); have HO10 := Lib.hid ho10; have B10 := Lib.hid ((HBr.out.alloc HBr.out.size (.cells #[.int .i64 (97 + m % 26)] 3)).grown hg10 (by have := HBr.out.size; simp; omega) (fun q hq => (HO6.out.lt q hq).1) : Below w2.heap.size w2 w10); clear ho10 hg10)
        go_roundw
        case rel => exact ⟨j + 1, ac ++ [97 + m % 26], A10, c10, by go_num, by simp, by omega, by omega, Lib.hid (by have := HL.out; simp; omega), HN, HO10, B10⟩
        case measure => simp [intOf]; omega
      · have q2 : ¬ (j : Int) < 20 := by omega
        have q1 : (j : Int) < (ms.length : Int) := by omega
        have HI6 := Lib.hid (Ints.of_own HO6.out)
        have HTr := Lib.hid (HT2.out.later HBr.out)
        have HGr := Lib.hid (HG2.out.later HBr.out)
        have HA := Lib.hid (accE_ok hck (l := ac) (by have := HL.out; omega) (scal_let HS.out))
        have H1 := Lib.hid (rule_ok16 HTr.out.2 HGr.out HI6.out HA.out (rule_let T HS.out))
        have HDO := Lib.hid (fun W (h : Below wr.heap.size wr W) v hi => domain_ok16 (v := v) (HTr.out.later h).2 (HGr.out.later h) hi (dom_let T HS.out HA.out))
        have HRT := Lib.hid (fun W (h : Below wr.heap.size wr W) => rtl_any t T _ ac W (HTr.out.later h).2 (HGr.out.later h) (HI6.out.later h))
        rw [rtl_let T HS.out] at HRT
        clear HA HL hck
        obtain ⟨x0, x1, x2, x3, x4, x5, x6, x7, x8, x9, x10, x11⟩ := HTr.out.1.tab
        go_upto_region 8 with (go_at_call 22; refine H1.out.mono ?_; rintro e w7 ⟨rfl, b7⟩; have B7 := Lib.hid b7; clear b7 H1)
        clear x0 x1 x2 x3 x4 x5 x6 x7 x8 x9 x10 x11
        obtain ⟨x0, x1, x2, x3, x4, x5, x6, x7, x8, x9, x10, x11⟩ := (HTr.out.later B7.out).1.tab
        go_upto_region 9 with (go_at_call 26; have bl := (Below.refl w7.heap.size w7).alloc (Nat.le_refl _) (.cells #[.slice A6 ac.length c6, .slice A6 ac.length c6] 22); have hl := lists_two w7 _ _ ac ac (HI6.out.later B7.out) (HI6.out.later B7.out); refine (HDO.out _ (below_next B7.out bl) _ hl).mono ?_; rintro e w8 ⟨⟨i8, rfl⟩, b8⟩; have B8 := Lib.hid (below_next B7.out (below_next bl b8)); clear bl b8 hl)
        clear x0 x1 x2 x3 x4 x5 x6 x7 x8 x9 x10 x11
        go_wp2_with (first
          | (go_at_call 23; refine (awake16 _ (HGr.out.later B8.out)).mono ?_; rintro e w9 ⟨rfl, b9⟩; have B9 := Lib.hid (below_next B8.out b9); clear b9; obtain ⟨x0, x1, x2, x3, x4, x5, x6, x7, x8, x9, x10, x11⟩ := (HTr.out.later B9.out).1.tab)
          | (go_at_call 25; refine (HRT.out _ B9.out).mono ?_; rintro e w10 ⟨rfl, b10⟩))
        go_ret
        exact ⟨rfl, below_next HB2.out (below_next HBr.out (below_next B9.out b10))⟩
    · have q1 : ¬ (j : Int) < (ms.length : Int) := by omega
      have HI6 := Lib.hid (Ints.of_own HO6.out)
      have HTr := Lib.hid (HT2.out.later HBr.out)
      have HGr := Lib.hid (HG2.out.later HBr.out)
      have HA := Lib.hid (accE_ok hck (l := ac) (by have := HL.out; omega) (scal_let HS.out))
      have H1 := Lib.hid (rule_ok16 HTr.out.2 HGr.out HI6.out HA.out (rule_let T HS.out))
      have HDO := Lib.hid (fun W (h : Below wr.heap.size wr W) v hi => domain_ok16 (v := v) (HTr.out.later h).2 (HGr.out.later h) hi (dom_let T HS.out HA.out))
      have HRT := Lib.hid (fun W (h : Below wr.heap.size wr W) => rtl_any t T _ ac W (HTr.out.later h).2 (HGr.out.later h) (HI6.out.later h))
      rw [rtl_let T HS.out] at HRT
      clear HA HL hck
      obtain ⟨x0, x1, x2, x3, x4, x5, x6, x7, x8, x9, x10, x11⟩ := HTr.out.1.tab
      go_upto_region 8 with (go_at_call 22; refine H1.out.mono ?_; rintro e w7 ⟨rfl, b7⟩; have B7 := Lib.hid b7; clear b7 H1)
      clear x0 x1 x2 x3 x4 x5 x6 x7 x8 x9 x10 x11
      obtain ⟨x0, x1, x2, x3, x4, x5, x6, x7, x8, x9, x10, x11⟩ := (HTr.out.later B7.out).1.tab
      go_upto_region 9 with (go_at_call 26; have bl := (Below.refl w7.heap.size w7).alloc (Nat.le_refl _) (.cells #[.slice A6 ac.length c6, .slice A6 ac.length c6] 22); have hl := lists_two w7 _ _ ac ac (HI6.out.later B7.out) (HI6.out.later B7.out); refine (HDO.out _ (below_next B7.out bl) _ hl).mono ?_; rintro e w8 ⟨⟨i8, rfl⟩, b8⟩; have B8 := Lib.hid (below_next B7.out (below_next bl b8)); clear bl b8 hl)
      clear x0 x1 x2 x3 x4 x5 x6 x7 x8 x9 x10 x11
      go_wp2_with (first
        | (go_at_call 23; refine (awake16 _ (HGr.out.later B8.out)).mono ?_; rintro e w9 ⟨rfl, b9⟩; have B9 := Lib.hid (below_next B8.out b9); clear b9; obtain ⟨x0, x1, x2, x3, x4, x5, x6, x7, x8, x9, x10, x11⟩ := (HTr.out.later B9.out).1.tab)
        | (go_at_call 25; refine (HRT.out _ B9.out).mono ?_; rintro e w10 ⟨rfl, b10⟩))
      go_ret
      exact ⟨rfl, below_next HB2.out (below_next HBr.out (below_next B9.out b10))⟩
theorem BidiLetters_walk (W : World) (hg : Glob W) (v : Value) (xs : List Int) (hv : Ints W W.heap.size .i64 v xs) (_ : ∀ x ∈ xs, -9223372036854775808 ≤ x ∧ x ≤ 9223372036854775807) (_ : xs.length * 8 ≤ 140737488351232) (vm : Value) (ms : List Int) (hvm : Ints W W.heap.size .u8 vm ms) (bvm : ∀ x ∈ ms, 0 ≤ x ∧ x ≤ 255) (_ : ms.length * 1 ≤ 140737488351232) :
    Calls Tryd.prog 7 #[v, vm] W fun e W' => e = .returned (.bool true) ∧ Below W.heap.size W W' := BidiLetters_go W hg v xs hv vm ms hvm bvm
end Go.Proofs.YtjigjjbhdgpfjaaDoor
