/-
  Merged texts: lemmas and walks that the last text of this claim leans on.
-/
import Derived.Test.YtjigjjbhdgpfjaaGreatDoorMgB741
import Derived.Test.YtjigjjbhdgpfjaaGreatDoorMgB735
import Derived.Test.YtjigjjbhdgpfjaaGreatDoorMgB743
import Derived.Test.YtjigjjbhdgpfjaaGreatDoorMgB723
import Derived.Test.YtjigjjbhdgpfjaaGreatDoorMgB715
import Derived.Test.YtjigjjbhdgpfjaaGreatDoorMgB716
/-
  The walk through awake of the laws of layer 16: the example of its chapter.
-/
namespace Go.Proofs.YtjigjjbhdgpfjaaGreatDoor
open Go.RowKit ND

def tab16 : Tab := ⟨[], [], [], [(1488, 1488, 1)], [], [], [], [], [], [], [], []⟩
theorem rule16_1 : ruleR tab16 [1488, 97] = (2, 0) := by decide +kernel
theorem rule16_2 : ruleR tab16 [49] = (1, 0) := by decide +kernel
theorem dom16_1 : domR tab16 [[1488], [49]] = (1, 19) := by decide +kernel
theorem dom16_2 : domR tab16 [[97], [49]] = (0, 0) := by decide +kernel
theorem rtl16_1 : rtlR tab16 [1488] = true := by decide +kernel
set_option maxRecDepth 100000 in
set_option maxHeartbeats 4000000 in
theorem awake16 (w : World) (hg : Glob w) : Calls Tryz.prog 14 #[] w fun e w' => e = .returned (.bool true) ∧ Below w.heap.size w w' := by
  have HG := Lib.hid (fun W (h : Below w.heap.size w W) => hg.later h)
  clear hg
  go_enter Tryz.func14, Tryz.ntmps14
  go_upto_region 2 with fail
  obtain ⟨t, ht⟩ : ∃ t : Tv, t = ⟨.slice none 0 0, .slice none 0 0, .slice none 0 0, .slice (some ⟨w.heap.size, 0, none⟩) 1 1, .slice none 0 0, .slice none 0 0, .slice none 0 0, .slice none 0 0, .slice none 0 0, .slice none 0 0, .slice none 0 0, .slice none 0 0⟩ := ⟨_, rfl⟩
  have b0 : Below w.heap.size w ((w.alloc (.cells #[.int .i64 1488, .int .i64 1488, .int .i64 1] 56)).alloc (.cells #[.slice none 0 0, .slice none 0 0, .slice none 0 0, .slice (some ⟨w.heap.size, 0, none⟩) 1 1, .slice none 0 0, .slice none 0 0, .slice none 0 0, .slice none 0 0, .slice none 0 0, .slice none 0 0, .slice none 0 0, .slice none 0 0] 26)) := ((Below.refl _ _).alloc (Nat.le_refl _) _).alloc (by simp) _
  have hX : Blk ((w.alloc (.cells #[.int .i64 1488, .int .i64 1488, .int .i64 1] 56)).alloc (.cells #[.slice none 0 0, .slice none 0 0, .slice none 0 0, .slice (some ⟨w.heap.size, 0, none⟩) 1 1, .slice none 0 0, .slice none 0 0, .slice none 0 0, .slice none 0 0, .slice none 0 0, .slice none 0 0, .slice none 0 0, .slice none 0 0] 26)) (w.heap.size + 1) 26 #[.slice none 0 0, .slice none 0 0, .slice none 0 0, .slice (some ⟨w.heap.size, 0, none⟩) 1 1, .slice none 0 0, .slice none 0 0, .slice none 0 0, .slice none 0 0, .slice none 0 0, .slice none 0 0, .slice none 0 0, .slice none 0 0] := by
    have h := Blk.new (w.alloc (.cells #[.int .i64 1488, .int .i64 1488, .int .i64 1] 56)) 26 #[.slice none 0 0, .slice none 0 0, .slice none 0 0, .slice (some ⟨w.heap.size, 0, none⟩) 1 1, .slice none 0 0, .slice none 0 0, .slice none 0 0, .slice none 0 0, .slice none 0 0, .slice none 0 0, .slice none 0 0, .slice none 0 0]
    rw [show (w.alloc (.cells #[.int .i64 1488, .int .i64 1488, .int .i64 1] 56)).heap.size = w.heap.size + 1 by simp] at h
    exact h
  have hs := (lit_span w 1488 1488 1).later ((Below.refl (w.alloc (.cells #[.int .i64 1488, .int .i64 1488, .int .i64 1] 56)).heap.size (w.alloc (.cells #[.int .i64 1488, .int .i64 1488, .int .i64 1] 56))).alloc (Nat.le_refl _) (.cells #[.slice none 0 0, .slice none 0 0, .slice none 0 0, .slice (some ⟨w.heap.size, 0, none⟩) 1 1, .slice none 0 0, .slice none 0 0, .slice none 0 0, .slice none 0 0, .slice none 0 0, .slice none 0 0, .slice none 0 0, .slice none 0 0] 26))
  have HT : Hid (Tbl ((w.alloc (.cells #[.int .i64 1488, .int .i64 1488, .int .i64 1] 56)).alloc (.cells #[.slice none 0 0, .slice none 0 0, .slice none 0 0, .slice (some ⟨w.heap.size, 0, none⟩) 1 1, .slice none 0 0, .slice none 0 0, .slice none 0 0, .slice none 0 0, .slice none 0 0, .slice none 0 0, .slice none 0 0, .slice none 0 0] 26)) (w.heap.size + 1) t tab16) := Lib.hid (by
    subst ht
    exact ⟨hX, ⟨Spans.none_, Spans.none_, Spans.none_, hs, Spans.none_, Spans.none_, Spans.none_, Mapps.none_, Mapps.none_, Mapps.none_, Ints.none_, Mapps.none_⟩⟩)
  have B0 := Lib.hid b0
  clear hX hs b0 ht
  generalize ((w.alloc (.cells #[.int .i64 1488, .int .i64 1488, .int .i64 1] 56)).alloc (.cells #[.slice none 0 0, .slice none 0 0, .slice none 0 0, .slice (some ⟨w.heap.size, 0, none⟩) 1 1, .slice none 0 0, .slice none 0 0, .slice none 0 0, .slice none 0 0, .slice none 0 0, .slice none 0 0, .slice none 0 0, .slice none 0 0] 26)) = w1 at *
  obtain ⟨tb, htb⟩ : ∃ tb, w.heap.size + 1 = tb := ⟨_, rfl⟩
  rw [htb] at HT
  simp only [htb]
  clear htb
  have HG1 := Lib.hid (fun W (h : Below w1.heap.size w1 W) => HG.out W (below_next B0.out h))
  have HRU := Lib.hid (fun v xs W (h : Below w1.heap.size w1 W) hi => rule16_any t tab16 v xs W (HT.out.later h).2 (HG1.out W h) hi)
  have HDO := Lib.hid (fun v ls W (h : Below w1.heap.size w1 W) hi => domain_any t tab16 v ls W (HT.out.later h).2 (HG1.out W h) hi)
  have HRT := Lib.hid (fun v xs W (h : Below w1.heap.size w1 W) hi => rtl_any t tab16 v xs W (HT.out.later h).2 (HG1.out W h) hi)
  clear HG
  obtain ⟨x0, x1, x2, x3, x4, x5, x6, x7, x8, x9, x10, x11⟩ := HT.out.1.tab
  go_upto_region 3 with (go_at_call 39; have bl := (Below.refl w1.heap.size w1).alloc (Nat.le_refl _) (.cells #[.int .i64 1488, .int .i64 97] 3); have hc := HRU.out (.slice (some ⟨w1.heap.size, 0, none⟩) 2 2) [1488, 97] _ bl (by have h := Ints.of_own (own_new w1 3 [1488, 97] (by simp)); simpa using h); rw [rule16_1] at hc; refine hc.mono ?_; rintro e w2 ⟨rfl, b2⟩; have B2 := Lib.hid (below_next bl b2); clear bl b2 hc)
  clear x0 x1 x2 x3 x4 x5 x6 x7 x8 x9 x10 x11
  obtain ⟨x0, x1, x2, x3, x4, x5, x6, x7, x8, x9, x10, x11⟩ := (HT.out.later B2.out).1.tab
  go_upto_region 4 with (go_at_call 39; have bl := (Below.refl w2.heap.size w2).alloc (Nat.le_refl _) (.cells #[.int .i64 49] 3); have hc := HRU.out (.slice (some ⟨w2.heap.size, 0, none⟩) 1 1) [49] _ (below_next B2.out bl) (by have h := Ints.of_own (own_new w2 3 [49] (by simp)); simpa using h); rw [rule16_2] at hc; refine hc.mono ?_; rintro e w3 ⟨rfl, b3⟩; have B3 := Lib.hid (below_next B2.out (below_next bl b3)); clear bl b3 hc)
  clear x0 x1 x2 x3 x4 x5 x6 x7 x8 x9 x10 x11
  obtain ⟨x0, x1, x2, x3, x4, x5, x6, x7, x8, x9, x10, x11⟩ := (HT.out.later B3.out).1.tab
  go_upto_region 5 with (go_at_call 17; have b1 := (Below.refl w3.heap.size w3).alloc (Nat.le_refl _) (.cells #[.int .i64 1488] 3); have b2 := (Below.refl (w3.alloc (.cells #[.int .i64 1488] 3)).heap.size (w3.alloc (.cells #[.int .i64 1488] 3))).alloc (Nat.le_refl _) (.cells #[.int .i64 49] 3); have i1 : Ints (w3.alloc (.cells #[.int .i64 1488] 3)) (w3.alloc (.cells #[.int .i64 1488] 3)).heap.size .i64 (.slice (some ⟨w3.heap.size, 0, none⟩) 1 1) [1488] := (by have h := Ints.of_own (own_new w3 3 [1488] (by simp)); simpa using h); have i2 : Ints ((w3.alloc (.cells #[.int .i64 1488] 3)).alloc (.cells #[.int .i64 49] 3)) ((w3.alloc (.cells #[.int .i64 1488] 3)).alloc (.cells #[.int .i64 49] 3)).heap.size .i64 (.slice (some ⟨(w3.alloc (.cells #[.int .i64 1488] 3)).heap.size, 0, none⟩) 1 1) [49] := (by have h := Ints.of_own (own_new (w3.alloc (.cells #[.int .i64 1488] 3)) 3 [49] (by simp)); simpa using h); have hl := lists_two ((w3.alloc (.cells #[.int .i64 1488] 3)).alloc (.cells #[.int .i64 49] 3)) _ _ [1488] [49] (i1.later b2) i2; have b3 := (Below.refl ((w3.alloc (.cells #[.int .i64 1488] 3)).alloc (.cells #[.int .i64 49] 3)).heap.size ((w3.alloc (.cells #[.int .i64 1488] 3)).alloc (.cells #[.int .i64 49] 3))).alloc (Nat.le_refl _) (.cells #[.slice (some ⟨w3.heap.size, 0, none⟩) 1 1, .slice (some ⟨(w3.alloc (.cells #[.int .i64 1488] 3)).heap.size, 0, none⟩) 1 1] 22); have hc := HDO.out _ [[1488], [49]] _ (below_next B3.out (below_next (below_next b1 b2) b3)) hl; rw [dom16_1] at hc; simp only [World.size_alloc] at hc; refine hc.mono ?_; rintro e w4 ⟨rfl, b4⟩; have b4 : Below (((w3.alloc (.cells #[.int .i64 1488] 3)).alloc (.cells #[.int .i64 49] 3)).alloc (.cells #[.slice (some ⟨w3.heap.size, 0, none⟩) 1 1, .slice (some ⟨w3.heap.size + 1, 0, none⟩) 1 1] 22)).heap.size (((w3.alloc (.cells #[.int .i64 1488] 3)).alloc (.cells #[.int .i64 49] 3)).alloc (.cells #[.slice (some ⟨w3.heap.size, 0, none⟩) 1 1, .slice (some ⟨w3.heap.size + 1, 0, none⟩) 1 1] 22)) w4 := (by simpa using b4); have b3 : Below ((w3.alloc (.cells #[.int .i64 1488] 3)).alloc (.cells #[.int .i64 49] 3)).heap.size ((w3.alloc (.cells #[.int .i64 1488] 3)).alloc (.cells #[.int .i64 49] 3)) (((w3.alloc (.cells #[.int .i64 1488] 3)).alloc (.cells #[.int .i64 49] 3)).alloc (.cells #[.slice (some ⟨w3.heap.size, 0, none⟩) 1 1, .slice (some ⟨w3.heap.size + 1, 0, none⟩) 1 1] 22)) := (by simpa using b3); have B4 := Lib.hid (below_next B3.out (below_next (below_next (below_next b1 b2) b3) b4)); clear b1 b2 b3 b4 i1 i2 hl hc)
  clear x0 x1 x2 x3 x4 x5 x6 x7 x8 x9 x10 x11
  obtain ⟨x0, x1, x2, x3, x4, x5, x6, x7, x8, x9, x10, x11⟩ := (HT.out.later B4.out).1.tab
  go_upto_region 6 with (go_at_call 17; have b1 := (Below.refl w4.heap.size w4).alloc (Nat.le_refl _) (.cells #[.int .i64 97] 3); have b2 := (Below.refl (w4.alloc (.cells #[.int .i64 97] 3)).heap.size (w4.alloc (.cells #[.int .i64 97] 3))).alloc (Nat.le_refl _) (.cells #[.int .i64 49] 3); have i1 : Ints (w4.alloc (.cells #[.int .i64 97] 3)) (w4.alloc (.cells #[.int .i64 97] 3)).heap.size .i64 (.slice (some ⟨w4.heap.size, 0, none⟩) 1 1) [97] := (by have h := Ints.of_own (own_new w4 3 [97] (by simp)); simpa using h); have i2 : Ints ((w4.alloc (.cells #[.int .i64 97] 3)).alloc (.cells #[.int .i64 49] 3)) ((w4.alloc (.cells #[.int .i64 97] 3)).alloc (.cells #[.int .i64 49] 3)).heap.size .i64 (.slice (some ⟨(w4.alloc (.cells #[.int .i64 97] 3)).heap.size, 0, none⟩) 1 1) [49] := (by have h := Ints.of_own (own_new (w4.alloc (.cells #[.int .i64 97] 3)) 3 [49] (by simp)); simpa using h); have hl := lists_two ((w4.alloc (.cells #[.int .i64 97] 3)).alloc (.cells #[.int .i64 49] 3)) _ _ [97] [49] (i1.later b2) i2; have b3 := (Below.refl ((w4.alloc (.cells #[.int .i64 97] 3)).alloc (.cells #[.int .i64 49] 3)).heap.size ((w4.alloc (.cells #[.int .i64 97] 3)).alloc (.cells #[.int .i64 49] 3))).alloc (Nat.le_refl _) (.cells #[.slice (some ⟨w4.heap.size, 0, none⟩) 1 1, .slice (some ⟨(w4.alloc (.cells #[.int .i64 97] 3)).heap.size, 0, none⟩) 1 1] 22); have hc := HDO.out _ [[97], [49]] _ (below_next B4.out (below_next (below_next b1 b2) b3)) hl; rw [dom16_2] at hc; simp only [World.size_alloc] at hc; refine hc.mono ?_; rintro e w5 ⟨rfl, b4⟩; have b4 : Below (((w4.alloc (.cells #[.int .i64 97] 3)).alloc (.cells #[.int .i64 49] 3)).alloc (.cells #[.slice (some ⟨w4.heap.size, 0, none⟩) 1 1, .slice (some ⟨w4.heap.size + 1, 0, none⟩) 1 1] 22)).heap.size (((w4.alloc (.cells #[.int .i64 97] 3)).alloc (.cells #[.int .i64 49] 3)).alloc (.cells #[.slice (some ⟨w4.heap.size, 0, none⟩) 1 1, .slice (some ⟨w4.heap.size + 1, 0, none⟩) 1 1] 22)) w5 := (by simpa using b4); have b3 : Below ((w4.alloc (.cells #[.int .i64 97] 3)).alloc (.cells #[.int .i64 49] 3)).heap.size ((w4.alloc (.cells #[.int .i64 97] 3)).alloc (.cells #[.int .i64 49] 3)) (((w4.alloc (.cells #[.int .i64 97] 3)).alloc (.cells #[.int .i64 49] 3)).alloc (.cells #[.slice (some ⟨w4.heap.size, 0, none⟩) 1 1, .slice (some ⟨w4.heap.size + 1, 0, none⟩) 1 1] 22)) := (by simpa using b3); have B5 := Lib.hid (below_next B4.out (below_next (below_next (below_next b1 b2) b3) b4)); clear b1 b2 b3 b4 i1 i2 hl hc)
  clear x0 x1 x2 x3 x4 x5 x6 x7 x8 x9 x10 x11
  obtain ⟨x0, x1, x2, x3, x4, x5, x6, x7, x8, x9, x10, x11⟩ := (HT.out.later B5.out).1.tab
  go_wp2_with (go_at_call 40; have bl := (Below.refl w5.heap.size w5).alloc (Nat.le_refl _) (.cells #[.int .i64 1488] 3); have hc := HRT.out (.slice (some ⟨w5.heap.size, 0, none⟩) 1 1) [1488] _ (below_next B5.out bl) (by have h := Ints.of_own (own_new w5 3 [1488] (by simp)); simpa using h); rw [rtl16_1] at hc; refine hc.mono ?_; rintro e w6 ⟨rfl, b6⟩; have B6 := Lib.hid (below_next B5.out (below_next bl b6)); clear bl b6 hc)
  go_ret
  exact ⟨rfl, below_next B0.out B6.out⟩
end Go.Proofs.YtjigjjbhdgpfjaaGreatDoor
/-
  The walk through the law BidiMade.
-/
namespace Go.Proofs.YtjigjjbhdgpfjaaGreatDoor
open Go.RowKit ND

/-- A slice of slices that can be read. -/
def ListsP (v : Value) (w : World) : Prop := ∃ ls, Lists w w.heap.size v ls
theorem listsP_later (v : Value) (w w' : World) (h : ListsP v w) (hb : Below w.heap.size w w') : ListsP v w' := by obtain ⟨ls, h⟩ := h; exact ⟨ls, h.later hb⟩
/-- What holds ahead of region 2. -/
structure m16Ctx (w0 : World) (b : Nat) (t : Tv) (T : Tab) (va : Value) (as_ : List Int) (vb : Value) (bs : List Int) (vc : Value) (cs : List Int) : Prop where
  tb : Tbl w0 b t T
  g : Glob w0
  a : Ints w0 w0.heap.size .i64 va as_
  b_ : Ints w0 w0.heap.size .i64 vb bs
  c : Ints w0 w0.heap.size .i64 vc cs
def m16Specs (t : Tv) (va : Value) (vb : Value) (vc : Value) : List SpecK := [.val (.bool true), .val (.bool true), .val t.val, .val va, .lst (fun _ => True), .val va, .lst (fun _ => True), .val vb, .lst (fun _ => True), .val vc, .lst (fun _ => True), .oth ListsP listsP_later, .val (.bool true), .val (.bool true), .val (.bool true), .val t.val, .val vb, .lst (fun _ => True), .val va, .lst (fun _ => True), .oth ListsP listsP_later, .val (.bool true), .val (.bool true), .val (.bool true)]
def m16Fixed (b : Nat) (va : Value) (vb : Value) (vc : Value) : List (Tmp × Value) := [(1, va), (2, vb), (3, vc), (9, .pointer (some ⟨b, 0, none⟩))]
def m16Ob (w0 : World) (b : Nat) (t : Tv) (va : Value) (vb : Value) (vc : Value) (Q : Exit → Act → World → Prop) (k : Nat) : Prop := ObR 24 Tryz.prog (opsAt Tryz.f4 2) 35 [] (m16Fixed b va vb vc) w0 (m16Specs t va vb vc) [] Q k
section
variable {w0 : World} {b : Nat} {t : Tv} {T : Tab} {va : Value} {as_ : List Int} {vb : Value} {bs : List Int} {vc : Value} {cs : List Int} {Q : Exit → Act → World → Prop}
theorem m16_ob0 (H : m16Ctx w0 b t T va as_ vb bs vc cs) : m16Ob w0 b t va vb vc Q 0 := by
  intro o ho a w hb hf hd K hK
  rw [if_pos (wanted_none _ (get_op (·.guard) ho (by kernel_rfl)))]
  refine ob_enter (enter0 (tys := #[]) (get_op (·.op) ho (by kernel_rfl)) (fun args w => enters_of Tryz.func14 (by kernel_rfl) rfl args w)) (awake16 w (H.g.later hb)) fun e w' ⟨he, h1⟩ => ⟨_, he, ?_⟩
  exact hK _ _ (rk_of rfl rfl) (.inl h1)
theorem m16_ob1 : m16Ob w0 b t va vb vc Q 1 := by
  intro o ho a w hb hf hd K hK
  rw [if_pos (wanted_none _ (get_op (·.guard) ho (by kernel_rfl)))]
  obtain ⟨v0, h0, e0⟩ := dep_k (F := 24) ho hd 0 12 (.val (.bool true)) (by kernel_rfl) (by kernel_rfl) rfl (by kernel_rfl)
  obtain rfl : _ = v0 := Eq.symm e0
  exact ob_move (get_op (·.op) ho (by kernel_rfl)) (eval_tmp h0) (hK _ _ (rk_of rfl rfl) (.inl (Below.refl _ _)))
theorem m16_ob2 (H : m16Ctx w0 b t T va as_ vb bs vc cs) : m16Ob w0 b t va vb vc Q 2 := by
  intro o ho a w hb hf hd K hK
  obtain ⟨v1, h1, e1⟩ := dep_k (F := 24) ho hd 1 13 (.val (.bool true)) (by kernel_rfl) (by kernel_rfl) rfl (by kernel_rfl)
  obtain rfl : _ = v1 := Eq.symm e1
  rw [if_pos (wanted_at (g := 1) (b := true) ho (by kernel_rfl) (by kernel_rfl) h1 rfl)]
  exact ob_value (load_tab (H.tb.later hb) (get_op (·.op) ho (by kernel_rfl)) (eval_tmp (hf.2.2 (9, _) (by simp [m16Fixed])))) (hK _ _ (rk_of rfl rfl) (.inl (Below.refl _ _)))
theorem m16_ob3 : m16Ob w0 b t va vb vc Q 3 := by
  intro o ho a w hb hf hd K hK
  obtain ⟨v1, h1, e1⟩ := dep_k (F := 24) ho hd 1 13 (.val (.bool true)) (by kernel_rfl) (by kernel_rfl) rfl (by kernel_rfl)
  obtain rfl : _ = v1 := Eq.symm e1
  rw [if_pos (wanted_at (g := 1) (b := true) ho (by kernel_rfl) (by kernel_rfl) h1 rfl)]
  exact ob_move (get_op (·.op) ho (by kernel_rfl)) (eval_tmp (hf.2.2 (1, _) (by simp [m16Fixed]))) (hK _ _ (rk_of rfl rfl) (.inl (Below.refl _ _)))
theorem m16_ob4 (H : m16Ctx w0 b t T va as_ vb bs vc cs) : m16Ob w0 b t va vb vc Q 4 := by
  intro o ho a w hb hf hd K hK
  obtain ⟨v1, h1, e1⟩ := dep_k (F := 24) ho hd 1 13 (.val (.bool true)) (by kernel_rfl) (by kernel_rfl) rfl (by kernel_rfl)
  obtain rfl : _ = v1 := Eq.symm e1
  rw [if_pos (wanted_at (g := 1) (b := true) ho (by kernel_rfl) (by kernel_rfl) h1 rfl)]
  obtain ⟨v3, h3, e3⟩ := dep_k (F := 24) ho hd 3 15 (.val va) (by kernel_rfl) (by kernel_rfl) rfl (by kernel_rfl)
  obtain rfl : _ = v3 := Eq.symm e3
  refine ob_enter (enter1 (tys := #[22]) (x := .tmp 15) (get_op (·.op) ho (by kernel_rfl)) (eval_tmp h3) (fun args w => enters_of Tryz.func16 (by kernel_rfl) rfl args w)) (mixed_any w _ _ (H.a.later hb)) fun e w' ⟨v, ys, he, h2, _, _, h1, _⟩ => ⟨v, he, ?_⟩
  exact hK _ _ (rk_of rfl ⟨ys, Ints.of_own h2, trivial⟩) (.inl h1)
theorem m16_ob5 : m16Ob w0 b t va vb vc Q 5 := by
  intro o ho a w hb hf hd K hK
  obtain ⟨v1, h1, e1⟩ := dep_k (F := 24) ho hd 1 13 (.val (.bool true)) (by kernel_rfl) (by kernel_rfl) rfl (by kernel_rfl)
  obtain rfl : _ = v1 := Eq.symm e1
  rw [if_pos (wanted_at (g := 1) (b := true) ho (by kernel_rfl) (by kernel_rfl) h1 rfl)]
  exact ob_move (get_op (·.op) ho (by kernel_rfl)) (eval_tmp (hf.2.2 (1, _) (by simp [m16Fixed]))) (hK _ _ (rk_of rfl rfl) (.inl (Below.refl _ _)))
theorem m16_ob6 (H : m16Ctx w0 b t T va as_ vb bs vc cs) : m16Ob w0 b t va vb vc Q 6 := by
  intro o ho a w hb hf hd K hK
  obtain ⟨v1, h1, e1⟩ := dep_k (F := 24) ho hd 1 13 (.val (.bool true)) (by kernel_rfl) (by kernel_rfl) rfl (by kernel_rfl)
  obtain rfl : _ = v1 := Eq.symm e1
  rw [if_pos (wanted_at (g := 1) (b := true) ho (by kernel_rfl) (by kernel_rfl) h1 rfl)]
  obtain ⟨v5, h5, e5⟩ := dep_k (F := 24) ho hd 5 17 (.val va) (by kernel_rfl) (by kernel_rfl) rfl (by kernel_rfl)
  obtain rfl : _ = v5 := Eq.symm e5
  refine ob_enter (enter1 (tys := #[22]) (x := .tmp 17) (get_op (·.op) ho (by kernel_rfl)) (eval_tmp h5) (fun args w => enters_of Tryz.func16 (by kernel_rfl) rfl args w)) (mixed_any w _ _ (H.a.later hb)) fun e w' ⟨v, ys, he, h2, _, _, h1, _⟩ => ⟨v, he, ?_⟩
  exact hK _ _ (rk_of rfl ⟨ys, Ints.of_own h2, trivial⟩) (.inl h1)
theorem m16_ob7 : m16Ob w0 b t va vb vc Q 7 := by
  intro o ho a w hb hf hd K hK
  obtain ⟨v1, h1, e1⟩ := dep_k (F := 24) ho hd 1 13 (.val (.bool true)) (by kernel_rfl) (by kernel_rfl) rfl (by kernel_rfl)
  obtain rfl : _ = v1 := Eq.symm e1
  rw [if_pos (wanted_at (g := 1) (b := true) ho (by kernel_rfl) (by kernel_rfl) h1 rfl)]
  exact ob_move (get_op (·.op) ho (by kernel_rfl)) (eval_tmp (hf.2.2 (2, _) (by simp [m16Fixed]))) (hK _ _ (rk_of rfl rfl) (.inl (Below.refl _ _)))
theorem m16_ob8 (H : m16Ctx w0 b t T va as_ vb bs vc cs) : m16Ob w0 b t va vb vc Q 8 := by
  intro o ho a w hb hf hd K hK
  obtain ⟨v1, h1, e1⟩ := dep_k (F := 24) ho hd 1 13 (.val (.bool true)) (by kernel_rfl) (by kernel_rfl) rfl (by kernel_rfl)
  obtain rfl : _ = v1 := Eq.symm e1
  rw [if_pos (wanted_at (g := 1) (b := true) ho (by kernel_rfl) (by kernel_rfl) h1 rfl)]
  obtain ⟨v7, h7, e7⟩ := dep_k (F := 24) ho hd 7 19 (.val vb) (by kernel_rfl) (by kernel_rfl) rfl (by kernel_rfl)
  obtain rfl : _ = v7 := Eq.symm e7
  refine ob_enter (enter1 (tys := #[22]) (x := .tmp 19) (get_op (·.op) ho (by kernel_rfl)) (eval_tmp h7) (fun args w => enters_of Tryz.func16 (by kernel_rfl) rfl args w)) (mixed_any w _ _ (H.b_.later hb)) fun e w' ⟨v, ys, he, h2, _, _, h1, _⟩ => ⟨v, he, ?_⟩
  exact hK _ _ (rk_of rfl ⟨ys, Ints.of_own h2, trivial⟩) (.inl h1)
theorem m16_ob9 : m16Ob w0 b t va vb vc Q 9 := by
  intro o ho a w hb hf hd K hK
  obtain ⟨v1, h1, e1⟩ := dep_k (F := 24) ho hd 1 13 (.val (.bool true)) (by kernel_rfl) (by kernel_rfl) rfl (by kernel_rfl)
  obtain rfl : _ = v1 := Eq.symm e1
  rw [if_pos (wanted_at (g := 1) (b := true) ho (by kernel_rfl) (by kernel_rfl) h1 rfl)]
  exact ob_move (get_op (·.op) ho (by kernel_rfl)) (eval_tmp (hf.2.2 (3, _) (by simp [m16Fixed]))) (hK _ _ (rk_of rfl rfl) (.inl (Below.refl _ _)))
theorem m16_ob10 (H : m16Ctx w0 b t T va as_ vb bs vc cs) : m16Ob w0 b t va vb vc Q 10 := by
  intro o ho a w hb hf hd K hK
  obtain ⟨v1, h1, e1⟩ := dep_k (F := 24) ho hd 1 13 (.val (.bool true)) (by kernel_rfl) (by kernel_rfl) rfl (by kernel_rfl)
  obtain rfl : _ = v1 := Eq.symm e1
  rw [if_pos (wanted_at (g := 1) (b := true) ho (by kernel_rfl) (by kernel_rfl) h1 rfl)]
  obtain ⟨v9, h9, e9⟩ := dep_k (F := 24) ho hd 9 21 (.val vc) (by kernel_rfl) (by kernel_rfl) rfl (by kernel_rfl)
  obtain rfl : _ = v9 := Eq.symm e9
  refine ob_enter (enter1 (tys := #[22]) (x := .tmp 21) (get_op (·.op) ho (by kernel_rfl)) (eval_tmp h9) (fun args w => enters_of Tryz.func16 (by kernel_rfl) rfl args w)) (mixed_any w _ _ (H.c.later hb)) fun e w' ⟨v, ys, he, h2, _, _, h1, _⟩ => ⟨v, he, ?_⟩
  exact hK _ _ (rk_of rfl ⟨ys, Ints.of_own h2, trivial⟩) (.inl h1)
theorem m16_ob11 : m16Ob w0 b t va vb vc Q 11 := by
  intro o ho a w hb hf hd K hK
  obtain ⟨v1, h1, e1⟩ := dep_k (F := 24) ho hd 1 13 (.val (.bool true)) (by kernel_rfl) (by kernel_rfl) rfl (by kernel_rfl)
  obtain rfl : _ = v1 := Eq.symm e1
  rw [if_pos (wanted_at (g := 1) (b := true) ho (by kernel_rfl) (by kernel_rfl) h1 rfl)]
  obtain ⟨v6, h6, e6⟩ := dep_k (F := 24) ho hd 6 18 (.lst (fun _ => True)) (by kernel_rfl) (by kernel_rfl) rfl (by kernel_rfl)
  obtain ⟨v8, h8, e8⟩ := dep_k (F := 24) ho hd 8 20 (.lst (fun _ => True)) (by kernel_rfl) (by kernel_rfl) rfl (by kernel_rfl)
  obtain ⟨v10, h10, e10⟩ := dep_k (F := 24) ho hd 10 22 (.lst (fun _ => True)) (by kernel_rfl) (by kernel_rfl) rfl (by kernel_rfl)
  obtain ⟨ys6, hi6, _⟩ := e6
  obtain ⟨A6, c6, rfl, _⟩ := id hi6
  obtain ⟨ys8, hi8, _⟩ := e8
  obtain ⟨A8, c8, rfl, _⟩ := id hi8
  obtain ⟨ys10, hi10, _⟩ := e10
  obtain ⟨A10, c10, rfl, _⟩ := id hi10
  have hop : o.op = .buildSlice 36 3 #[(0, .tmp 18), (1, .tmp 20), (2, .tmp 22)] := (get_op (·.op) ho (by kernel_rfl))
  have hr : (execOp a.eval o).run Tryz.prog w = .ok (.value (.slice (some ⟨w.heap.size, 0, none⟩) 3 3)) (w.alloc (.cells #[.slice A6 ys6.length c6, .slice A8 ys8.length c8, .slice A10 ys10.length c10] 22)) := by
    unfold execOp
    rw [hop]
    go_simp
  exact ob_run5 hr (hK _ _ (rk_of rfl ⟨_, lists_three w _ _ _ _ _ _ hi6 hi8 hi10⟩) (.inl ((Below.refl _ _).alloc (Nat.le_refl _) _)))
theorem m16_ob12 (H : m16Ctx w0 b t T va as_ vb bs vc cs) : m16Ob w0 b t va vb vc Q 12 := by
  intro o ho a w hb hf hd K hK
  obtain ⟨v1, h1, e1⟩ := dep_k (F := 24) ho hd 1 13 (.val (.bool true)) (by kernel_rfl) (by kernel_rfl) rfl (by kernel_rfl)
  obtain rfl : _ = v1 := Eq.symm e1
  rw [if_pos (wanted_at (g := 1) (b := true) ho (by kernel_rfl) (by kernel_rfl) h1 rfl)]
  obtain ⟨v2, h2, e2⟩ := dep_k (F := 24) ho hd 2 14 (.val t.val) (by kernel_rfl) (by kernel_rfl) rfl (by kernel_rfl)
  obtain rfl : _ = v2 := Eq.symm e2
  obtain ⟨v4, h4, e4⟩ := dep_k (F := 24) ho hd 4 16 (.lst (fun _ => True)) (by kernel_rfl) (by kernel_rfl) rfl (by kernel_rfl)
  obtain ⟨v11, h11, e11⟩ := dep_k (F := 24) ho hd 11 23 (.oth ListsP listsP_later) (by kernel_rfl) (by kernel_rfl) rfl (by kernel_rfl)
  obtain ⟨ys4, hi4, hp4⟩ := e4
  obtain ⟨ls11, hl11⟩ := e11
  refine ob_enter (enter3 (tys := #[26, 22, 36]) (x := .tmp 14) (y := .tmp 16) (z := .tmp 23) (get_op (·.op) ho (by kernel_rfl)) (eval_tmp h2) (eval_tmp h4) (eval_tmp h11) (fun args w => enters_of Tryz.func15 (by kernel_rfl) rfl args w)) (agrees16_any t T _ _ _ _ w (H.tb.later hb).2 (H.g.later hb) hi4 hl11) fun e w' ⟨he, h1⟩ => ⟨_, he, ?_⟩
  exact hK _ _ (rk_of rfl rfl) (.inl h1)
theorem m16_ob13 : m16Ob w0 b t va vb vc Q 13 := by
  intro o ho a w hb hf hd K hK
  rw [if_pos (wanted_none _ (get_op (·.guard) ho (by kernel_rfl)))]
  obtain ⟨v1, h1, e1⟩ := dep_k (F := 24) ho hd 1 13 (.val (.bool true)) (by kernel_rfl) (by kernel_rfl) rfl (by kernel_rfl)
  obtain rfl : _ = v1 := Eq.symm e1
  obtain ⟨v12, h12, e12⟩ := dep_k (F := 24) ho hd 12 24 (.val (.bool true)) (by kernel_rfl) (by kernel_rfl) rfl (by kernel_rfl)
  obtain rfl : _ = v12 := Eq.symm e12
  exact ob_pick (c := .tmp 13) (x := .tmp 24) (y := .const (.bool false)) (b := true) (get_op (·.op) ho (by kernel_rfl)) (eval_tmp h1) (eval_tmp h12) (hK _ _ (rk_of rfl rfl) (.inl (Below.refl _ _)))
theorem m16_ob14 : m16Ob w0 b t va vb vc Q 14 := by
  intro o ho a w hb hf hd K hK
  rw [if_pos (wanted_none _ (get_op (·.guard) ho (by kernel_rfl)))]
  obtain ⟨v13, h13, e13⟩ := dep_k (F := 24) ho hd 13 25 (.val (.bool true)) (by kernel_rfl) (by kernel_rfl) rfl (by kernel_rfl)
  obtain rfl : _ = v13 := Eq.symm e13
  exact ob_move (get_op (·.op) ho (by kernel_rfl)) (eval_tmp h13) (hK _ _ (rk_of rfl rfl) (.inl (Below.refl _ _)))
theorem m16_ob15 (H : m16Ctx w0 b t T va as_ vb bs vc cs) : m16Ob w0 b t va vb vc Q 15 := by
  intro o ho a w hb hf hd K hK
  obtain ⟨v14, h14, e14⟩ := dep_k (F := 24) ho hd 14 26 (.val (.bool true)) (by kernel_rfl) (by kernel_rfl) rfl (by kernel_rfl)
  obtain rfl : _ = v14 := Eq.symm e14
  rw [if_pos (wanted_at (g := 14) (b := true) ho (by kernel_rfl) (by kernel_rfl) h14 rfl)]
  exact ob_value (load_tab (H.tb.later hb) (get_op (·.op) ho (by kernel_rfl)) (eval_tmp (hf.2.2 (9, _) (by simp [m16Fixed])))) (hK _ _ (rk_of rfl rfl) (.inl (Below.refl _ _)))
theorem m16_ob16 : m16Ob w0 b t va vb vc Q 16 := by
  intro o ho a w hb hf hd K hK
  obtain ⟨v14, h14, e14⟩ := dep_k (F := 24) ho hd 14 26 (.val (.bool true)) (by kernel_rfl) (by kernel_rfl) rfl (by kernel_rfl)
  obtain rfl : _ = v14 := Eq.symm e14
  rw [if_pos (wanted_at (g := 14) (b := true) ho (by kernel_rfl) (by kernel_rfl) h14 rfl)]
  exact ob_move (get_op (·.op) ho (by kernel_rfl)) (eval_tmp (hf.2.2 (2, _) (by simp [m16Fixed]))) (hK _ _ (rk_of rfl rfl) (.inl (Below.refl _ _)))
theorem m16_ob17 (H : m16Ctx w0 b t T va as_ vb bs vc cs) : m16Ob w0 b t va vb vc Q 17 := by
  intro o ho a w hb hf hd K hK
  obtain ⟨v14, h14, e14⟩ := dep_k (F := 24) ho hd 14 26 (.val (.bool true)) (by kernel_rfl) (by kernel_rfl) rfl (by kernel_rfl)
  obtain rfl : _ = v14 := Eq.symm e14
  rw [if_pos (wanted_at (g := 14) (b := true) ho (by kernel_rfl) (by kernel_rfl) h14 rfl)]
  obtain ⟨v16, h16, e16⟩ := dep_k (F := 24) ho hd 16 28 (.val vb) (by kernel_rfl) (by kernel_rfl) rfl (by kernel_rfl)
  obtain rfl : _ = v16 := Eq.symm e16
  refine ob_enter (enter1 (tys := #[22]) (x := .tmp 28) (get_op (·.op) ho (by kernel_rfl)) (eval_tmp h16) (fun args w => enters_of Tryz.func9 (by kernel_rfl) rfl args w)) (points_any w _ _ (H.b_.later hb)) fun e w' ⟨v, ys, he, h2, _, _, h1⟩ => ⟨v, he, ?_⟩
  exact hK _ _ (rk_of rfl ⟨ys, h2, trivial⟩) (.inl h1)
theorem m16_ob18 : m16Ob w0 b t va vb vc Q 18 := by
  intro o ho a w hb hf hd K hK
  obtain ⟨v14, h14, e14⟩ := dep_k (F := 24) ho hd 14 26 (.val (.bool true)) (by kernel_rfl) (by kernel_rfl) rfl (by kernel_rfl)
  obtain rfl : _ = v14 := Eq.symm e14
  rw [if_pos (wanted_at (g := 14) (b := true) ho (by kernel_rfl) (by kernel_rfl) h14 rfl)]
  exact ob_move (get_op (·.op) ho (by kernel_rfl)) (eval_tmp (hf.2.2 (1, _) (by simp [m16Fixed]))) (hK _ _ (rk_of rfl rfl) (.inl (Below.refl _ _)))
theorem m16_ob19 (H : m16Ctx w0 b t T va as_ vb bs vc cs) : m16Ob w0 b t va vb vc Q 19 := by
  intro o ho a w hb hf hd K hK
  obtain ⟨v14, h14, e14⟩ := dep_k (F := 24) ho hd 14 26 (.val (.bool true)) (by kernel_rfl) (by kernel_rfl) rfl (by kernel_rfl)
  obtain rfl : _ = v14 := Eq.symm e14
  rw [if_pos (wanted_at (g := 14) (b := true) ho (by kernel_rfl) (by kernel_rfl) h14 rfl)]
  obtain ⟨v18, h18, e18⟩ := dep_k (F := 24) ho hd 18 30 (.val va) (by kernel_rfl) (by kernel_rfl) rfl (by kernel_rfl)
  obtain rfl : _ = v18 := Eq.symm e18
  refine ob_enter (enter1 (tys := #[22]) (x := .tmp 30) (get_op (·.op) ho (by kernel_rfl)) (eval_tmp h18) (fun args w => enters_of Tryz.func9 (by kernel_rfl) rfl args w)) (points_any w _ _ (H.a.later hb)) fun e w' ⟨v, ys, he, h2, _, _, h1⟩ => ⟨v, he, ?_⟩
  exact hK _ _ (rk_of rfl ⟨ys, h2, trivial⟩) (.inl h1)
theorem m16_ob20 : m16Ob w0 b t va vb vc Q 20 := by
  intro o ho a w hb hf hd K hK
  obtain ⟨v14, h14, e14⟩ := dep_k (F := 24) ho hd 14 26 (.val (.bool true)) (by kernel_rfl) (by kernel_rfl) rfl (by kernel_rfl)
  obtain rfl : _ = v14 := Eq.symm e14
  rw [if_pos (wanted_at (g := 14) (b := true) ho (by kernel_rfl) (by kernel_rfl) h14 rfl)]
  obtain ⟨v19, h19, e19⟩ := dep_k (F := 24) ho hd 19 31 (.lst (fun _ => True)) (by kernel_rfl) (by kernel_rfl) rfl (by kernel_rfl)
  obtain ⟨ys19, hi19, _⟩ := e19
  obtain ⟨A19, c19, rfl, _⟩ := id hi19
  have hop : o.op = .buildSlice 36 1 #[(0, .tmp 31)] := (get_op (·.op) ho (by kernel_rfl))
  have hr : (execOp a.eval o).run Tryz.prog w = .ok (.value (.slice (some ⟨w.heap.size, 0, none⟩) 1 1)) (w.alloc (.cells #[.slice A19 ys19.length c19] 22)) := by
    unfold execOp
    rw [hop]
    go_simp
  exact ob_run5 hr (hK _ _ (rk_of rfl ⟨_, lists_one w _ _ hi19⟩) (.inl ((Below.refl _ _).alloc (Nat.le_refl _) _)))
theorem m16_ob21 (H : m16Ctx w0 b t T va as_ vb bs vc cs) : m16Ob w0 b t va vb vc Q 21 := by
  intro o ho a w hb hf hd K hK
  obtain ⟨v14, h14, e14⟩ := dep_k (F := 24) ho hd 14 26 (.val (.bool true)) (by kernel_rfl) (by kernel_rfl) rfl (by kernel_rfl)
  obtain rfl : _ = v14 := Eq.symm e14
  rw [if_pos (wanted_at (g := 14) (b := true) ho (by kernel_rfl) (by kernel_rfl) h14 rfl)]
  obtain ⟨v15, h15, e15⟩ := dep_k (F := 24) ho hd 15 27 (.val t.val) (by kernel_rfl) (by kernel_rfl) rfl (by kernel_rfl)
  obtain rfl : _ = v15 := Eq.symm e15
  obtain ⟨v17, h17, e17⟩ := dep_k (F := 24) ho hd 17 29 (.lst (fun _ => True)) (by kernel_rfl) (by kernel_rfl) rfl (by kernel_rfl)
  obtain ⟨v20, h20, e20⟩ := dep_k (F := 24) ho hd 20 32 (.oth ListsP listsP_later) (by kernel_rfl) (by kernel_rfl) rfl (by kernel_rfl)
  obtain ⟨ys17, hi17, hp17⟩ := e17
  obtain ⟨ls20, hl20⟩ := e20
  refine ob_enter (enter3 (tys := #[26, 22, 36]) (x := .tmp 27) (y := .tmp 29) (z := .tmp 32) (get_op (·.op) ho (by kernel_rfl)) (eval_tmp h15) (eval_tmp h17) (eval_tmp h20) (fun args w => enters_of Tryz.func15 (by kernel_rfl) rfl args w)) (agrees16_any t T _ _ _ _ w (H.tb.later hb).2 (H.g.later hb) hi17 hl20) fun e w' ⟨he, h1⟩ => ⟨_, he, ?_⟩
  exact hK _ _ (rk_of rfl rfl) (.inl h1)
theorem m16_ob22 : m16Ob w0 b t va vb vc Q 22 := by
  intro o ho a w hb hf hd K hK
  rw [if_pos (wanted_none _ (get_op (·.guard) ho (by kernel_rfl)))]
  obtain ⟨v14, h14, e14⟩ := dep_k (F := 24) ho hd 14 26 (.val (.bool true)) (by kernel_rfl) (by kernel_rfl) rfl (by kernel_rfl)
  obtain rfl : _ = v14 := Eq.symm e14
  obtain ⟨v21, h21, e21⟩ := dep_k (F := 24) ho hd 21 33 (.val (.bool true)) (by kernel_rfl) (by kernel_rfl) rfl (by kernel_rfl)
  obtain rfl : _ = v21 := Eq.symm e21
  exact ob_pick (c := .tmp 26) (x := .tmp 33) (y := .const (.bool false)) (b := true) (get_op (·.op) ho (by kernel_rfl)) (eval_tmp h14) (eval_tmp h21) (hK _ _ (rk_of rfl rfl) (.inl (Below.refl _ _)))
theorem m16_ob23 : m16Ob w0 b t va vb vc Q 23 := by
  intro o ho a w hb hf hd K hK
  rw [if_pos (wanted_none _ (get_op (·.guard) ho (by kernel_rfl)))]
  obtain ⟨v22, h22, e22⟩ := dep_k (F := 24) ho hd 22 34 (.val (.bool true)) (by kernel_rfl) (by kernel_rfl) rfl (by kernel_rfl)
  obtain rfl : _ = v22 := Eq.symm e22
  exact ob_assign (get_op (·.op) ho (by kernel_rfl)) (eval_tmp h22) (hK _ _ (rk_of rfl rfl) (.inl (Below.refl _ _)))
theorem m16_obs (H : m16Ctx w0 b t T va as_ vb bs vc cs) (k : Nat) (hk : k < 24) : m16Ob w0 b t va vb vc Q k := by
  match k, hk with
  | 0, _ => exact m16_ob0 H
  | 1, _ => exact m16_ob1
  | 2, _ => exact m16_ob2 H
  | 3, _ => exact m16_ob3
  | 4, _ => exact m16_ob4 H
  | 5, _ => exact m16_ob5
  | 6, _ => exact m16_ob6 H
  | 7, _ => exact m16_ob7
  | 8, _ => exact m16_ob8 H
  | 9, _ => exact m16_ob9
  | 10, _ => exact m16_ob10 H
  | 11, _ => exact m16_ob11
  | 12, _ => exact m16_ob12 H
  | 13, _ => exact m16_ob13
  | 14, _ => exact m16_ob14
  | 15, _ => exact m16_ob15 H
  | 16, _ => exact m16_ob16
  | 17, _ => exact m16_ob17 H
  | 18, _ => exact m16_ob18
  | 19, _ => exact m16_ob19 H
  | 20, _ => exact m16_ob20
  | 21, _ => exact m16_ob21 H
  | 22, _ => exact m16_ob22
  | 23, _ => exact m16_ob23
  | m + 24, h => exact absurd h (by omega)
theorem m16_region {a : Act} (H : m16Ctx w0 b t T va as_ vb bs vc cs) (hf : FS 35 [] (m16Fixed b va vb vc) a)
    (hend : ∀ a w, Below w0.heap.size w0 w → FS 35 [] (m16Fixed b va vb vc) a → (∀ (i : Nat) (o : Oper) (d : Tmp), (opsAt Tryz.f4 2)[i]? = some o → (∀ j, killK (m16Specs t va vb vc) [] i j = false) → o.dst = some d → ∃ v, a.tmps[d]? = some v ∧ RK w0.heap.size (m16Specs t va vb vc) i v w) → Q .normal a w) : (Code.region 2 (opsAt Tryz.f4 2) true).wp Tryz.prog Q a w0 := by
  refine wp_region_k 24 (n := 35) (ds := []) (fixed := m16Fixed b va vb vc) (specs := m16Specs t va vb vc) (apps := []) (by kernel_rfl) (by kernel_rfl) (by kernel_rfl) (by kernel_rfl) hf (fun i hi => m16_obs H i ?_) hend
  have hn : (opsAt Tryz.f4 2).size = 24 := by kernel_rfl
  omega
end

set_option maxRecDepth 100000 in
set_option maxHeartbeats 2000000 in
theorem BidiMade_go (W : World) (hg : Glob W) (v : Value) (xs : List Int) (hv : Ints W W.heap.size .i64 v xs) (va : Value) (as_ : List Int) (hva : Ints W W.heap.size .i64 va as_) (vb : Value) (bs : List Int) (hvb : Ints W W.heap.size .i64 vb bs) (vc : Value) (cs : List Int) (hvc : Ints W W.heap.size .i64 vc cs) :
    Calls Tryz.prog 4 #[v, va, vb, vc] W fun e W' => e = .returned (.bool true) ∧ Below W.heap.size W W' := by
  have HG := Lib.hid hg
  have HA := Lib.hid hva
  have HB := Lib.hid hvb
  have HC := Lib.hid hvc
  obtain ⟨Ax, cx, rfl, _⟩ := id hv
  obtain ⟨Aa, ca, rfl, _⟩ := id hva
  obtain ⟨Ab, cb, rfl, _⟩ := id hvb
  obtain ⟨Ac, cc, rfl, _⟩ := id hvc
  have HT := Lib.hid (keepTables_any W _ xs hv)
  clear hv hg hva hvb hvc
  go_enter Tryz.func4, Tryz.ntmps4
  go_upto_region 2 with (go_at_call 8; refine HT.out.mono ?_; rintro e w1 ⟨t, T, rfl, ht1, hm1, hb1⟩; obtain ⟨A0, A1, A2, A3, A4, A5, A6, A7, A8, A9, A10, A11, k0, k1, k2, k3, k4, k5, k6, k7, k8, k9, k10, k11, rfl⟩ := ht1.shape; have HT1 := Lib.hid ht1; have HB1 := Lib.hid hb1; have HM1 := Lib.hid hm1; clear ht1 hb1 hm1)
  obtain ⟨t, ht, htb⟩ := Tbl.new HT1.out
  have HT2 := Lib.hid htb
  have HB2 := Lib.hid (HB1.out.alloc HB1.out.size (.cells #[.slice A0 T.category.length k0, .slice A1 T.cls.length k1, .slice A2 T.joining.length k2, .slice A3 T.bidi.length k3, .slice A4 T.script.length k4, .slice A5 T.status.length k5, .slice A6 T.ignorable.length k6, .slice A7 T.extensions.length k7, .slice A8 T.maps.length k8, .slice A9 T.decomps.length k9, .slice A10 T.excluded.length k10, .slice A11 T.prototypes.length k11] 26))
  clear htb HT1 HT
  generalize w1.alloc (.cells #[.slice A0 T.category.length k0, .slice A1 T.cls.length k1, .slice A2 T.joining.length k2, .slice A3 T.bidi.length k3, .slice A4 T.script.length k4, .slice A5 T.status.length k5, .slice A6 T.ignorable.length k6, .slice A7 T.extensions.length k7, .slice A8 T.maps.length k8, .slice A9 T.decomps.length k9, .slice A10 T.excluded.length k10, .slice A11 T.prototypes.length k11] 26) = w2 at *
  generalize w1.heap.size = tb at *
  clear ht HM1
  refine wp_region_as (ops := (opsAt Tryz.f4 2)) (by kernel_rfl) ?_
  refine m16_region (b := tb) (t := t) (T := T) (va := .slice Aa as_.length ca) (as_ := as_) (vb := .slice Ab bs.length cb) (bs := bs) (vc := .slice Ac cs.length cc) (cs := cs) ⟨HT2.out, HG.out.later HB2.out, HA.out.later HB2.out, HB.out.later HB2.out, HC.out.later HB2.out⟩ ⟨rfl, rfl, by intro p hp; simp [m16Fixed] at hp; rcases hp with rfl | rfl | rfl | rfl <;> rfl⟩ ?_
  intro a w9 hc hf hr
  obtain ⟨v9, hv9, e9⟩ := end_k hr 23 8 (.val (.bool true)) (by kernel_rfl) rfl (by kernel_rfl)
  obtain rfl : v9 = .bool true := e9
  rename_i K hK
  refine hK a w9 ?_
  go_wp2
  exact bodyPost_ret (v := .bool true) (by simp [results, Tryz.results4, hv9]) hf.2.1 ⟨rfl, below_next HB2.out hc⟩
theorem BidiMade_walk (W : World) (hg : Glob W) (v : Value) (xs : List Int) (hv : Ints W W.heap.size .i64 v xs) (_ : ∀ x ∈ xs, -9223372036854775808 ≤ x ∧ x ≤ 9223372036854775807) (_ : xs.length * 8 ≤ 140737488351232) (va : Value) (as_ : List Int) (hva : Ints W W.heap.size .i64 va as_) (_ : ∀ x ∈ as_, -9223372036854775808 ≤ x ∧ x ≤ 9223372036854775807) (_ : as_.length * 8 ≤ 140737488351232) (vb : Value) (bs : List Int) (hvb : Ints W W.heap.size .i64 vb bs) (_ : ∀ x ∈ bs, -9223372036854775808 ≤ x ∧ x ≤ 9223372036854775807) (_ : bs.length * 8 ≤ 140737488351232) (vc : Value) (cs : List Int) (hvc : Ints W W.heap.size .i64 vc cs) (_ : ∀ x ∈ cs, -9223372036854775808 ≤ x ∧ x ≤ 9223372036854775807) (_ : cs.length * 8 ≤ 140737488351232) :
    Calls Tryz.prog 4 #[v, va, vb, vc] W fun e W' => e = .returned (.bool true) ∧ Below W.heap.size W W' := BidiMade_go W hg v xs hv va as_ hva vb bs hvb vc cs hvc
end Go.Proofs.YtjigjjbhdgpfjaaGreatDoor
