/-
  Merged texts: lemmas and walks that the last text of this claim leans on.
-/
import Derived.Test.YtecpbicfiaifdaaGreatDoorMgB735
import Derived.Test.YtecpbicfiaifdaaGreatDoorMgB722
import Derived.Test.YtecpbicfiaifdaaGreatDoorMgB724
import Derived.Test.YtecpbicfiaifdaaGreatDoorMgB723
import Derived.Test.YtecpbicfiaifdaaGreatDoorMgB715
import Derived.Test.YtecpbicfiaifdaaGreatDoorMgB716
import Derived.Test.YtecpbicfiaifdaaGreatDoorMgB736
/-
  The walk through awake of the laws of layer 20: the example of its chapter.
-/
namespace Go.Proofs.YtecpbicfiaifdaaGreatDoor
open Go.RowKit ND

def tab20 : Tab := ⟨[], [], [], [], [], [], [], [], [], [], [], [(109, [114, 110]), (1072, [97])]⟩
theorem sk20_1 : skelR tab20 [1072, 98] = ([97, 98], 0) := by decide +kernel
theorem sk20_2 : keyR tab20 [109] = ([114, 110], 0) := by decide +kernel
theorem sk20_3 : keyR tab20 [114, 110] = ([114, 110], 0) := by decide +kernel
/-- The example's tables, as they lie. -/
theorem lay20 (w : World) : ∃ t : Tv, t = ⟨.slice none 0 0, .slice none 0 0, .slice none 0 0, .slice none 0 0, .slice none 0 0, .slice none 0 0, .slice none 0 0, .slice none 0 0, .slice none 0 0, .slice none 0 0, .slice none 0 0, .slice (some ⟨w.heap.size + 1 + 1, 0, none⟩) 2 2⟩ ∧ Tbl ((((w.alloc (.cells #[.int .i64 114, .int .i64 110] 3)).alloc (.cells #[.int .i64 97] 3)).alloc (.cells #[.int .i64 109, .slice (some ⟨w.heap.size, 0, none⟩) 2 2, .int .i64 1072, .slice (some ⟨w.heap.size + 1, 0, none⟩) 1 1] 71)).alloc (.cells #[.slice none 0 0, .slice none 0 0, .slice none 0 0, .slice none 0 0, .slice none 0 0, .slice none 0 0, .slice none 0 0, .slice none 0 0, .slice none 0 0, .slice none 0 0, .slice none 0 0, .slice (some ⟨w.heap.size + 1 + 1, 0, none⟩) 2 2] 26)) (w.heap.size + 1 + 1 + 1) t tab20 ∧ Below w.heap.size w ((((w.alloc (.cells #[.int .i64 114, .int .i64 110] 3)).alloc (.cells #[.int .i64 97] 3)).alloc (.cells #[.int .i64 109, .slice (some ⟨w.heap.size, 0, none⟩) 2 2, .int .i64 1072, .slice (some ⟨w.heap.size + 1, 0, none⟩) 1 1] 71)).alloc (.cells #[.slice none 0 0, .slice none 0 0, .slice none 0 0, .slice none 0 0, .slice none 0 0, .slice none 0 0, .slice none 0 0, .slice none 0 0, .slice none 0 0, .slice none 0 0, .slice none 0 0, .slice (some ⟨w.heap.size + 1 + 1, 0, none⟩) 2 2] 26)) := by
  have b1 := (Below.refl w.heap.size w).alloc (Nat.le_refl _) (.cells #[.int .i64 114, .int .i64 110] 3)
  have i1 : Ints (w.alloc (.cells #[.int .i64 114, .int .i64 110] 3)) (w.alloc (.cells #[.int .i64 114, .int .i64 110] 3)).heap.size .i64 (.slice (some ⟨w.heap.size, 0, none⟩) 2 2) [114, 110] := (by have h := Ints.of_own (own_new w 3 [114, 110] (by simp)); simpa using h)
  have s1 : (w.alloc (.cells #[.int .i64 114, .int .i64 110] 3)).heap.size = w.heap.size + 1 := by simp
  generalize (w.alloc (.cells #[.int .i64 114, .int .i64 110] 3)) = a1 at *
  have b2 := (Below.refl a1.heap.size a1).alloc (Nat.le_refl _) (.cells #[.int .i64 97] 3)
  have i2 : Ints (a1.alloc (.cells #[.int .i64 97] 3)) (a1.alloc (.cells #[.int .i64 97] 3)).heap.size .i64 (.slice (some ⟨a1.heap.size, 0, none⟩) 1 1) [97] := (by have h := Ints.of_own (own_new a1 3 [97] (by simp)); simpa using h)
  have s2 : (a1.alloc (.cells #[.int .i64 97] 3)).heap.size = w.heap.size + 1 + 1 := by simp [s1]
  have i1 := i1.later b2
  rw [s1] at i2
  generalize a1.alloc (.cells #[.int .i64 97] 3) = a2 at *
  have b3 := (Below.refl a2.heap.size a2).alloc (Nat.le_refl _) (.cells #[.int .i64 109, .slice (some ⟨w.heap.size, 0, none⟩) 2 2, .int .i64 1072, .slice (some ⟨w.heap.size + 1, 0, none⟩) 1 1] 71)
  have hm := lit_map2 a2 109 _ [114, 110] 1072 _ [97] i1 i2
  have s3 : (a2.alloc (.cells #[.int .i64 109, .slice (some ⟨w.heap.size, 0, none⟩) 2 2, .int .i64 1072, .slice (some ⟨w.heap.size + 1, 0, none⟩) 1 1] 71)).heap.size = w.heap.size + 1 + 1 + 1 := by simp [s2]
  rw [s2] at hm
  generalize a2.alloc (.cells #[.int .i64 109, .slice (some ⟨w.heap.size, 0, none⟩) 2 2, .int .i64 1072, .slice (some ⟨w.heap.size + 1, 0, none⟩) 1 1] 71) = a3 at *
  have b4 := (Below.refl a3.heap.size a3).alloc (Nat.le_refl _) (.cells #[.slice none 0 0, .slice none 0 0, .slice none 0 0, .slice none 0 0, .slice none 0 0, .slice none 0 0, .slice none 0 0, .slice none 0 0, .slice none 0 0, .slice none 0 0, .slice none 0 0, .slice (some ⟨w.heap.size + 1 + 1, 0, none⟩) 2 2] 26)
  have hX := Blk.new a3 26 #[.slice none 0 0, .slice none 0 0, .slice none 0 0, .slice none 0 0, .slice none 0 0, .slice none 0 0, .slice none 0 0, .slice none 0 0, .slice none 0 0, .slice none 0 0, .slice none 0 0, .slice (some ⟨w.heap.size + 1 + 1, 0, none⟩) 2 2]
  rw [s3] at hX
  refine ⟨_, rfl, ⟨hX, ⟨Spans.none_, Spans.none_, Spans.none_, Spans.none_, Spans.none_, Spans.none_, Spans.none_, Mapps.none_, Mapps.none_, Mapps.none_, Ints.none_, hm.later b4⟩⟩, below_next (below_next (below_next b1 b2) b3) b4⟩
set_option maxRecDepth 100000 in
set_option maxHeartbeats 4000000 in
theorem awake20 (w : World) (hg : Glob w) : Calls Tryz.prog 21 #[] w fun e w' => e = .returned (.bool true) ∧ Below w.heap.size w w' := by
  have HG := Lib.hid (fun W (h : Below w.heap.size w W) => hg.later h)
  clear hg
  go_enter Tryz.func21, Tryz.ntmps21
  go_upto_region 2 with fail
  obtain ⟨t, ht, htb, hb0⟩ := lay20 w
  have HT := Lib.hid htb
  have B0 := Lib.hid hb0
  clear htb hb0 ht
  generalize ((((w.alloc (.cells #[.int .i64 114, .int .i64 110] 3)).alloc (.cells #[.int .i64 97] 3)).alloc (.cells #[.int .i64 109, .slice (some ⟨w.heap.size, 0, none⟩) 2 2, .int .i64 1072, .slice (some ⟨w.heap.size + 1, 0, none⟩) 1 1] 71)).alloc (.cells #[.slice none 0 0, .slice none 0 0, .slice none 0 0, .slice none 0 0, .slice none 0 0, .slice none 0 0, .slice none 0 0, .slice none 0 0, .slice none 0 0, .slice none 0 0, .slice none 0 0, .slice (some ⟨w.heap.size + 1 + 1, 0, none⟩) 2 2] 26)) = w1 at *
  obtain ⟨tb, htb⟩ : ∃ tb, w.heap.size + 1 + 1 + 1 = tb := ⟨_, rfl⟩
  rw [htb] at HT
  simp only [htb]
  clear htb
  have HG1 := Lib.hid (fun W (h : Below w1.heap.size w1 W) => HG.out W (below_next B0.out h))
  have HOF := Lib.hid (fun v xs W (h : Below w1.heap.size w1 W) hi => skOf_any t tab20 v xs W (HT.out.later h).2 (HG1.out W h) hi)
  have HKY := Lib.hid (fun v xs W (h : Below w1.heap.size w1 W) hi => skKey_any t tab20 v xs W (HT.out.later h).2 (HG1.out W h) hi)
  clear HG
  obtain ⟨x0, x1, x2, x3, x4, x5, x6, x7, x8, x9, x10, x11⟩ := HT.out.1.tab
  go_upto_region 3 with (go_at_call 16; have bl := (Below.refl w1.heap.size w1).alloc (Nat.le_refl _) (.cells #[.int .i64 1072, .int .i64 98] 3); have hc := HOF.out (.slice (some ⟨w1.heap.size, 0, none⟩) 2 2) [1072, 98] _ bl (by have h := Ints.of_own (own_new w1 3 [1072, 98] (by simp)); simpa using h); rw [sk20_1] at hc; refine hc.mono ?_; rintro e w2 ⟨u2, rfl, ho2, b2⟩; obtain ⟨A2, c2, rfl, _⟩ := id (Ints.of_own ho2); have HU2 := Lib.hid (Ints.of_own ho2); have B2 := Lib.hid (below_next bl b2); clear bl b2 hc ho2)
  clear x0 x1 x2 x3 x4 x5 x6 x7 x8 x9 x10 x11
  obtain ⟨x0, x1, x2, x3, x4, x5, x6, x7, x8, x9, x10, x11⟩ := (HT.out.later B2.out).1.tab
  go_upto_region 4 with (go_at_call 25; have bl := (Below.refl w2.heap.size w2).alloc (Nat.le_refl _) (.cells #[.int .i64 109] 3); have hc := HKY.out (.slice (some ⟨w2.heap.size, 0, none⟩) 1 1) [109] _ (below_next B2.out bl) (by have h := Ints.of_own (own_new w2 3 [109] (by simp)); simpa using h); rw [sk20_2] at hc; refine hc.mono ?_; rintro e w3 ⟨rfl, b3⟩; have B3 := Lib.hid (below_next B2.out (below_next bl b3)); have HU3 := Lib.hid (HU2.out.later (below_next bl b3)); clear bl b3 hc)
  clear x0 x1 x2 x3 x4 x5 x6 x7 x8 x9 x10 x11
  obtain ⟨x0, x1, x2, x3, x4, x5, x6, x7, x8, x9, x10, x11⟩ := (HT.out.later B3.out).1.tab
  go_upto_region 5 with (go_at_call 25; have bl := (Below.refl w3.heap.size w3).alloc (Nat.le_refl _) (.cells #[.int .i64 114, .int .i64 110] 3); have hc := HKY.out (.slice (some ⟨w3.heap.size, 0, none⟩) 2 2) [114, 110] _ (below_next B3.out bl) (by have h := Ints.of_own (own_new w3 3 [114, 110] (by simp)); simpa using h); rw [sk20_3] at hc; refine hc.mono ?_; rintro e w4 ⟨rfl, b4⟩; have B4 := Lib.hid (below_next B3.out (below_next bl b4)); have HU4 := Lib.hid (HU3.out.later (below_next bl b4)); clear bl b4 hc)
  clear x0 x1 x2 x3 x4 x5 x6 x7 x8 x9 x10 x11
  go_wp2_with (go_at_call 17; have bl := (Below.refl w4.heap.size w4).alloc (Nat.le_refl _) (.cells #[.int .i64 97, .int .i64 98] 3); refine (same_of _ _ [97, 98] [97, 98] _ (HU4.out.later bl) (by have h := Ints.of_own (own_new w4 3 [97, 98] (by simp)); simpa using h) rfl).mono ?_; rintro e w5 ⟨rfl, b5⟩; have B5 := Lib.hid (below_next B4.out (below_next bl b5)); clear bl b5)
  go_ret
  exact ⟨rfl, below_next B0.out B5.out⟩
end Go.Proofs.YtecpbicfiaifdaaGreatDoor
/-
  The walk through the law SkeletonMade.
-/
namespace Go.Proofs.YtecpbicfiaifdaaGreatDoor
open Go.RowKit ND

/-- What holds ahead of region 2. -/
structure m20Ctx (w0 : World) (b : Nat) (t : Tv) (T : Tab) (va : Value) (ms : List Int) (vo : Value) (os_ : List Int) (vr : Value) (rs : List Int) : Prop where
  tb : Tbl w0 b t T
  g : Glob w0
  v : Ints w0 w0.heap.size .i64 va ms
  o : Ints w0 w0.heap.size .i64 vo os_
  r : Ints w0 w0.heap.size .i64 vr rs
def m20Specs (t : Tv) (va : Value) (vo : Value) (vr : Value) : List SpecK := [.val (.bool true), .val (.bool true), .val t.val, .val va, .lst (fun _ => True), .val (.bool true), .val (.bool true), .val (.bool true), .val t.val, .val vo, .lst (fun _ => True), .val (.bool true), .val (.bool true), .val (.bool true), .val t.val, .val vr, .val (.bool true), .val (.bool true), .val (.bool true)]
def m20Fixed (b : Nat) (va : Value) (vo : Value) (vr : Value) : List (Tmp × Value) := [(1, va), (2, vo), (3, vr), (9, .pointer (some ⟨b, 0, none⟩))]
def m20Ob (w0 : World) (b : Nat) (t : Tv) (va : Value) (vo : Value) (vr : Value) (Q : Exit → Act → World → Prop) (k : Nat) : Prop := ObR 24 Tryz.prog (opsAt Tryz.f7 2) 30 [] (m20Fixed b va vo vr) w0 (m20Specs t va vo vr) [] Q k
section
variable {w0 : World} {b : Nat} {t : Tv} {T : Tab} {va : Value} {ms : List Int} {vo : Value} {os_ : List Int} {vr : Value} {rs : List Int} {Q : Exit → Act → World → Prop}
theorem m20_ob0 (H : m20Ctx w0 b t T va ms vo os_ vr rs) : m20Ob w0 b t va vo vr Q 0 := by
  intro o ho a w hb hf hd K hK
  rw [if_pos (wanted_none _ (get_op (·.guard) ho (by kernel_rfl)))]
  refine ob_enter (enter0 (tys := #[]) (get_op (·.op) ho (by kernel_rfl)) (fun args w => enters_of Tryz.func21 (by kernel_rfl) rfl args w)) (awake20 w (H.g.later hb)) fun e w' ⟨he, h1⟩ => ⟨_, he, ?_⟩
  exact hK _ _ (rk_of rfl rfl) (.inl h1)
theorem m20_ob1 : m20Ob w0 b t va vo vr Q 1 := by
  intro o ho a w hb hf hd K hK
  rw [if_pos (wanted_none _ (get_op (·.guard) ho (by kernel_rfl)))]
  obtain ⟨v0, h0, e0⟩ := dep_k (F := 24) ho hd 0 12 (.val (.bool true)) (by kernel_rfl) (by kernel_rfl) rfl (by kernel_rfl)
  obtain rfl : _ = v0 := Eq.symm e0
  exact ob_move (get_op (·.op) ho (by kernel_rfl)) (eval_tmp h0) (hK _ _ (rk_of rfl rfl) (.inl (Below.refl _ _)))
theorem m20_ob2 (H : m20Ctx w0 b t T va ms vo os_ vr rs) : m20Ob w0 b t va vo vr Q 2 := by
  intro o ho a w hb hf hd K hK
  obtain ⟨v1, h1, e1⟩ := dep_k (F := 24) ho hd 1 13 (.val (.bool true)) (by kernel_rfl) (by kernel_rfl) rfl (by kernel_rfl)
  obtain rfl : _ = v1 := Eq.symm e1
  rw [if_pos (wanted_at (g := 1) (b := true) ho (by kernel_rfl) (by kernel_rfl) h1 rfl)]
  exact ob_value (load_tab (H.tb.later hb) (get_op (·.op) ho (by kernel_rfl)) (eval_tmp (hf.2.2 (9, _) (by simp [m20Fixed])))) (hK _ _ (rk_of rfl rfl) (.inl (Below.refl _ _)))
theorem m20_ob3 : m20Ob w0 b t va vo vr Q 3 := by
  intro o ho a w hb hf hd K hK
  obtain ⟨v1, h1, e1⟩ := dep_k (F := 24) ho hd 1 13 (.val (.bool true)) (by kernel_rfl) (by kernel_rfl) rfl (by kernel_rfl)
  obtain rfl : _ = v1 := Eq.symm e1
  rw [if_pos (wanted_at (g := 1) (b := true) ho (by kernel_rfl) (by kernel_rfl) h1 rfl)]
  exact ob_move (get_op (·.op) ho (by kernel_rfl)) (eval_tmp (hf.2.2 (1, _) (by simp [m20Fixed]))) (hK _ _ (rk_of rfl rfl) (.inl (Below.refl _ _)))
theorem m20_ob4 (H : m20Ctx w0 b t T va ms vo os_ vr rs) : m20Ob w0 b t va vo vr Q 4 := by
  intro o ho a w hb hf hd K hK
  obtain ⟨v1, h1, e1⟩ := dep_k (F := 24) ho hd 1 13 (.val (.bool true)) (by kernel_rfl) (by kernel_rfl) rfl (by kernel_rfl)
  obtain rfl : _ = v1 := Eq.symm e1
  rw [if_pos (wanted_at (g := 1) (b := true) ho (by kernel_rfl) (by kernel_rfl) h1 rfl)]
  obtain ⟨v3, h3, e3⟩ := dep_k (F := 24) ho hd 3 15 (.val va) (by kernel_rfl) (by kernel_rfl) rfl (by kernel_rfl)
  obtain rfl : _ = v3 := Eq.symm e3
  refine ob_enter (enter1 (tys := #[22]) (x := .tmp 15) (get_op (·.op) ho (by kernel_rfl)) (eval_tmp h3) (fun args w => enters_of Tryz.func13 (by kernel_rfl) rfl args w)) (points_any w _ _ (H.v.later hb)) fun e w' ⟨v, ys, he, h2, _, _, h1⟩ => ⟨v, he, ?_⟩
  exact hK _ _ (rk_of rfl ⟨ys, h2, trivial⟩) (.inl h1)
theorem m20_ob5 (H : m20Ctx w0 b t T va ms vo os_ vr rs) : m20Ob w0 b t va vo vr Q 5 := by
  intro o ho a w hb hf hd K hK
  obtain ⟨v1, h1, e1⟩ := dep_k (F := 24) ho hd 1 13 (.val (.bool true)) (by kernel_rfl) (by kernel_rfl) rfl (by kernel_rfl)
  obtain rfl : _ = v1 := Eq.symm e1
  rw [if_pos (wanted_at (g := 1) (b := true) ho (by kernel_rfl) (by kernel_rfl) h1 rfl)]
  obtain ⟨v2, h2, e2⟩ := dep_k (F := 24) ho hd 2 14 (.val t.val) (by kernel_rfl) (by kernel_rfl) rfl (by kernel_rfl)
  obtain rfl : _ = v2 := Eq.symm e2
  obtain ⟨v4, h4, e4⟩ := dep_k (F := 24) ho hd 4 16 (.lst (fun _ => True)) (by kernel_rfl) (by kernel_rfl) rfl (by kernel_rfl)
  obtain ⟨ys4, hi4, hp4⟩ := e4
  refine ob_enter (enter2 (tys := #[26, 22]) (x := .tmp 14) (y := .tmp 16) (get_op (·.op) ho (by kernel_rfl)) (eval_tmp h2) (eval_tmp h4) (fun args w => enters_of Tryz.func32 (by kernel_rfl) rfl args w)) (agrees20_any t T _ _ w (H.tb.later hb).2 (H.g.later hb) hi4) fun e w' ⟨he, h1⟩ => ⟨_, he, ?_⟩
  exact hK _ _ (rk_of rfl rfl) (.inl h1)
theorem m20_ob6 : m20Ob w0 b t va vo vr Q 6 := by
  intro o ho a w hb hf hd K hK
  rw [if_pos (wanted_none _ (get_op (·.guard) ho (by kernel_rfl)))]
  obtain ⟨v1, h1, e1⟩ := dep_k (F := 24) ho hd 1 13 (.val (.bool true)) (by kernel_rfl) (by kernel_rfl) rfl (by kernel_rfl)
  obtain rfl : _ = v1 := Eq.symm e1
  obtain ⟨v5, h5, e5⟩ := dep_k (F := 24) ho hd 5 17 (.val (.bool true)) (by kernel_rfl) (by kernel_rfl) rfl (by kernel_rfl)
  obtain rfl : _ = v5 := Eq.symm e5
  exact ob_pick (c := .tmp 13) (x := .tmp 17) (y := .const (.bool false)) (b := true) (get_op (·.op) ho (by kernel_rfl)) (eval_tmp h1) (eval_tmp h5) (hK _ _ (rk_of rfl rfl) (.inl (Below.refl _ _)))
theorem m20_ob7 : m20Ob w0 b t va vo vr Q 7 := by
  intro o ho a w hb hf hd K hK
  rw [if_pos (wanted_none _ (get_op (·.guard) ho (by kernel_rfl)))]
  obtain ⟨v6, h6, e6⟩ := dep_k (F := 24) ho hd 6 18 (.val (.bool true)) (by kernel_rfl) (by kernel_rfl) rfl (by kernel_rfl)
  obtain rfl : _ = v6 := Eq.symm e6
  exact ob_move (get_op (·.op) ho (by kernel_rfl)) (eval_tmp h6) (hK _ _ (rk_of rfl rfl) (.inl (Below.refl _ _)))
theorem m20_ob8 (H : m20Ctx w0 b t T va ms vo os_ vr rs) : m20Ob w0 b t va vo vr Q 8 := by
  intro o ho a w hb hf hd K hK
  obtain ⟨v7, h7, e7⟩ := dep_k (F := 24) ho hd 7 19 (.val (.bool true)) (by kernel_rfl) (by kernel_rfl) rfl (by kernel_rfl)
  obtain rfl : _ = v7 := Eq.symm e7
  rw [if_pos (wanted_at (g := 7) (b := true) ho (by kernel_rfl) (by kernel_rfl) h7 rfl)]
  exact ob_value (load_tab (H.tb.later hb) (get_op (·.op) ho (by kernel_rfl)) (eval_tmp (hf.2.2 (9, _) (by simp [m20Fixed])))) (hK _ _ (rk_of rfl rfl) (.inl (Below.refl _ _)))
theorem m20_ob9 : m20Ob w0 b t va vo vr Q 9 := by
  intro o ho a w hb hf hd K hK
  obtain ⟨v7, h7, e7⟩ := dep_k (F := 24) ho hd 7 19 (.val (.bool true)) (by kernel_rfl) (by kernel_rfl) rfl (by kernel_rfl)
  obtain rfl : _ = v7 := Eq.symm e7
  rw [if_pos (wanted_at (g := 7) (b := true) ho (by kernel_rfl) (by kernel_rfl) h7 rfl)]
  exact ob_move (get_op (·.op) ho (by kernel_rfl)) (eval_tmp (hf.2.2 (2, _) (by simp [m20Fixed]))) (hK _ _ (rk_of rfl rfl) (.inl (Below.refl _ _)))
theorem m20_ob10 (H : m20Ctx w0 b t T va ms vo os_ vr rs) : m20Ob w0 b t va vo vr Q 10 := by
  intro o ho a w hb hf hd K hK
  obtain ⟨v7, h7, e7⟩ := dep_k (F := 24) ho hd 7 19 (.val (.bool true)) (by kernel_rfl) (by kernel_rfl) rfl (by kernel_rfl)
  obtain rfl : _ = v7 := Eq.symm e7
  rw [if_pos (wanted_at (g := 7) (b := true) ho (by kernel_rfl) (by kernel_rfl) h7 rfl)]
  obtain ⟨v9, h9, e9⟩ := dep_k (F := 24) ho hd 9 21 (.val vo) (by kernel_rfl) (by kernel_rfl) rfl (by kernel_rfl)
  obtain rfl : _ = v9 := Eq.symm e9
  refine ob_enter (enter1 (tys := #[22]) (x := .tmp 21) (get_op (·.op) ho (by kernel_rfl)) (eval_tmp h9) (fun args w => enters_of Tryz.func24 (by kernel_rfl) rfl args w)) (word_any w _ _ (H.o.later hb)) fun e w' ⟨v, ys, he, h2, _, _, h1, _⟩ => ⟨v, he, ?_⟩
  exact hK _ _ (rk_of rfl ⟨ys, Ints.of_own h2, trivial⟩) (.inl h1)
theorem m20_ob11 (H : m20Ctx w0 b t T va ms vo os_ vr rs) : m20Ob w0 b t va vo vr Q 11 := by
  intro o ho a w hb hf hd K hK
  obtain ⟨v7, h7, e7⟩ := dep_k (F := 24) ho hd 7 19 (.val (.bool true)) (by kernel_rfl) (by kernel_rfl) rfl (by kernel_rfl)
  obtain rfl : _ = v7 := Eq.symm e7
  rw [if_pos (wanted_at (g := 7) (b := true) ho (by kernel_rfl) (by kernel_rfl) h7 rfl)]
  obtain ⟨v8, h8, e8⟩ := dep_k (F := 24) ho hd 8 20 (.val t.val) (by kernel_rfl) (by kernel_rfl) rfl (by kernel_rfl)
  obtain rfl : _ = v8 := Eq.symm e8
  obtain ⟨v10, h10, e10⟩ := dep_k (F := 24) ho hd 10 22 (.lst (fun _ => True)) (by kernel_rfl) (by kernel_rfl) rfl (by kernel_rfl)
  obtain ⟨ys10, hi10, hp10⟩ := e10
  refine ob_enter (enter2 (tys := #[26, 22]) (x := .tmp 20) (y := .tmp 22) (get_op (·.op) ho (by kernel_rfl)) (eval_tmp h8) (eval_tmp h10) (fun args w => enters_of Tryz.func32 (by kernel_rfl) rfl args w)) (agrees20_any t T _ _ w (H.tb.later hb).2 (H.g.later hb) hi10) fun e w' ⟨he, h1⟩ => ⟨_, he, ?_⟩
  exact hK _ _ (rk_of rfl rfl) (.inl h1)
theorem m20_ob12 : m20Ob w0 b t va vo vr Q 12 := by
  intro o ho a w hb hf hd K hK
  rw [if_pos (wanted_none _ (get_op (·.guard) ho (by kernel_rfl)))]
  obtain ⟨v7, h7, e7⟩ := dep_k (F := 24) ho hd 7 19 (.val (.bool true)) (by kernel_rfl) (by kernel_rfl) rfl (by kernel_rfl)
  obtain rfl : _ = v7 := Eq.symm e7
  obtain ⟨v11, h11, e11⟩ := dep_k (F := 24) ho hd 11 23 (.val (.bool true)) (by kernel_rfl) (by kernel_rfl) rfl (by kernel_rfl)
  obtain rfl : _ = v11 := Eq.symm e11
  exact ob_pick (c := .tmp 19) (x := .tmp 23) (y := .const (.bool false)) (b := true) (get_op (·.op) ho (by kernel_rfl)) (eval_tmp h7) (eval_tmp h11) (hK _ _ (rk_of rfl rfl) (.inl (Below.refl _ _)))
theorem m20_ob13 : m20Ob w0 b t va vo vr Q 13 := by
  intro o ho a w hb hf hd K hK
  rw [if_pos (wanted_none _ (get_op (·.guard) ho (by kernel_rfl)))]
  obtain ⟨v12, h12, e12⟩ := dep_k (F := 24) ho hd 12 24 (.val (.bool true)) (by kernel_rfl) (by kernel_rfl) rfl (by kernel_rfl)
  obtain rfl : _ = v12 := Eq.symm e12
  exact ob_move (get_op (·.op) ho (by kernel_rfl)) (eval_tmp h12) (hK _ _ (rk_of rfl rfl) (.inl (Below.refl _ _)))
theorem m20_ob14 (H : m20Ctx w0 b t T va ms vo os_ vr rs) : m20Ob w0 b t va vo vr Q 14 := by
  intro o ho a w hb hf hd K hK
  obtain ⟨v13, h13, e13⟩ := dep_k (F := 24) ho hd 13 25 (.val (.bool true)) (by kernel_rfl) (by kernel_rfl) rfl (by kernel_rfl)
  obtain rfl : _ = v13 := Eq.symm e13
  rw [if_pos (wanted_at (g := 13) (b := true) ho (by kernel_rfl) (by kernel_rfl) h13 rfl)]
  exact ob_value (load_tab (H.tb.later hb) (get_op (·.op) ho (by kernel_rfl)) (eval_tmp (hf.2.2 (9, _) (by simp [m20Fixed])))) (hK _ _ (rk_of rfl rfl) (.inl (Below.refl _ _)))
theorem m20_ob15 : m20Ob w0 b t va vo vr Q 15 := by
  intro o ho a w hb hf hd K hK
  obtain ⟨v13, h13, e13⟩ := dep_k (F := 24) ho hd 13 25 (.val (.bool true)) (by kernel_rfl) (by kernel_rfl) rfl (by kernel_rfl)
  obtain rfl : _ = v13 := Eq.symm e13
  rw [if_pos (wanted_at (g := 13) (b := true) ho (by kernel_rfl) (by kernel_rfl) h13 rfl)]
  exact ob_move (get_op (·.op) ho (by kernel_rfl)) (eval_tmp (hf.2.2 (3, _) (by simp [m20Fixed]))) (hK _ _ (rk_of rfl rfl) (.inl (Below.refl _ _)))
theorem m20_ob16 (H : m20Ctx w0 b t T va ms vo os_ vr rs) : m20Ob w0 b t va vo vr Q 16 := by
  intro o ho a w hb hf hd K hK
  obtain ⟨v13, h13, e13⟩ := dep_k (F := 24) ho hd 13 25 (.val (.bool true)) (by kernel_rfl) (by kernel_rfl) rfl (by kernel_rfl)
  obtain rfl : _ = v13 := Eq.symm e13
  rw [if_pos (wanted_at (g := 13) (b := true) ho (by kernel_rfl) (by kernel_rfl) h13 rfl)]
  obtain ⟨v14, h14, e14⟩ := dep_k (F := 24) ho hd 14 26 (.val t.val) (by kernel_rfl) (by kernel_rfl) rfl (by kernel_rfl)
  obtain rfl : _ = v14 := Eq.symm e14
  obtain ⟨v15, h15, e15⟩ := dep_k (F := 24) ho hd 15 27 (.val vr) (by kernel_rfl) (by kernel_rfl) rfl (by kernel_rfl)
  obtain rfl : _ = v15 := Eq.symm e15
  refine ob_enter (enter2 (tys := #[26, 22]) (x := .tmp 26) (y := .tmp 27) (get_op (·.op) ho (by kernel_rfl)) (eval_tmp h14) (eval_tmp h15) (fun args w => enters_of Tryz.func32 (by kernel_rfl) rfl args w)) (agrees20_any t T _ _ w (H.tb.later hb).2 (H.g.later hb) (H.r.later hb)) fun e w' ⟨he, h1⟩ => ⟨_, he, ?_⟩
  exact hK _ _ (rk_of rfl rfl) (.inl h1)
theorem m20_ob17 : m20Ob w0 b t va vo vr Q 17 := by
  intro o ho a w hb hf hd K hK
  rw [if_pos (wanted_none _ (get_op (·.guard) ho (by kernel_rfl)))]
  obtain ⟨v13, h13, e13⟩ := dep_k (F := 24) ho hd 13 25 (.val (.bool true)) (by kernel_rfl) (by kernel_rfl) rfl (by kernel_rfl)
  obtain rfl : _ = v13 := Eq.symm e13
  obtain ⟨v16, h16, e16⟩ := dep_k (F := 24) ho hd 16 28 (.val (.bool true)) (by kernel_rfl) (by kernel_rfl) rfl (by kernel_rfl)
  obtain rfl : _ = v16 := Eq.symm e16
  exact ob_pick (c := .tmp 25) (x := .tmp 28) (y := .const (.bool false)) (b := true) (get_op (·.op) ho (by kernel_rfl)) (eval_tmp h13) (eval_tmp h16) (hK _ _ (rk_of rfl rfl) (.inl (Below.refl _ _)))
theorem m20_ob18 : m20Ob w0 b t va vo vr Q 18 := by
  intro o ho a w hb hf hd K hK
  rw [if_pos (wanted_none _ (get_op (·.guard) ho (by kernel_rfl)))]
  obtain ⟨v17, h17, e17⟩ := dep_k (F := 24) ho hd 17 29 (.val (.bool true)) (by kernel_rfl) (by kernel_rfl) rfl (by kernel_rfl)
  obtain rfl : _ = v17 := Eq.symm e17
  exact ob_assign (get_op (·.op) ho (by kernel_rfl)) (eval_tmp h17) (hK _ _ (rk_of rfl rfl) (.inl (Below.refl _ _)))
theorem m20_obs (H : m20Ctx w0 b t T va ms vo os_ vr rs) (k : Nat) (hk : k < 19) : m20Ob w0 b t va vo vr Q k := by
  match k, hk with
  | 0, _ => exact m20_ob0 H
  | 1, _ => exact m20_ob1
  | 2, _ => exact m20_ob2 H
  | 3, _ => exact m20_ob3
  | 4, _ => exact m20_ob4 H
  | 5, _ => exact m20_ob5 H
  | 6, _ => exact m20_ob6
  | 7, _ => exact m20_ob7
  | 8, _ => exact m20_ob8 H
  | 9, _ => exact m20_ob9
  | 10, _ => exact m20_ob10 H
  | 11, _ => exact m20_ob11 H
  | 12, _ => exact m20_ob12
  | 13, _ => exact m20_ob13
  | 14, _ => exact m20_ob14 H
  | 15, _ => exact m20_ob15
  | 16, _ => exact m20_ob16 H
  | 17, _ => exact m20_ob17
  | 18, _ => exact m20_ob18
  | m + 19, h => exact absurd h (by omega)
theorem m20_region {a : Act} (H : m20Ctx w0 b t T va ms vo os_ vr rs) (hf : FS 30 [] (m20Fixed b va vo vr) a)
    (hend : ∀ a w, Below w0.heap.size w0 w → FS 30 [] (m20Fixed b va vo vr) a → (∀ (i : Nat) (o : Oper) (d : Tmp), (opsAt Tryz.f7 2)[i]? = some o → (∀ j, killK (m20Specs t va vo vr) [] i j = false) → o.dst = some d → ∃ v, a.tmps[d]? = some v ∧ RK w0.heap.size (m20Specs t va vo vr) i v w) → Q .normal a w) : (Code.region 2 (opsAt Tryz.f7 2) true).wp Tryz.prog Q a w0 := by
  refine wp_region_k 24 (n := 30) (ds := []) (fixed := m20Fixed b va vo vr) (specs := m20Specs t va vo vr) (apps := []) (by kernel_rfl) (by kernel_rfl) (by kernel_rfl) (by kernel_rfl) hf (fun i hi => m20_obs H i ?_) hend
  have hn : (opsAt Tryz.f7 2).size = 19 := by kernel_rfl
  omega
end

set_option maxRecDepth 100000 in
set_option maxHeartbeats 4000000 in
theorem SkeletonMade_go (W : World) (hg : Glob W) (v : Value) (xs : List Int) (hv : Ints W W.heap.size .i64 v xs) (vm : Value) (ms : List Int) (hvm : Ints W W.heap.size .i64 vm ms) (vo : Value) (os_ : List Int) (hvo : Ints W W.heap.size .i64 vo os_) (vr : Value) (rs : List Int) (hvr : Ints W W.heap.size .i64 vr rs) :
    Calls Tryz.prog 7 #[v, vm, vo, vr] W fun e W' => e = .returned (.bool true) ∧ Below W.heap.size W W' := by
  have HG := Lib.hid hg
  have HM := Lib.hid hvm
  have HO := Lib.hid hvo
  have HR := Lib.hid hvr
  obtain ⟨Ax, cx, rfl, _⟩ := id hv
  obtain ⟨Am, cm, rfl, _⟩ := id hvm
  obtain ⟨Ao, co, rfl, _⟩ := id hvo
  obtain ⟨Ar, cr, rfl, _⟩ := id hvr
  have HT := Lib.hid (keepTables_any W _ xs hv)
  clear hv hg hvm hvo hvr
  go_enter Tryz.func7, Tryz.ntmps7
  go_upto_region 2 with (go_at_call 12; refine HT.out.mono ?_; rintro e w1 ⟨t, T, rfl, ht1, hm1, hb1⟩; obtain ⟨A0, A1, A2, A3, A4, A5, A6, A7, A8, A9, A10, A11, k0, k1, k2, k3, k4, k5, k6, k7, k8, k9, k10, k11, rfl⟩ := ht1.shape; have HT1 := Lib.hid ht1; have HB1 := Lib.hid hb1; have HM1 := Lib.hid hm1; clear ht1 hb1 hm1)
  obtain ⟨t, ht, htb⟩ := Tbl.new HT1.out
  have HT2 := Lib.hid htb
  have HB2 := Lib.hid (HB1.out.alloc HB1.out.size (.cells #[.slice A0 T.category.length k0, .slice A1 T.cls.length k1, .slice A2 T.joining.length k2, .slice A3 T.bidi.length k3, .slice A4 T.script.length k4, .slice A5 T.status.length k5, .slice A6 T.ignorable.length k6, .slice A7 T.extensions.length k7, .slice A8 T.maps.length k8, .slice A9 T.decomps.length k9, .slice A10 T.excluded.length k10, .slice A11 T.prototypes.length k11] 26))
  clear htb HT1 HT
  generalize w1.alloc (.cells #[.slice A0 T.category.length k0, .slice A1 T.cls.length k1, .slice A2 T.joining.length k2, .slice A3 T.bidi.length k3, .slice A4 T.script.length k4, .slice A5 T.status.length k5, .slice A6 T.ignorable.length k6, .slice A7 T.extensions.length k7, .slice A8 T.maps.length k8, .slice A9 T.decomps.length k9, .slice A10 T.excluded.length k10, .slice A11 T.prototypes.length k11] 26) = w2 at *
  generalize w1.heap.size = tb at *
  clear ht HM1
  have HG2 := Lib.hid (HG.out.later HB2.out)
  have HM2 := Lib.hid (HM.out.later HB2.out)
  have HO2 := Lib.hid (HO.out.later HB2.out)
  have HR2 := Lib.hid (HR.out.later HB2.out)
  clear HG HM HO HR
  refine wp_region_as (ops := (opsAt Tryz.f7 2)) (by kernel_rfl) ?_
  refine m20_region (b := tb) (t := t) (T := T) (va := .slice Am ms.length cm) (ms := ms) (vo := .slice Ao os_.length co) (os_ := os_) (vr := .slice Ar rs.length cr) (rs := rs) ⟨HT2.out, HG2.out, HM2.out, HO2.out, HR2.out⟩ ⟨rfl, rfl, by intro p hp; simp [m20Fixed] at hp; rcases hp with rfl | rfl | rfl | rfl <;> rfl⟩ ?_
  intro a w9 hc hf hr
  obtain ⟨v9, hv9, e9⟩ := end_k hr 18 8 (.val (.bool true)) (by kernel_rfl) rfl (by kernel_rfl)
  obtain rfl : v9 = .bool true := e9
  rename_i K hK
  refine hK a w9 ?_
  go_wp2
  exact bodyPost_ret (v := .bool true) (by simp [results, Tryz.results7, hv9]) hf.2.1 ⟨rfl, below_w HB2.out hc⟩
theorem SkeletonMade_walk (W : World) (hg : Glob W) (v : Value) (xs : List Int) (hv : Ints W W.heap.size .i64 v xs) (_ : ∀ x ∈ xs, -9223372036854775808 ≤ x ∧ x ≤ 9223372036854775807) (_ : xs.length * 8 ≤ 140737488351232) (vm : Value) (ms : List Int) (hvm : Ints W W.heap.size .i64 vm ms) (_ : ∀ x ∈ ms, -9223372036854775808 ≤ x ∧ x ≤ 9223372036854775807) (_ : ms.length * 8 ≤ 140737488351232) (vo : Value) (os_ : List Int) (hvo : Ints W W.heap.size .i64 vo os_) (_ : ∀ x ∈ os_, -9223372036854775808 ≤ x ∧ x ≤ 9223372036854775807) (_ : os_.length * 8 ≤ 140737488351232) (vr : Value) (rs : List Int) (hvr : Ints W W.heap.size .i64 vr rs) (_ : ∀ x ∈ rs, -9223372036854775808 ≤ x ∧ x ≤ 9223372036854775807) (_ : rs.length * 8 ≤ 140737488351232) :
    Calls Tryz.prog 7 #[v, vm, vo, vr] W fun e W' => e = .returned (.bool true) ∧ Below W.heap.size W W' := SkeletonMade_go W hg v xs hv vm ms hvm vo os_ hvo vr rs hvr
end Go.Proofs.YtecpbicfiaifdaaGreatDoor
