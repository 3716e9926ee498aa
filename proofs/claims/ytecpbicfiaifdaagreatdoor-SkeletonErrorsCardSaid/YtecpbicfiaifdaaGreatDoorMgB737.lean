/-
  Merged texts: lemmas and walks that the last text of this claim leans on.
-/
import Derived.Test.YtecpbicfiaifdaaGreatDoorMgB735
import Derived.Test.YtecpbicfiaifdaaGreatDoorMgB722
import Derived.Test.YtecpbicfiaifdaaGreatDoorMgB724
import Derived.Test.YtecpbicfiaifdaaGreatDoorMgB723
import Derived.Test.YtecpbicfiaifdaaGreatDoorMgB715
import Derived.Test.YtecpbicfiaifdaaGreatDoorMgB734
import Derived.Test.YtecpbicfiaifdaaGreatDoorMgB716
import Derived.Test.YtecpbicfiaifdaaGreatDoorMgB736
/-
  The walk through awake of the laws of layer 20: the example of its chapter.
-/
namespace Go.Proofs.YtecpbicfiaifdaaGreatDoor
open Go.RowKit ND

def tab20 : Tab := ⟨[], [], [], [], [], [], [], [], [], [], [], [(109, [114, 110]), (1072, [97])]⟩
theorem sk20_1 : skelR tab20 [1072, 98] = ([97, 98], 0) := by decide +kernel
theorem sk20_2 : keyR tab20 [109] = ([114, 110], 0) := by decide +kernel
theorem sk20_3 : keyR tab20 [114, 110] = ([114, 110], 0) := by decide +kernel
/-- The example's tables, as they lie. -/
theorem lay20 (w : World) : ∃ t : Tv, t = ⟨.slice none 0 0, .slice none 0 0, .slice none 0 0, .slice none 0 0, .slice none 0 0, .slice none 0 0, .slice none 0 0, .slice none 0 0, .slice none 0 0, .slice none 0 0, .slice none 0 0, .slice (some ⟨w.heap.size + 1 + 1, 0, none⟩) 2 2⟩ ∧ Tbl ((((w.alloc (.cells #[.int .i64 114, .int .i64 110] 3)).alloc (.cells #[.int .i64 97] 3)).alloc (.cells #[.int .i64 109, .slice (some ⟨w.heap.size, 0, none⟩) 2 2, .int .i64 1072, .slice (some ⟨w.heap.size + 1, 0, none⟩) 1 1] 71)).alloc (.cells #[.slice none 0 0, .slice none 0 0, .slice none 0 0, .slice none 0 0, .slice none 0 0, .slice none 0 0, .slice none 0 0, .slice none 0 0, .slice none 0 0, .slice none 0 0, .slice none 0 0, .slice (some ⟨w.heap.size + 1 + 1, 0, none⟩) 2 2] 26)) (w.heap.size + 1 + 1 + 1) t tab20 ∧ Below w.heap.size w ((((w.alloc (.cells #[.int .i64 114, .int .i64 110] 3)).alloc (.cells #[.int .i64 97] 3)).alloc (.cells #[.int .i64 109, .slice (some ⟨w.heap.size, 0, none⟩) 2 2, .int .i64 1072, .slice (some ⟨w.heap.size + 1, 0, none⟩) 1 1] 71)).alloc (.cells #[.slice none 0 0, .slice none 0 0, .slice none 0 0, .slice none 0 0, .slice none 0 0, .slice none 0 0, .slice none 0 0, .slice none 0 0, .slice none 0 0, .slice none 0 0, .slice none 0 0, .slice (some ⟨w.heap.size + 1 + 1, 0, none⟩) 2 2] 26)) := by
  have b1 := (Below.refl w.heap.size w).alloc (Nat.le_refl _) (.cells #[.int .i64 114, .int .i64 110] 3)
  have i1 : Ints (w.alloc (.cells #[.int .i64 114, .int .i64 110] 3)) (w.alloc (.cells #[.int .i64 114, .int .i64 110] 3)).heap.size .i64 (.slice (some ⟨w.heap.size, 0, none⟩) 2 2) [114, 110] := (by have h := Ints.of_own (own_new w 3 [114, 110] (by simp)); simpa using h)
  have s1 : (w.alloc (.cells #[.int .i64 114, .int .i64 110] 3)).heap.size = w.heap.size + 1 := by simp
  generalize (w.alloc (.cells #[.int .i64 114, .int .i64 110] 3)) = a1 at *
  have b2 := (Below.refl a1.heap.size a1).alloc (Nat.le_refl _) (.cells #[.int .i64 97] 3)
  have i2 : Ints (a1.alloc (.cells #[.int .i64 97] 3)) (a1.alloc (.cells #[.int .i64 97] 3)).heap.size .i64 (.slice (some ⟨a1.heap.size, 0, none⟩) 1 1) [97] := (by have h := Ints.of_own (own_new a1 3 [97] (by simp)); simpa using h)
  have s2 : (a1.alloc (.cells #[.int .i64 97] 3)).heap.size = w.heap.size + 1 + 1 := by simp [s1]
  have i1 := i1.later b2
  rw [s1] at i2
  generalize a1.alloc (.cells #[.int .i64 97] 3) = a2 at *
  have b3 := (Below.refl a2.heap.size a2).alloc (Nat.le_refl _) (.cells #[.int .i64 109, .slice (some ⟨w.heap.size, 0, none⟩) 2 2, .int .i64 1072, .slice (some ⟨w.heap.size + 1, 0, none⟩) 1 1] 71)
  have hm := lit_map2 a2 109 _ [114, 110] 1072 _ [97] i1 i2
  have s3 : (a2.alloc (.cells #[.int .i64 109, .slice (some ⟨w.heap.size, 0, none⟩) 2 2, .int .i64 1072, .slice (some ⟨w.heap.size + 1, 0, none⟩) 1 1] 71)).heap.size = w.heap.size + 1 + 1 + 1 := by simp [s2]
  rw [s2] at hm
  generalize a2.alloc (.cells #[.int .i64 109, .slice (some ⟨w.heap.size, 0, none⟩) 2 2, .int .i64 1072, .slice (some ⟨w.heap.size + 1, 0, none⟩) 1 1] 71) = a3 at *
  have b4 := (Below.refl a3.heap.size a3).alloc (Nat.le_refl _) (.cells #[.slice none 0 0, .slice none 0 0, .slice none 0 0, .slice none 0 0, .slice none 0 0, .slice none 0 0, .slice none 0 0, .slice none 0 0, .slice none 0 0, .slice none 0 0, .slice none 0 0, .slice (some ⟨w.heap.size + 1 + 1, 0, none⟩) 2 2] 26)
  have hX := Blk.new a3 26 #[.slice none 0 0, .slice none 0 0, .slice none 0 0, .slice none 0 0, .slice none 0 0, .slice none 0 0, .slice none 0 0, .slice none 0 0, .slice none 0 0, .slice none 0 0, .slice none 0 0, .slice (some ⟨w.heap.size + 1 + 1, 0, none⟩) 2 2]
  rw [s3] at hX
  refine ⟨_, rfl, ⟨hX, ⟨Spans.none_, Spans.none_, Spans.none_, Spans.none_, Spans.none_, Spans.none_, Spans.none_, Mapps.none_, Mapps.none_, Mapps.none_, Ints.none_, hm.later b4⟩⟩, below_next (below_next (below_next b1 b2) b3) b4⟩
set_option maxRecDepth 100000 in
set_option maxHeartbeats 4000000 in
theorem awake20 (w : World) (hg : Glob w) : Calls Tryz.prog 21 #[] w fun e w' => e = .returned (.bool true) ∧ Below w.heap.size w w' := by
  have HG := Lib.hid (fun W (h : Below w.heap.size w W) => hg.later h)
  clear hg
  go_enter Tryz.func21, Tryz.ntmps21
  go_upto_region 2 with fail
  obtain ⟨t, ht, htb, hb0⟩ := lay20 w
  have HT := Lib.hid htb
  have B0 := Lib.hid hb0
  clear htb hb0 ht
  generalize ((((w.alloc (.cells #[.int .i64 114, .int .i64 110] 3)).alloc (.cells #[.int .i64 97] 3)).alloc (.cells #[.int .i64 109, .slice (some ⟨w.heap.size, 0, none⟩) 2 2, .int .i64 1072, .slice (some ⟨w.heap.size + 1, 0, none⟩) 1 1] 71)).alloc (.cells #[.slice none 0 0, .slice none 0 0, .slice none 0 0, .slice none 0 0, .slice none 0 0, .slice none 0 0, .slice none 0 0, .slice none 0 0, .slice none 0 0, .slice none 0 0, .slice none 0 0, .slice (some ⟨w.heap.size + 1 + 1, 0, none⟩) 2 2] 26)) = w1 at *
  obtain ⟨tb, htb⟩ : ∃ tb, w.heap.size + 1 + 1 + 1 = tb := ⟨_, rfl⟩
  rw [htb] at HT
  simp only [htb]
  clear htb
  have HG1 := Lib.hid (fun W (h : Below w1.heap.size w1 W) => HG.out W (below_next B0.out h))
  have HOF := Lib.hid (fun v xs W (h : Below w1.heap.size w1 W) hi => skOf_any t tab20 v xs W (HT.out.later h).2 (HG1.out W h) hi)
  have HKY := Lib.hid (fun v xs W (h : Below w1.heap.size w1 W) hi => skKey_any t tab20 v xs W (HT.out.later h).2 (HG1.out W h) hi)
  clear HG
  obtain ⟨x0, x1, x2, x3, x4, x5, x6, x7, x8, x9, x10, x11⟩ := HT.out.1.tab
  go_upto_region 3 with (go_at_call 16; have bl := (Below.refl w1.heap.size w1).alloc (Nat.le_refl _) (.cells #[.int .i64 1072, .int .i64 98] 3); have hc := HOF.out (.slice (some ⟨w1.heap.size, 0, none⟩) 2 2) [1072, 98] _ bl (by have h := Ints.of_own (own_new w1 3 [1072, 98] (by simp)); simpa using h); rw [sk20_1] at hc; refine hc.mono ?_; rintro e w2 ⟨u2, rfl, ho2, b2⟩; obtain ⟨A2, c2, rfl, _⟩ := id (Ints.of_own ho2); have HU2 := Lib.hid (Ints.of_own ho2); have B2 := Lib.hid (below_next bl b2); clear bl b2 hc ho2)
  clear x0 x1 x2 x3 x4 x5 x6 x7 x8 x9 x10 x11
  obtain ⟨x0, x1, x2, x3, x4, x5, x6, x7, x8, x9, x10, x11⟩ := (HT.out.later B2.out).1.tab
  go_upto_region 4 with (go_at_call 25; have bl := (Below.refl w2.heap.size w2).alloc (Nat.le_refl _) (.cells #[.int .i64 109] 3); have hc := HKY.out (.slice (some ⟨w2.heap.size, 0, none⟩) 1 1) [109] _ (below_next B2.out bl) (by have h := Ints.of_own (own_new w2 3 [109] (by simp)); simpa using h); rw [sk20_2] at hc; refine hc.mono ?_; rintro e w3 ⟨rfl, b3⟩; have B3 := Lib.hid (below_next B2.out (below_next bl b3)); have HU3 := Lib.hid (HU2.out.later (below_next bl b3)); clear bl b3 hc)
  clear x0 x1 x2 x3 x4 x5 x6 x7 x8 x9 x10 x11
  obtain ⟨x0, x1, x2, x3, x4, x5, x6, x7, x8, x9, x10, x11⟩ := (HT.out.later B3.out).1.tab
  go_upto_region 5 with (go_at_call 25; have bl := (Below.refl w3.heap.size w3).alloc (Nat.le_refl _) (.cells #[.int .i64 114, .int .i64 110] 3); have hc := HKY.out (.slice (some ⟨w3.heap.size, 0, none⟩) 2 2) [114, 110] _ (below_next B3.out bl) (by have h := Ints.of_own (own_new w3 3 [114, 110] (by simp)); simpa using h); rw [sk20_3] at hc; refine hc.mono ?_; rintro e w4 ⟨rfl, b4⟩; have B4 := Lib.hid (below_next B3.out (below_next bl b4)); have HU4 := Lib.hid (HU3.out.later (below_next bl b4)); clear bl b4 hc)
  clear x0 x1 x2 x3 x4 x5 x6 x7 x8 x9 x10 x11
  go_wp2_with (go_at_call 17; have bl := (Below.refl w4.heap.size w4).alloc (Nat.le_refl _) (.cells #[.int .i64 97, .int .i64 98] 3); refine (same_of _ _ [97, 98] [97, 98] _ (HU4.out.later bl) (by have h := Ints.of_own (own_new w4 3 [97, 98] (by simp)); simpa using h) rfl).mono ?_; rintro e w5 ⟨rfl, b5⟩; have B5 := Lib.hid (below_next B4.out (below_next bl b5)); clear bl b5)
  go_ret
  exact ⟨rfl, below_next B0.out B5.out⟩
end Go.Proofs.YtecpbicfiaifdaaGreatDoor
/-
  The walk through the law SkeletonErrors.
-/
namespace Go.Proofs.YtecpbicfiaifdaaGreatDoor
open Go.RowKit ND

/-- What holds ahead of region 1. -/
structure e20Ctx (w0 : World) (b : Nat) (t : Tv) (T : Tab) (vl : Value) (ls : List Int) (va : Value) (ms : List Int) (a1 : Int) (a2 : Int) (a3 : Int) : Prop where
  tb : Tbl w0 b t T
  g : Glob w0
  l : Ints w0 w0.heap.size .i64 vl ls
  v : Ints w0 w0.heap.size .i64 va ms
def e20Specs (t : Tv) (vl : Value) (va : Value) (a1 : Int) (a2 : Int) (a3 : Int) : List SpecK := [.val (.bool true), .val (.bool true), .val vl, .tab (ShortT 256), .val (.int .i64 a1), .val (.int .i64 a2), .val (.int .i64 a3), .tab (fun _ => True), .val va, .lst (fun _ => True), .val (.bool true), .val (.bool true), .val (.bool true), .val t.val, .val va, .lst (fun _ => True), .val (.bool true), .val (.bool true), .val (.bool true), .val t.val, .val va, .val (.bool true), .val (.bool true), .val (.bool true)]
def e20Fixed (b : Nat) (vl : Value) (va : Value) (a1 : Int) (a2 : Int) (a3 : Int) : List (Tmp × Value) := [(0, vl), (1, va), (2, .int .i64 a1), (3, .int .i64 a2), (4, .int .i64 a3), (11, .pointer (some ⟨b, 0, none⟩))]
def e20Ob (w0 : World) (b : Nat) (t : Tv) (vl : Value) (va : Value) (a1 : Int) (a2 : Int) (a3 : Int) (Q : Exit → Act → World → Prop) (k : Nat) : Prop := ObR 24 Tryz.prog (opsAt Tryz.f8 1) 36 [] (e20Fixed b vl va a1 a2 a3) w0 (e20Specs t vl va a1 a2 a3) [] Q k
section
variable {w0 : World} {b : Nat} {t : Tv} {T : Tab} {vl : Value} {ls : List Int} {va : Value} {ms : List Int} {a1 : Int} {a2 : Int} {a3 : Int} {Q : Exit → Act → World → Prop}
theorem e20_ob0 (H : e20Ctx w0 b t T vl ls va ms a1 a2 a3) : e20Ob w0 b t vl va a1 a2 a3 Q 0 := by
  intro o ho a w hb hf hd K hK
  rw [if_pos (wanted_none _ (get_op (·.guard) ho (by kernel_rfl)))]
  refine ob_enter (enter0 (tys := #[]) (get_op (·.op) ho (by kernel_rfl)) (fun args w => enters_of Tryz.func21 (by kernel_rfl) rfl args w)) (awake20 w (H.g.later hb)) fun e w' ⟨he, h1⟩ => ⟨_, he, ?_⟩
  exact hK _ _ (rk_of rfl rfl) (.inl h1)
theorem e20_ob1 : e20Ob w0 b t vl va a1 a2 a3 Q 1 := by
  intro o ho a w hb hf hd K hK
  rw [if_pos (wanted_none _ (get_op (·.guard) ho (by kernel_rfl)))]
  obtain ⟨v0, h0, e0⟩ := dep_k (F := 24) ho hd 0 13 (.val (.bool true)) (by kernel_rfl) (by kernel_rfl) rfl (by kernel_rfl)
  obtain rfl : _ = v0 := Eq.symm e0
  exact ob_move (get_op (·.op) ho (by kernel_rfl)) (eval_tmp h0) (hK _ _ (rk_of rfl rfl) (.inl (Below.refl _ _)))
theorem e20_ob2 : e20Ob w0 b t vl va a1 a2 a3 Q 2 := by
  intro o ho a w hb hf hd K hK
  obtain ⟨v1, h1, e1⟩ := dep_k (F := 24) ho hd 1 14 (.val (.bool true)) (by kernel_rfl) (by kernel_rfl) rfl (by kernel_rfl)
  obtain rfl : _ = v1 := Eq.symm e1
  rw [if_pos (wanted_at (g := 1) (b := true) ho (by kernel_rfl) (by kernel_rfl) h1 rfl)]
  exact ob_move (get_op (·.op) ho (by kernel_rfl)) (eval_tmp (hf.2.2 (0, _) (by simp [e20Fixed]))) (hK _ _ (rk_of rfl rfl) (.inl (Below.refl _ _)))
theorem e20_ob3 (H : e20Ctx w0 b t T vl ls va ms a1 a2 a3) : e20Ob w0 b t vl va a1 a2 a3 Q 3 := by
  intro o ho a w hb hf hd K hK
  obtain ⟨v1, h1, e1⟩ := dep_k (F := 24) ho hd 1 14 (.val (.bool true)) (by kernel_rfl) (by kernel_rfl) rfl (by kernel_rfl)
  obtain rfl : _ = v1 := Eq.symm e1
  rw [if_pos (wanted_at (g := 1) (b := true) ho (by kernel_rfl) (by kernel_rfl) h1 rfl)]
  obtain ⟨v2, h2, e2⟩ := dep_k (F := 24) ho hd 2 15 (.val vl) (by kernel_rfl) (by kernel_rfl) rfl (by kernel_rfl)
  obtain rfl : _ = v2 := Eq.symm e2
  refine ob_enter (enter1 (tys := #[22]) (x := .tmp 15) (get_op (·.op) ho (by kernel_rfl)) (eval_tmp h2) (fun args w => enters_of Tryz.func12 (by kernel_rfl) rfl args w)) (keepTables_any w _ _ (H.l.later hb)) fun e w' ⟨tt, TT, he, ht, hm, h1⟩ => ⟨tt.val, he, ?_⟩
  exact hK _ _ (rk_of rfl ⟨tt, TT, rfl, ht, short_wf hm.shape⟩) (.inl h1)
theorem e20_ob4 : e20Ob w0 b t vl va a1 a2 a3 Q 4 := by
  intro o ho a w hb hf hd K hK
  obtain ⟨v1, h1, e1⟩ := dep_k (F := 24) ho hd 1 14 (.val (.bool true)) (by kernel_rfl) (by kernel_rfl) rfl (by kernel_rfl)
  obtain rfl : _ = v1 := Eq.symm e1
  rw [if_pos (wanted_at (g := 1) (b := true) ho (by kernel_rfl) (by kernel_rfl) h1 rfl)]
  exact ob_move (get_op (·.op) ho (by kernel_rfl)) (eval_tmp (hf.2.2 (2, _) (by simp [e20Fixed]))) (hK _ _ (rk_of rfl rfl) (.inl (Below.refl _ _)))
theorem e20_ob5 : e20Ob w0 b t vl va a1 a2 a3 Q 5 := by
  intro o ho a w hb hf hd K hK
  obtain ⟨v1, h1, e1⟩ := dep_k (F := 24) ho hd 1 14 (.val (.bool true)) (by kernel_rfl) (by kernel_rfl) rfl (by kernel_rfl)
  obtain rfl : _ = v1 := Eq.symm e1
  rw [if_pos (wanted_at (g := 1) (b := true) ho (by kernel_rfl) (by kernel_rfl) h1 rfl)]
  exact ob_move (get_op (·.op) ho (by kernel_rfl)) (eval_tmp (hf.2.2 (3, _) (by simp [e20Fixed]))) (hK _ _ (rk_of rfl rfl) (.inl (Below.refl _ _)))
theorem e20_ob6 : e20Ob w0 b t vl va a1 a2 a3 Q 6 := by
  intro o ho a w hb hf hd K hK
  obtain ⟨v1, h1, e1⟩ := dep_k (F := 24) ho hd 1 14 (.val (.bool true)) (by kernel_rfl) (by kernel_rfl) rfl (by kernel_rfl)
  obtain rfl : _ = v1 := Eq.symm e1
  rw [if_pos (wanted_at (g := 1) (b := true) ho (by kernel_rfl) (by kernel_rfl) h1 rfl)]
  exact ob_move (get_op (·.op) ho (by kernel_rfl)) (eval_tmp (hf.2.2 (4, _) (by simp [e20Fixed]))) (hK _ _ (rk_of rfl rfl) (.inl (Below.refl _ _)))
theorem e20_ob7 : e20Ob w0 b t vl va a1 a2 a3 Q 7 := by
  intro o ho a w hb hf hd K hK
  obtain ⟨v1, h1, e1⟩ := dep_k (F := 24) ho hd 1 14 (.val (.bool true)) (by kernel_rfl) (by kernel_rfl) rfl (by kernel_rfl)
  obtain rfl : _ = v1 := Eq.symm e1
  rw [if_pos (wanted_at (g := 1) (b := true) ho (by kernel_rfl) (by kernel_rfl) h1 rfl)]
  obtain ⟨v3, h3, e3⟩ := dep_k (F := 24) ho hd 3 16 (.tab (ShortT 256)) (by kernel_rfl) (by kernel_rfl) rfl (by kernel_rfl)
  obtain ⟨v4, h4, e4⟩ := dep_k (F := 24) ho hd 4 17 (.val (.int .i64 a1)) (by kernel_rfl) (by kernel_rfl) rfl (by kernel_rfl)
  obtain rfl : _ = v4 := Eq.symm e4
  obtain ⟨v5, h5, e5⟩ := dep_k (F := 24) ho hd 5 18 (.val (.int .i64 a2)) (by kernel_rfl) (by kernel_rfl) rfl (by kernel_rfl)
  obtain rfl : _ = v5 := Eq.symm e5
  obtain ⟨v6, h6, e6⟩ := dep_k (F := 24) ho hd 6 19 (.val (.int .i64 a3)) (by kernel_rfl) (by kernel_rfl) rfl (by kernel_rfl)
  obtain rfl : _ = v6 := Eq.symm e6
  obtain ⟨t3, T3, rfl, ht3, hp3⟩ := e3
  refine ob_enter (enter4 (tys := #[26, 3, 3, 3]) (x := .tmp 16) (y := .tmp 17) (z := .tmp 18) (q := .tmp 19) (get_op (·.op) ho (by kernel_rfl)) (eval_tmp h3) (eval_tmp h4) (eval_tmp h5) (eval_tmp h6) (fun args w => enters_of Tryz.func33 (by kernel_rfl) rfl args w)) (other_any w t3 T3 a1 a2 a3 256 ht3 hp3 (by omega)) fun e w' ⟨tt, TT, he, ht, _, h1⟩ => ⟨tt.val, he, ?_⟩
  exact hK _ _ (rk_of rfl ⟨tt, TT, rfl, ht, trivial⟩) (.inl h1)
theorem e20_ob8 : e20Ob w0 b t vl va a1 a2 a3 Q 8 := by
  intro o ho a w hb hf hd K hK
  obtain ⟨v1, h1, e1⟩ := dep_k (F := 24) ho hd 1 14 (.val (.bool true)) (by kernel_rfl) (by kernel_rfl) rfl (by kernel_rfl)
  obtain rfl : _ = v1 := Eq.symm e1
  rw [if_pos (wanted_at (g := 1) (b := true) ho (by kernel_rfl) (by kernel_rfl) h1 rfl)]
  exact ob_move (get_op (·.op) ho (by kernel_rfl)) (eval_tmp (hf.2.2 (1, _) (by simp [e20Fixed]))) (hK _ _ (rk_of rfl rfl) (.inl (Below.refl _ _)))
theorem e20_ob9 (H : e20Ctx w0 b t T vl ls va ms a1 a2 a3) : e20Ob w0 b t vl va a1 a2 a3 Q 9 := by
  intro o ho a w hb hf hd K hK
  obtain ⟨v1, h1, e1⟩ := dep_k (F := 24) ho hd 1 14 (.val (.bool true)) (by kernel_rfl) (by kernel_rfl) rfl (by kernel_rfl)
  obtain rfl : _ = v1 := Eq.symm e1
  rw [if_pos (wanted_at (g := 1) (b := true) ho (by kernel_rfl) (by kernel_rfl) h1 rfl)]
  obtain ⟨v8, h8, e8⟩ := dep_k (F := 24) ho hd 8 21 (.val va) (by kernel_rfl) (by kernel_rfl) rfl (by kernel_rfl)
  obtain rfl : _ = v8 := Eq.symm e8
  refine ob_enter (enter1 (tys := #[22]) (x := .tmp 21) (get_op (·.op) ho (by kernel_rfl)) (eval_tmp h8) (fun args w => enters_of Tryz.func13 (by kernel_rfl) rfl args w)) (points_any w _ _ (H.v.later hb)) fun e w' ⟨v, ys, he, h2, _, _, h1⟩ => ⟨v, he, ?_⟩
  exact hK _ _ (rk_of rfl ⟨ys, h2, trivial⟩) (.inl h1)
theorem e20_ob10 (H : e20Ctx w0 b t T vl ls va ms a1 a2 a3) : e20Ob w0 b t vl va a1 a2 a3 Q 10 := by
  intro o ho a w hb hf hd K hK
  obtain ⟨v1, h1, e1⟩ := dep_k (F := 24) ho hd 1 14 (.val (.bool true)) (by kernel_rfl) (by kernel_rfl) rfl (by kernel_rfl)
  obtain rfl : _ = v1 := Eq.symm e1
  rw [if_pos (wanted_at (g := 1) (b := true) ho (by kernel_rfl) (by kernel_rfl) h1 rfl)]
  obtain ⟨v7, h7, e7⟩ := dep_k (F := 24) ho hd 7 20 (.tab (fun _ => True)) (by kernel_rfl) (by kernel_rfl) rfl (by kernel_rfl)
  obtain ⟨v9, h9, e9⟩ := dep_k (F := 24) ho hd 9 22 (.lst (fun _ => True)) (by kernel_rfl) (by kernel_rfl) rfl (by kernel_rfl)
  obtain ⟨t7, T7, rfl, ht7, _⟩ := e7
  obtain ⟨ys9, hi9, hp9⟩ := e9
  refine ob_enter (enter2 (tys := #[26, 22]) (x := .tmp 20) (y := .tmp 22) (get_op (·.op) ho (by kernel_rfl)) (eval_tmp h7) (eval_tmp h9) (fun args w => enters_of Tryz.func32 (by kernel_rfl) rfl args w)) (agrees20_any t7 T7 _ _ w ht7 (H.g.later hb) hi9) fun e w' ⟨he, h1⟩ => ⟨_, he, ?_⟩
  exact hK _ _ (rk_of rfl rfl) (.inl h1)
theorem e20_ob11 : e20Ob w0 b t vl va a1 a2 a3 Q 11 := by
  intro o ho a w hb hf hd K hK
  rw [if_pos (wanted_none _ (get_op (·.guard) ho (by kernel_rfl)))]
  obtain ⟨v1, h1, e1⟩ := dep_k (F := 24) ho hd 1 14 (.val (.bool true)) (by kernel_rfl) (by kernel_rfl) rfl (by kernel_rfl)
  obtain rfl : _ = v1 := Eq.symm e1
  obtain ⟨v10, h10, e10⟩ := dep_k (F := 24) ho hd 10 23 (.val (.bool true)) (by kernel_rfl) (by kernel_rfl) rfl (by kernel_rfl)
  obtain rfl : _ = v10 := Eq.symm e10
  exact ob_pick (c := .tmp 14) (x := .tmp 23) (y := .const (.bool false)) (b := true) (get_op (·.op) ho (by kernel_rfl)) (eval_tmp h1) (eval_tmp h10) (hK _ _ (rk_of rfl rfl) (.inl (Below.refl _ _)))
theorem e20_ob12 : e20Ob w0 b t vl va a1 a2 a3 Q 12 := by
  intro o ho a w hb hf hd K hK
  rw [if_pos (wanted_none _ (get_op (·.guard) ho (by kernel_rfl)))]
  obtain ⟨v11, h11, e11⟩ := dep_k (F := 24) ho hd 11 24 (.val (.bool true)) (by kernel_rfl) (by kernel_rfl) rfl (by kernel_rfl)
  obtain rfl : _ = v11 := Eq.symm e11
  exact ob_move (get_op (·.op) ho (by kernel_rfl)) (eval_tmp h11) (hK _ _ (rk_of rfl rfl) (.inl (Below.refl _ _)))
theorem e20_ob13 (H : e20Ctx w0 b t T vl ls va ms a1 a2 a3) : e20Ob w0 b t vl va a1 a2 a3 Q 13 := by
  intro o ho a w hb hf hd K hK
  obtain ⟨v12, h12, e12⟩ := dep_k (F := 24) ho hd 12 25 (.val (.bool true)) (by kernel_rfl) (by kernel_rfl) rfl (by kernel_rfl)
  obtain rfl : _ = v12 := Eq.symm e12
  rw [if_pos (wanted_at (g := 12) (b := true) ho (by kernel_rfl) (by kernel_rfl) h12 rfl)]
  exact ob_value (load_tab (H.tb.later hb) (get_op (·.op) ho (by kernel_rfl)) (eval_tmp (hf.2.2 (11, _) (by simp [e20Fixed])))) (hK _ _ (rk_of rfl rfl) (.inl (Below.refl _ _)))
theorem e20_ob14 : e20Ob w0 b t vl va a1 a2 a3 Q 14 := by
  intro o ho a w hb hf hd K hK
  obtain ⟨v12, h12, e12⟩ := dep_k (F := 24) ho hd 12 25 (.val (.bool true)) (by kernel_rfl) (by kernel_rfl) rfl (by kernel_rfl)
  obtain rfl : _ = v12 := Eq.symm e12
  rw [if_pos (wanted_at (g := 12) (b := true) ho (by kernel_rfl) (by kernel_rfl) h12 rfl)]
  exact ob_move (get_op (·.op) ho (by kernel_rfl)) (eval_tmp (hf.2.2 (1, _) (by simp [e20Fixed]))) (hK _ _ (rk_of rfl rfl) (.inl (Below.refl _ _)))
theorem e20_ob15 (H : e20Ctx w0 b t T vl ls va ms a1 a2 a3) : e20Ob w0 b t vl va a1 a2 a3 Q 15 := by
  intro o ho a w hb hf hd K hK
  obtain ⟨v12, h12, e12⟩ := dep_k (F := 24) ho hd 12 25 (.val (.bool true)) (by kernel_rfl) (by kernel_rfl) rfl (by kernel_rfl)
  obtain rfl : _ = v12 := Eq.symm e12
  rw [if_pos (wanted_at (g := 12) (b := true) ho (by kernel_rfl) (by kernel_rfl) h12 rfl)]
  obtain ⟨v14, h14, e14⟩ := dep_k (F := 24) ho hd 14 27 (.val va) (by kernel_rfl) (by kernel_rfl) rfl (by kernel_rfl)
  obtain rfl : _ = v14 := Eq.symm e14
  refine ob_enter (enter1 (tys := #[22]) (x := .tmp 27) (get_op (·.op) ho (by kernel_rfl)) (eval_tmp h14) (fun args w => enters_of Tryz.func13 (by kernel_rfl) rfl args w)) (points_any w _ _ (H.v.later hb)) fun e w' ⟨v, ys, he, h2, _, _, h1⟩ => ⟨v, he, ?_⟩
  exact hK _ _ (rk_of rfl ⟨ys, h2, trivial⟩) (.inl h1)
theorem e20_ob16 (H : e20Ctx w0 b t T vl ls va ms a1 a2 a3) : e20Ob w0 b t vl va a1 a2 a3 Q 16 := by
  intro o ho a w hb hf hd K hK
  obtain ⟨v12, h12, e12⟩ := dep_k (F := 24) ho hd 12 25 (.val (.bool true)) (by kernel_rfl) (by kernel_rfl) rfl (by kernel_rfl)
  obtain rfl : _ = v12 := Eq.symm e12
  rw [if_pos (wanted_at (g := 12) (b := true) ho (by kernel_rfl) (by kernel_rfl) h12 rfl)]
  obtain ⟨v13, h13, e13⟩ := dep_k (F := 24) ho hd 13 26 (.val t.val) (by kernel_rfl) (by kernel_rfl) rfl (by kernel_rfl)
  obtain rfl : _ = v13 := Eq.symm e13
  obtain ⟨v15, h15, e15⟩ := dep_k (F := 24) ho hd 15 28 (.lst (fun _ => True)) (by kernel_rfl) (by kernel_rfl) rfl (by kernel_rfl)
  obtain ⟨ys15, hi15, hp15⟩ := e15
  refine ob_enter (enter2 (tys := #[26, 22]) (x := .tmp 26) (y := .tmp 28) (get_op (·.op) ho (by kernel_rfl)) (eval_tmp h13) (eval_tmp h15) (fun args w => enters_of Tryz.func32 (by kernel_rfl) rfl args w)) (agrees20_any t T _ _ w (H.tb.later hb).2 (H.g.later hb) hi15) fun e w' ⟨he, h1⟩ => ⟨_, he, ?_⟩
  exact hK _ _ (rk_of rfl rfl) (.inl h1)
theorem e20_ob17 : e20Ob w0 b t vl va a1 a2 a3 Q 17 := by
  intro o ho a w hb hf hd K hK
  rw [if_pos (wanted_none _ (get_op (·.guard) ho (by kernel_rfl)))]
  obtain ⟨v12, h12, e12⟩ := dep_k (F := 24) ho hd 12 25 (.val (.bool true)) (by kernel_rfl) (by kernel_rfl) rfl (by kernel_rfl)
  obtain rfl : _ = v12 := Eq.symm e12
  obtain ⟨v16, h16, e16⟩ := dep_k (F := 24) ho hd 16 29 (.val (.bool true)) (by kernel_rfl) (by kernel_rfl) rfl (by kernel_rfl)
  obtain rfl : _ = v16 := Eq.symm e16
  exact ob_pick (c := .tmp 25) (x := .tmp 29) (y := .const (.bool false)) (b := true) (get_op (·.op) ho (by kernel_rfl)) (eval_tmp h12) (eval_tmp h16) (hK _ _ (rk_of rfl rfl) (.inl (Below.refl _ _)))
theorem e20_ob18 : e20Ob w0 b t vl va a1 a2 a3 Q 18 := by
  intro o ho a w hb hf hd K hK
  rw [if_pos (wanted_none _ (get_op (·.guard) ho (by kernel_rfl)))]
  obtain ⟨v17, h17, e17⟩ := dep_k (F := 24) ho hd 17 30 (.val (.bool true)) (by kernel_rfl) (by kernel_rfl) rfl (by kernel_rfl)
  obtain rfl : _ = v17 := Eq.symm e17
  exact ob_move (get_op (·.op) ho (by kernel_rfl)) (eval_tmp h17) (hK _ _ (rk_of rfl rfl) (.inl (Below.refl _ _)))
theorem e20_ob19 (H : e20Ctx w0 b t T vl ls va ms a1 a2 a3) : e20Ob w0 b t vl va a1 a2 a3 Q 19 := by
  intro o ho a w hb hf hd K hK
  obtain ⟨v18, h18, e18⟩ := dep_k (F := 24) ho hd 18 31 (.val (.bool true)) (by kernel_rfl) (by kernel_rfl) rfl (by kernel_rfl)
  obtain rfl : _ = v18 := Eq.symm e18
  rw [if_pos (wanted_at (g := 18) (b := true) ho (by kernel_rfl) (by kernel_rfl) h18 rfl)]
  exact ob_value (load_tab (H.tb.later hb) (get_op (·.op) ho (by kernel_rfl)) (eval_tmp (hf.2.2 (11, _) (by simp [e20Fixed])))) (hK _ _ (rk_of rfl rfl) (.inl (Below.refl _ _)))
theorem e20_ob20 : e20Ob w0 b t vl va a1 a2 a3 Q 20 := by
  intro o ho a w hb hf hd K hK
  obtain ⟨v18, h18, e18⟩ := dep_k (F := 24) ho hd 18 31 (.val (.bool true)) (by kernel_rfl) (by kernel_rfl) rfl (by kernel_rfl)
  obtain rfl : _ = v18 := Eq.symm e18
  rw [if_pos (wanted_at (g := 18) (b := true) ho (by kernel_rfl) (by kernel_rfl) h18 rfl)]
  exact ob_move (get_op (·.op) ho (by kernel_rfl)) (eval_tmp (hf.2.2 (1, _) (by simp [e20Fixed]))) (hK _ _ (rk_of rfl rfl) (.inl (Below.refl _ _)))
theorem e20_ob21 (H : e20Ctx w0 b t T vl ls va ms a1 a2 a3) : e20Ob w0 b t vl va a1 a2 a3 Q 21 := by
  intro o ho a w hb hf hd K hK
  obtain ⟨v18, h18, e18⟩ := dep_k (F := 24) ho hd 18 31 (.val (.bool true)) (by kernel_rfl) (by kernel_rfl) rfl (by kernel_rfl)
  obtain rfl : _ = v18 := Eq.symm e18
  rw [if_pos (wanted_at (g := 18) (b := true) ho (by kernel_rfl) (by kernel_rfl) h18 rfl)]
  obtain ⟨v19, h19, e19⟩ := dep_k (F := 24) ho hd 19 32 (.val t.val) (by kernel_rfl) (by kernel_rfl) rfl (by kernel_rfl)
  obtain rfl : _ = v19 := Eq.symm e19
  obtain ⟨v20, h20, e20⟩ := dep_k (F := 24) ho hd 20 33 (.val va) (by kernel_rfl) (by kernel_rfl) rfl (by kernel_rfl)
  obtain rfl : _ = v20 := Eq.symm e20
  refine ob_enter (enter2 (tys := #[26, 22]) (x := .tmp 32) (y := .tmp 33) (get_op (·.op) ho (by kernel_rfl)) (eval_tmp h19) (eval_tmp h20) (fun args w => enters_of Tryz.func32 (by kernel_rfl) rfl args w)) (agrees20_any t T _ _ w (H.tb.later hb).2 (H.g.later hb) (H.v.later hb)) fun e w' ⟨he, h1⟩ => ⟨_, he, ?_⟩
  exact hK _ _ (rk_of rfl rfl) (.inl h1)
theorem e20_ob22 : e20Ob w0 b t vl va a1 a2 a3 Q 22 := by
  intro o ho a w hb hf hd K hK
  rw [if_pos (wanted_none _ (get_op (·.guard) ho (by kernel_rfl)))]
  obtain ⟨v18, h18, e18⟩ := dep_k (F := 24) ho hd 18 31 (.val (.bool true)) (by kernel_rfl) (by kernel_rfl) rfl (by kernel_rfl)
  obtain rfl : _ = v18 := Eq.symm e18
  obtain ⟨v21, h21, e21⟩ := dep_k (F := 24) ho hd 21 34 (.val (.bool true)) (by kernel_rfl) (by kernel_rfl) rfl (by kernel_rfl)
  obtain rfl : _ = v21 := Eq.symm e21
  exact ob_pick (c := .tmp 31) (x := .tmp 34) (y := .const (.bool false)) (b := true) (get_op (·.op) ho (by kernel_rfl)) (eval_tmp h18) (eval_tmp h21) (hK _ _ (rk_of rfl rfl) (.inl (Below.refl _ _)))
theorem e20_ob23 : e20Ob w0 b t vl va a1 a2 a3 Q 23 := by
  intro o ho a w hb hf hd K hK
  rw [if_pos (wanted_none _ (get_op (·.guard) ho (by kernel_rfl)))]
  obtain ⟨v22, h22, e22⟩ := dep_k (F := 24) ho hd 22 35 (.val (.bool true)) (by kernel_rfl) (by kernel_rfl) rfl (by kernel_rfl)
  obtain rfl : _ = v22 := Eq.symm e22
  exact ob_assign (get_op (·.op) ho (by kernel_rfl)) (eval_tmp h22) (hK _ _ (rk_of rfl rfl) (.inl (Below.refl _ _)))
theorem e20_obs (H : e20Ctx w0 b t T vl ls va ms a1 a2 a3) (k : Nat) (hk : k < 24) : e20Ob w0 b t vl va a1 a2 a3 Q k := by
  match k, hk with
  | 0, _ => exact e20_ob0 H
  | 1, _ => exact e20_ob1
  | 2, _ => exact e20_ob2
  | 3, _ => exact e20_ob3 H
  | 4, _ => exact e20_ob4
  | 5, _ => exact e20_ob5
  | 6, _ => exact e20_ob6
  | 7, _ => exact e20_ob7
  | 8, _ => exact e20_ob8
  | 9, _ => exact e20_ob9 H
  | 10, _ => exact e20_ob10 H
  | 11, _ => exact e20_ob11
  | 12, _ => exact e20_ob12
  | 13, _ => exact e20_ob13 H
  | 14, _ => exact e20_ob14
  | 15, _ => exact e20_ob15 H
  | 16, _ => exact e20_ob16 H
  | 17, _ => exact e20_ob17
  | 18, _ => exact e20_ob18
  | 19, _ => exact e20_ob19 H
  | 20, _ => exact e20_ob20
  | 21, _ => exact e20_ob21 H
  | 22, _ => exact e20_ob22
  | 23, _ => exact e20_ob23
  | m + 24, h => exact absurd h (by omega)
theorem e20_region {a : Act} (H : e20Ctx w0 b t T vl ls va ms a1 a2 a3) (hf : FS 36 [] (e20Fixed b vl va a1 a2 a3) a)
    (hend : ∀ a w, Below w0.heap.size w0 w → FS 36 [] (e20Fixed b vl va a1 a2 a3) a → (∀ (i : Nat) (o : Oper) (d : Tmp), (opsAt Tryz.f8 1)[i]? = some o → (∀ j, killK (e20Specs t vl va a1 a2 a3) [] i j = false) → o.dst = some d → ∃ v, a.tmps[d]? = some v ∧ RK w0.heap.size (e20Specs t vl va a1 a2 a3) i v w) → Q .normal a w) : (Code.region 1 (opsAt Tryz.f8 1) true).wp Tryz.prog Q a w0 := by
  refine wp_region_k 24 (n := 36) (ds := []) (fixed := e20Fixed b vl va a1 a2 a3) (specs := e20Specs t vl va a1 a2 a3) (apps := []) (by kernel_rfl) (by kernel_rfl) (by kernel_rfl) (by kernel_rfl) hf (fun i hi => e20_obs H i ?_) hend
  have hn : (opsAt Tryz.f8 1).size = 24 := by kernel_rfl
  omega
end

set_option maxRecDepth 100000 in
set_option maxHeartbeats 4000000 in
theorem SkeletonErrors_go (W : World) (hg : Glob W) (v : Value) (xs : List Int) (hv : Ints W W.heap.size .i64 v xs) (vm : Value) (ms : List Int) (hvm : Ints W W.heap.size .i64 vm ms) (a1 : Int) (a2 : Int) (a3 : Int) (t : Tv) (T : Tab) (ht : TabR W W.heap.size t T) :
    Calls Tryz.prog 8 #[v, vm, .int .i64 a1, .int .i64 a2, .int .i64 a3, t.val] W fun e W' => e = .returned (.bool true) ∧ Below W.heap.size W W' := by
  obtain ⟨A, c, rfl, _⟩ := id hv
  obtain ⟨Am, cm, rfl, _⟩ := id hvm
  have HB0 : Hid (Below W.heap.size W (W.alloc (.cells t.cells 26))) := Lib.hid ((Below.refl _ _).alloc (Nat.le_refl _) _)
  have HT : Hid (Tbl (W.alloc (.cells t.cells 26)) W.heap.size t T) := Lib.hid ⟨Blk.new _ _ _, ht.later HB0.out⟩
  have HV := Lib.hid (hv.later HB0.out)
  have HM := Lib.hid (hvm.later HB0.out)
  have HG := Lib.hid (hg.later HB0.out)
  clear hv hvm ht hg
  go_enter Tryz.func8, Tryz.ntmps8
  go_upto_region 1 with fail
  generalize W.alloc (.cells t.cells 26) = w1 at *
  obtain ⟨rb, hrb⟩ : ∃ rb, W.heap.size = rb := ⟨_, rfl⟩
  rw [hrb] at HT
  simp only [hrb]
  refine wp_region_as (ops := (opsAt Tryz.f8 1)) (by kernel_rfl) ?_
  refine e20_region (b := rb) (t := t) (T := T) (vl := .slice A xs.length c) (ls := xs) (va := .slice Am ms.length cm) (ms := ms) (a1 := a1) (a2 := a2) (a3 := a3) ⟨HT.out, HG.out, HV.out, HM.out⟩ ⟨rfl, rfl, by intro p hp; simp [e20Fixed] at hp; rcases hp with rfl | rfl | rfl | rfl | rfl | rfl <;> rfl⟩ ?_
  intro a w9 hc hf hr
  obtain ⟨v9, hv9, e9⟩ := end_k hr 23 12 (.val (.bool true)) (by kernel_rfl) rfl (by kernel_rfl)
  obtain rfl : v9 = .bool true := e9
  rename_i K hK
  refine hK a w9 ?_
  go_wp2
  exact bodyPost_ret (v := .bool true) (by simp [results, Tryz.results8, hv9]) hf.2.1 ⟨rfl, below_w HB0.out hc⟩
theorem SkeletonErrors_walk (W : World) (hg : Glob W) (v : Value) (xs : List Int) (hv : Ints W W.heap.size .i64 v xs) (_ : ∀ x ∈ xs, -9223372036854775808 ≤ x ∧ x ≤ 9223372036854775807) (_ : xs.length * 8 ≤ 140737488351232) (vm : Value) (ms : List Int) (hvm : Ints W W.heap.size .i64 vm ms) (_ : ∀ x ∈ ms, -9223372036854775808 ≤ x ∧ x ≤ 9223372036854775807) (_ : ms.length * 8 ≤ 140737488351232) (a1 : Int) (_ : -9223372036854775808 ≤ a1 ∧ a1 ≤ 9223372036854775807) (a2 : Int) (_ : -9223372036854775808 ≤ a2 ∧ a2 ≤ 9223372036854775807) (a3 : Int) (_ : -9223372036854775808 ≤ a3 ∧ a3 ≤ 9223372036854775807) (t : Tv) (T : Tab) (ht : TabR W W.heap.size t T) :
    Calls Tryz.prog 8 #[v, vm, .int .i64 a1, .int .i64 a2, .int .i64 a3, t.val] W fun e W' => e = .returned (.bool true) ∧ Below W.heap.size W W' := SkeletonErrors_go W hg v xs hv vm ms hvm a1 a2 a3 t T ht
end Go.Proofs.YtecpbicfiaifdaaGreatDoor
