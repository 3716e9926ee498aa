/-
  Merged texts: lemmas and walks that the last text of this claim leans on.
-/
import Derived.Test.YtjigjjbhdgpfjaaGreatDoorMgB723
import Derived.Test.YtjigjjbhdgpfjaaGreatDoorMgB715
import Derived.Test.YtjigjjbhdgpfjaaGreatDoorMgB728
import Derived.Test.YtjigjjbhdgpfjaaGreatDoorMgB729
import Derived.Test.YtjigjjbhdgpfjaaGreatDoorMgB716
import Derived.Test.YtjigjjbhdgpfjaaGreatDoorMgB735
/-
  The walk through the law DecomposeErrors.
-/
namespace Go.Proofs.YtjigjjbhdgpfjaaGreatDoor
open Go.RowKit ND

/-- What holds ahead of region 2. -/
structure e7Ctx (w0 : World) (b : Nat) (t : Tv) (T : Tab) (b2 : Nat) (t2 : Tv) (T2 : Tab) (va : Value) (ms : List Int) : Prop where
  tb : Tbl w0 b t T
  rb : Tbl w0 b2 t2 T2
  g : Glob w0
  v : Ints w0 w0.heap.size .i64 va ms
def e7Specs (t : Tv) (T : Tab) (t2 : Tv) (va : Value) : List SpecK := [.val (.bool true), .val (.bool true), .val t.val, .val va, .lst (fun _ => True), .val va, .val (.bool true), .val (.bool true), .val (.bool true), .val t2.val, .val va, .val va, .val (.bool true), .val (.bool true), .val (.bool true), .val t.val, .lst (· = oneL T  131072), .val t.val, .lst (· = oneL T  131072), .val (.bool true), .val (.bool true), .val (.bool true)]
def e7Fixed (b : Nat) (b2 : Nat) (va : Value) : List (Tmp × Value) := [(1, va), (11, .pointer (some ⟨b2, 0, none⟩)), (13, .pointer (some ⟨b, 0, none⟩))]
def e7Ob (w0 : World) (b : Nat) (t : Tv) (T : Tab) (b2 : Nat) (t2 : Tv) (va : Value) (Q : Exit → Act → World → Prop) (k : Nat) : Prop := ObR 24 Tryz.prog (opsAt Tryz.f7 2) 41 [] (e7Fixed b b2 va) w0 (e7Specs t T t2 va) [] Q k
section
variable {w0 : World} {b : Nat} {t : Tv} {T : Tab} {b2 : Nat} {t2 : Tv} {T2 : Tab} {va : Value} {ms : List Int} {Q : Exit → Act → World → Prop}
theorem e7_ob0 (H : e7Ctx w0 b t T b2 t2 T2 va ms) : e7Ob w0 b t T b2 t2 va Q 0 := by
  intro o ho a w hb hf hd K hK
  rw [if_pos (wanted_none _ (get_op (·.guard) ho (by kernel_rfl)))]
  refine ob_enter (enter0 (tys := #[]) (get_op (·.op) ho (by kernel_rfl)) (fun args w => enters_of Tryz.func12 (by kernel_rfl) rfl args w)) (awake7 w (H.g.later hb)) fun e w' ⟨he, h1⟩ => ⟨_, he, ?_⟩
  exact hK _ _ (rk_of rfl rfl) (.inl h1)
theorem e7_ob1 : e7Ob w0 b t T b2 t2 va Q 1 := by
  intro o ho a w hb hf hd K hK
  rw [if_pos (wanted_none _ (get_op (·.guard) ho (by kernel_rfl)))]
  obtain ⟨v0, h0, e0⟩ := dep_k (F := 24) ho hd 0 20 (.val (.bool true)) (by kernel_rfl) (by kernel_rfl) rfl (by kernel_rfl)
  obtain rfl : _ = v0 := Eq.symm e0
  exact ob_move (get_op (·.op) ho (by kernel_rfl)) (eval_tmp h0) (hK _ _ (rk_of rfl rfl) (.inl (Below.refl _ _)))
theorem e7_ob2 (H : e7Ctx w0 b t T b2 t2 T2 va ms) : e7Ob w0 b t T b2 t2 va Q 2 := by
  intro o ho a w hb hf hd K hK
  obtain ⟨v1, h1, e1⟩ := dep_k (F := 24) ho hd 1 21 (.val (.bool true)) (by kernel_rfl) (by kernel_rfl) rfl (by kernel_rfl)
  obtain rfl : _ = v1 := Eq.symm e1
  rw [if_pos (wanted_at (g := 1) (b := true) ho (by kernel_rfl) (by kernel_rfl) h1 rfl)]
  exact ob_value (load_tab (H.tb.later hb) (get_op (·.op) ho (by kernel_rfl)) (eval_tmp (hf.2.2 (13, _) (by simp [e7Fixed])))) (hK _ _ (rk_of rfl rfl) (.inl (Below.refl _ _)))
theorem e7_ob3 : e7Ob w0 b t T b2 t2 va Q 3 := by
  intro o ho a w hb hf hd K hK
  obtain ⟨v1, h1, e1⟩ := dep_k (F := 24) ho hd 1 21 (.val (.bool true)) (by kernel_rfl) (by kernel_rfl) rfl (by kernel_rfl)
  obtain rfl : _ = v1 := Eq.symm e1
  rw [if_pos (wanted_at (g := 1) (b := true) ho (by kernel_rfl) (by kernel_rfl) h1 rfl)]
  exact ob_move (get_op (·.op) ho (by kernel_rfl)) (eval_tmp (hf.2.2 (1, _) (by simp [e7Fixed]))) (hK _ _ (rk_of rfl rfl) (.inl (Below.refl _ _)))
theorem e7_ob4 (H : e7Ctx w0 b t T b2 t2 T2 va ms) : e7Ob w0 b t T b2 t2 va Q 4 := by
  intro o ho a w hb hf hd K hK
  obtain ⟨v1, h1, e1⟩ := dep_k (F := 24) ho hd 1 21 (.val (.bool true)) (by kernel_rfl) (by kernel_rfl) rfl (by kernel_rfl)
  obtain rfl : _ = v1 := Eq.symm e1
  rw [if_pos (wanted_at (g := 1) (b := true) ho (by kernel_rfl) (by kernel_rfl) h1 rfl)]
  obtain ⟨v3, h3, e3⟩ := dep_k (F := 24) ho hd 3 23 (.val va) (by kernel_rfl) (by kernel_rfl) rfl (by kernel_rfl)
  obtain rfl : _ = v3 := Eq.symm e3
  refine ob_enter (enter1 (tys := #[22]) (x := .tmp 23) (get_op (·.op) ho (by kernel_rfl)) (eval_tmp h3) (fun args w => enters_of Tryz.func9 (by kernel_rfl) rfl args w)) (points_any w _ _ (H.v.later hb)) fun e w' ⟨v, ys, he, h2, _, _, h1⟩ => ⟨v, he, ?_⟩
  exact hK _ _ (rk_of rfl ⟨ys, h2, trivial⟩) (.inl h1)
theorem e7_ob5 : e7Ob w0 b t T b2 t2 va Q 5 := by
  intro o ho a w hb hf hd K hK
  obtain ⟨v1, h1, e1⟩ := dep_k (F := 24) ho hd 1 21 (.val (.bool true)) (by kernel_rfl) (by kernel_rfl) rfl (by kernel_rfl)
  obtain rfl : _ = v1 := Eq.symm e1
  rw [if_pos (wanted_at (g := 1) (b := true) ho (by kernel_rfl) (by kernel_rfl) h1 rfl)]
  exact ob_move (get_op (·.op) ho (by kernel_rfl)) (eval_tmp (hf.2.2 (1, _) (by simp [e7Fixed]))) (hK _ _ (rk_of rfl rfl) (.inl (Below.refl _ _)))
theorem e7_ob6 (H : e7Ctx w0 b t T b2 t2 T2 va ms) : e7Ob w0 b t T b2 t2 va Q 6 := by
  intro o ho a w hb hf hd K hK
  obtain ⟨v1, h1, e1⟩ := dep_k (F := 24) ho hd 1 21 (.val (.bool true)) (by kernel_rfl) (by kernel_rfl) rfl (by kernel_rfl)
  obtain rfl : _ = v1 := Eq.symm e1
  rw [if_pos (wanted_at (g := 1) (b := true) ho (by kernel_rfl) (by kernel_rfl) h1 rfl)]
  obtain ⟨v2, h2, e2⟩ := dep_k (F := 24) ho hd 2 22 (.val t.val) (by kernel_rfl) (by kernel_rfl) rfl (by kernel_rfl)
  obtain rfl : _ = v2 := Eq.symm e2
  obtain ⟨v4, h4, e4⟩ := dep_k (F := 24) ho hd 4 24 (.lst (fun _ => True)) (by kernel_rfl) (by kernel_rfl) rfl (by kernel_rfl)
  obtain ⟨v5, h5, e5⟩ := dep_k (F := 24) ho hd 5 25 (.val va) (by kernel_rfl) (by kernel_rfl) rfl (by kernel_rfl)
  obtain rfl : _ = v5 := Eq.symm e5
  obtain ⟨ys4, hi4, hp4⟩ := e4
  refine ob_enter (enter3 (tys := #[26, 22, 22]) (x := .tmp 22) (y := .tmp 24) (z := .tmp 25) (get_op (·.op) ho (by kernel_rfl)) (eval_tmp h2) (eval_tmp h4) (eval_tmp h5) (fun args w => enters_of Tryz.func22 (by kernel_rfl) rfl args w)) (agrees7_any t T _ _ _ _ w (H.tb.later hb).2 (H.g.later hb) hi4 (H.v.later hb)) fun e w' ⟨he, h1⟩ => ⟨_, he, ?_⟩
  exact hK _ _ (rk_of rfl rfl) (.inl h1)
theorem e7_ob7 : e7Ob w0 b t T b2 t2 va Q 7 := by
  intro o ho a w hb hf hd K hK
  rw [if_pos (wanted_none _ (get_op (·.guard) ho (by kernel_rfl)))]
  obtain ⟨v1, h1, e1⟩ := dep_k (F := 24) ho hd 1 21 (.val (.bool true)) (by kernel_rfl) (by kernel_rfl) rfl (by kernel_rfl)
  obtain rfl : _ = v1 := Eq.symm e1
  obtain ⟨v6, h6, e6⟩ := dep_k (F := 24) ho hd 6 26 (.val (.bool true)) (by kernel_rfl) (by kernel_rfl) rfl (by kernel_rfl)
  obtain rfl : _ = v6 := Eq.symm e6
  exact ob_pick (c := .tmp 21) (x := .tmp 26) (y := .const (.bool false)) (b := true) (get_op (·.op) ho (by kernel_rfl)) (eval_tmp h1) (eval_tmp h6) (hK _ _ (rk_of rfl rfl) (.inl (Below.refl _ _)))
theorem e7_ob8 : e7Ob w0 b t T b2 t2 va Q 8 := by
  intro o ho a w hb hf hd K hK
  rw [if_pos (wanted_none _ (get_op (·.guard) ho (by kernel_rfl)))]
  obtain ⟨v7, h7, e7⟩ := dep_k (F := 24) ho hd 7 27 (.val (.bool true)) (by kernel_rfl) (by kernel_rfl) rfl (by kernel_rfl)
  obtain rfl : _ = v7 := Eq.symm e7
  exact ob_move (get_op (·.op) ho (by kernel_rfl)) (eval_tmp h7) (hK _ _ (rk_of rfl rfl) (.inl (Below.refl _ _)))
theorem e7_ob9 (H : e7Ctx w0 b t T b2 t2 T2 va ms) : e7Ob w0 b t T b2 t2 va Q 9 := by
  intro o ho a w hb hf hd K hK
  obtain ⟨v8, h8, e8⟩ := dep_k (F := 24) ho hd 8 28 (.val (.bool true)) (by kernel_rfl) (by kernel_rfl) rfl (by kernel_rfl)
  obtain rfl : _ = v8 := Eq.symm e8
  rw [if_pos (wanted_at (g := 8) (b := true) ho (by kernel_rfl) (by kernel_rfl) h8 rfl)]
  have f11 := hf.2.2 (11, .pointer (some ⟨b2, 0, none⟩)) (by simp [e7Fixed])
  exact ob_value (load_tab (H.rb.later hb) (get_op (·.op) ho (by kernel_rfl)) (eval_tmp f11)) (hK _ _ (rk_of rfl rfl) (.inl (Below.refl _ _)))
theorem e7_ob10 : e7Ob w0 b t T b2 t2 va Q 10 := by
  intro o ho a w hb hf hd K hK
  obtain ⟨v8, h8, e8⟩ := dep_k (F := 24) ho hd 8 28 (.val (.bool true)) (by kernel_rfl) (by kernel_rfl) rfl (by kernel_rfl)
  obtain rfl : _ = v8 := Eq.symm e8
  rw [if_pos (wanted_at (g := 8) (b := true) ho (by kernel_rfl) (by kernel_rfl) h8 rfl)]
  exact ob_move (get_op (·.op) ho (by kernel_rfl)) (eval_tmp (hf.2.2 (1, _) (by simp [e7Fixed]))) (hK _ _ (rk_of rfl rfl) (.inl (Below.refl _ _)))
theorem e7_ob11 : e7Ob w0 b t T b2 t2 va Q 11 := by
  intro o ho a w hb hf hd K hK
  obtain ⟨v8, h8, e8⟩ := dep_k (F := 24) ho hd 8 28 (.val (.bool true)) (by kernel_rfl) (by kernel_rfl) rfl (by kernel_rfl)
  obtain rfl : _ = v8 := Eq.symm e8
  rw [if_pos (wanted_at (g := 8) (b := true) ho (by kernel_rfl) (by kernel_rfl) h8 rfl)]
  exact ob_move (get_op (·.op) ho (by kernel_rfl)) (eval_tmp (hf.2.2 (1, _) (by simp [e7Fixed]))) (hK _ _ (rk_of rfl rfl) (.inl (Below.refl _ _)))
theorem e7_ob12 (H : e7Ctx w0 b t T b2 t2 T2 va ms) : e7Ob w0 b t T b2 t2 va Q 12 := by
  intro o ho a w hb hf hd K hK
  obtain ⟨v8, h8, e8⟩ := dep_k (F := 24) ho hd 8 28 (.val (.bool true)) (by kernel_rfl) (by kernel_rfl) rfl (by kernel_rfl)
  obtain rfl : _ = v8 := Eq.symm e8
  rw [if_pos (wanted_at (g := 8) (b := true) ho (by kernel_rfl) (by kernel_rfl) h8 rfl)]
  obtain ⟨v9, h9, e9⟩ := dep_k (F := 24) ho hd 9 29 (.val t2.val) (by kernel_rfl) (by kernel_rfl) rfl (by kernel_rfl)
  obtain rfl : _ = v9 := Eq.symm e9
  obtain ⟨v10, h10, e10⟩ := dep_k (F := 24) ho hd 10 30 (.val va) (by kernel_rfl) (by kernel_rfl) rfl (by kernel_rfl)
  obtain rfl : _ = v10 := Eq.symm e10
  obtain ⟨v11, h11, e11⟩ := dep_k (F := 24) ho hd 11 31 (.val va) (by kernel_rfl) (by kernel_rfl) rfl (by kernel_rfl)
  obtain rfl : _ = v11 := Eq.symm e11
  refine ob_enter (enter3 (tys := #[26, 22, 22]) (x := .tmp 29) (y := .tmp 30) (z := .tmp 31) (get_op (·.op) ho (by kernel_rfl)) (eval_tmp h9) (eval_tmp h10) (eval_tmp h11) (fun args w => enters_of Tryz.func22 (by kernel_rfl) rfl args w)) (agrees7_any t2 T2 _ _ _ _ w (H.rb.later hb).2 (H.g.later hb) (H.v.later hb) (H.v.later hb)) fun e w' ⟨he, h1⟩ => ⟨_, he, ?_⟩
  exact hK _ _ (rk_of rfl rfl) (.inl h1)
theorem e7_ob13 : e7Ob w0 b t T b2 t2 va Q 13 := by
  intro o ho a w hb hf hd K hK
  rw [if_pos (wanted_none _ (get_op (·.guard) ho (by kernel_rfl)))]
  obtain ⟨v8, h8, e8⟩ := dep_k (F := 24) ho hd 8 28 (.val (.bool true)) (by kernel_rfl) (by kernel_rfl) rfl (by kernel_rfl)
  obtain rfl : _ = v8 := Eq.symm e8
  obtain ⟨v12, h12, e12⟩ := dep_k (F := 24) ho hd 12 32 (.val (.bool true)) (by kernel_rfl) (by kernel_rfl) rfl (by kernel_rfl)
  obtain rfl : _ = v12 := Eq.symm e12
  exact ob_pick (c := .tmp 28) (x := .tmp 32) (y := .const (.bool false)) (b := true) (get_op (·.op) ho (by kernel_rfl)) (eval_tmp h8) (eval_tmp h12) (hK _ _ (rk_of rfl rfl) (.inl (Below.refl _ _)))
theorem e7_ob14 : e7Ob w0 b t T b2 t2 va Q 14 := by
  intro o ho a w hb hf hd K hK
  rw [if_pos (wanted_none _ (get_op (·.guard) ho (by kernel_rfl)))]
  obtain ⟨v13, h13, e13⟩ := dep_k (F := 24) ho hd 13 33 (.val (.bool true)) (by kernel_rfl) (by kernel_rfl) rfl (by kernel_rfl)
  obtain rfl : _ = v13 := Eq.symm e13
  exact ob_move (get_op (·.op) ho (by kernel_rfl)) (eval_tmp h13) (hK _ _ (rk_of rfl rfl) (.inl (Below.refl _ _)))
theorem e7_ob15 (H : e7Ctx w0 b t T b2 t2 T2 va ms) : e7Ob w0 b t T b2 t2 va Q 15 := by
  intro o ho a w hb hf hd K hK
  obtain ⟨v14, h14, e14⟩ := dep_k (F := 24) ho hd 14 34 (.val (.bool true)) (by kernel_rfl) (by kernel_rfl) rfl (by kernel_rfl)
  obtain rfl : _ = v14 := Eq.symm e14
  rw [if_pos (wanted_at (g := 14) (b := true) ho (by kernel_rfl) (by kernel_rfl) h14 rfl)]
  exact ob_value (load_tab (H.tb.later hb) (get_op (·.op) ho (by kernel_rfl)) (eval_tmp (hf.2.2 (13, _) (by simp [e7Fixed])))) (hK _ _ (rk_of rfl rfl) (.inl (Below.refl _ _)))
theorem e7_ob16 (H : e7Ctx w0 b t T b2 t2 T2 va ms) : e7Ob w0 b t T b2 t2 va Q 16 := by
  intro o ho a w hb hf hd K hK
  obtain ⟨v14, h14, e14⟩ := dep_k (F := 24) ho hd 14 34 (.val (.bool true)) (by kernel_rfl) (by kernel_rfl) rfl (by kernel_rfl)
  obtain rfl : _ = v14 := Eq.symm e14
  rw [if_pos (wanted_at (g := 14) (b := true) ho (by kernel_rfl) (by kernel_rfl) h14 rfl)]
  obtain ⟨v15, h15, e15⟩ := dep_k (F := 24) ho hd 15 35 (.val t.val) (by kernel_rfl) (by kernel_rfl) rfl (by kernel_rfl)
  obtain rfl : _ = v15 := Eq.symm e15
  refine ob_enter (enter2 (tys := #[26, 3]) (x := .tmp 35) (y := .const (.int .i64 131072)) (get_op (·.op) ho (by kernel_rfl)) (eval_tmp h15) (rfl) (fun args w => enters_of Tryz.func20 (by kernel_rfl) rfl args w)) (one7_any t T  131072 w (H.tb.later hb).2 (H.g.later hb)) fun e w' ⟨v, he, h2, h1⟩ => ⟨v, he, ?_⟩
  exact hK _ _ (rk_of rfl ⟨_, Ints.of_own h2, rfl⟩) (.inl h1)
theorem e7_ob17 (H : e7Ctx w0 b t T b2 t2 T2 va ms) : e7Ob w0 b t T b2 t2 va Q 17 := by
  intro o ho a w hb hf hd K hK
  obtain ⟨v14, h14, e14⟩ := dep_k (F := 24) ho hd 14 34 (.val (.bool true)) (by kernel_rfl) (by kernel_rfl) rfl (by kernel_rfl)
  obtain rfl : _ = v14 := Eq.symm e14
  rw [if_pos (wanted_at (g := 14) (b := true) ho (by kernel_rfl) (by kernel_rfl) h14 rfl)]
  exact ob_value (load_tab (H.tb.later hb) (get_op (·.op) ho (by kernel_rfl)) (eval_tmp (hf.2.2 (13, _) (by simp [e7Fixed])))) (hK _ _ (rk_of rfl rfl) (.inl (Below.refl _ _)))
theorem e7_ob18 (H : e7Ctx w0 b t T b2 t2 T2 va ms) : e7Ob w0 b t T b2 t2 va Q 18 := by
  intro o ho a w hb hf hd K hK
  obtain ⟨v14, h14, e14⟩ := dep_k (F := 24) ho hd 14 34 (.val (.bool true)) (by kernel_rfl) (by kernel_rfl) rfl (by kernel_rfl)
  obtain rfl : _ = v14 := Eq.symm e14
  rw [if_pos (wanted_at (g := 14) (b := true) ho (by kernel_rfl) (by kernel_rfl) h14 rfl)]
  obtain ⟨v17, h17, e17⟩ := dep_k (F := 24) ho hd 17 37 (.val t.val) (by kernel_rfl) (by kernel_rfl) rfl (by kernel_rfl)
  obtain rfl : _ = v17 := Eq.symm e17
  refine ob_enter (enter2 (tys := #[26, 3]) (x := .tmp 37) (y := .const (.int .i64 131072)) (get_op (·.op) ho (by kernel_rfl)) (eval_tmp h17) (rfl) (fun args w => enters_of Tryz.func21 (by kernel_rfl) rfl args w)) (refOne_any t T  131072 w (H.tb.later hb).2) fun e w' ⟨v, he, h2, h1⟩ => ⟨v, he, ?_⟩
  exact hK _ _ (rk_of rfl ⟨_, h2, rfl⟩) (.inl h1)
theorem e7_ob19 : e7Ob w0 b t T b2 t2 va Q 19 := by
  intro o ho a w hb hf hd K hK
  obtain ⟨v14, h14, e14⟩ := dep_k (F := 24) ho hd 14 34 (.val (.bool true)) (by kernel_rfl) (by kernel_rfl) rfl (by kernel_rfl)
  obtain rfl : _ = v14 := Eq.symm e14
  rw [if_pos (wanted_at (g := 14) (b := true) ho (by kernel_rfl) (by kernel_rfl) h14 rfl)]
  obtain ⟨v16, h16, e16⟩ := dep_k (F := 24) ho hd 16 36 (.lst (· = oneL T  131072)) (by kernel_rfl) (by kernel_rfl) rfl (by kernel_rfl)
  obtain ⟨v18, h18, e18⟩ := dep_k (F := 24) ho hd 18 38 (.lst (· = oneL T  131072)) (by kernel_rfl) (by kernel_rfl) rfl (by kernel_rfl)
  obtain ⟨_, hi16, rfl⟩ := e16
  obtain ⟨_, hi18, rfl⟩ := e18
  refine ob_enter (enter2 (tys := #[22, 22]) (x := .tmp 36) (y := .tmp 38) (get_op (·.op) ho (by kernel_rfl)) (eval_tmp h16) (eval_tmp h18) (fun args w => enters_of Tryz.func13 (by kernel_rfl) rfl args w)) (same_of _ _ _ _ w hi16 hi18 rfl) fun e w' ⟨he, h1⟩ => ⟨_, he, ?_⟩
  exact hK _ _ (rk_of rfl rfl) (.inl h1)
theorem e7_ob20 : e7Ob w0 b t T b2 t2 va Q 20 := by
  intro o ho a w hb hf hd K hK
  rw [if_pos (wanted_none _ (get_op (·.guard) ho (by kernel_rfl)))]
  obtain ⟨v14, h14, e14⟩ := dep_k (F := 24) ho hd 14 34 (.val (.bool true)) (by kernel_rfl) (by kernel_rfl) rfl (by kernel_rfl)
  obtain rfl : _ = v14 := Eq.symm e14
  obtain ⟨v19, h19, e19⟩ := dep_k (F := 24) ho hd 19 39 (.val (.bool true)) (by kernel_rfl) (by kernel_rfl) rfl (by kernel_rfl)
  obtain rfl : _ = v19 := Eq.symm e19
  exact ob_pick (c := .tmp 34) (x := .tmp 39) (y := .const (.bool false)) (b := true) (get_op (·.op) ho (by kernel_rfl)) (eval_tmp h14) (eval_tmp h19) (hK _ _ (rk_of rfl rfl) (.inl (Below.refl _ _)))
theorem e7_ob21 : e7Ob w0 b t T b2 t2 va Q 21 := by
  intro o ho a w hb hf hd K hK
  rw [if_pos (wanted_none _ (get_op (·.guard) ho (by kernel_rfl)))]
  obtain ⟨v20, h20, e20⟩ := dep_k (F := 24) ho hd 20 40 (.val (.bool true)) (by kernel_rfl) (by kernel_rfl) rfl (by kernel_rfl)
  obtain rfl : _ = v20 := Eq.symm e20
  exact ob_assign (get_op (·.op) ho (by kernel_rfl)) (eval_tmp h20) (hK _ _ (rk_of rfl rfl) (.inl (Below.refl _ _)))
theorem e7_obs (H : e7Ctx w0 b t T b2 t2 T2 va ms) (k : Nat) (hk : k < 22) : e7Ob w0 b t T b2 t2 va Q k := by
  match k, hk with
  | 0, _ => exact e7_ob0 H
  | 1, _ => exact e7_ob1
  | 2, _ => exact e7_ob2 H
  | 3, _ => exact e7_ob3
  | 4, _ => exact e7_ob4 H
  | 5, _ => exact e7_ob5
  | 6, _ => exact e7_ob6 H
  | 7, _ => exact e7_ob7
  | 8, _ => exact e7_ob8
  | 9, _ => exact e7_ob9 H
  | 10, _ => exact e7_ob10
  | 11, _ => exact e7_ob11
  | 12, _ => exact e7_ob12 H
  | 13, _ => exact e7_ob13
  | 14, _ => exact e7_ob14
  | 15, _ => exact e7_ob15 H
  | 16, _ => exact e7_ob16 H
  | 17, _ => exact e7_ob17 H
  | 18, _ => exact e7_ob18 H
  | 19, _ => exact e7_ob19
  | 20, _ => exact e7_ob20
  | 21, _ => exact e7_ob21
  | m + 22, h => exact absurd h (by omega)
theorem e7_region {a : Act} (H : e7Ctx w0 b t T b2 t2 T2 va ms) (hf : FS 41 [] (e7Fixed b b2 va) a)
    (hend : ∀ a w, Below w0.heap.size w0 w → FS 41 [] (e7Fixed b b2 va) a → (∀ (i : Nat) (o : Oper) (d : Tmp), (opsAt Tryz.f7 2)[i]? = some o → (∀ j, killK (e7Specs t T t2 va) [] i j = false) → o.dst = some d → ∃ v, a.tmps[d]? = some v ∧ RK w0.heap.size (e7Specs t T t2 va) i v w) → Q .normal a w) : (Code.region 2 (opsAt Tryz.f7 2) true).wp Tryz.prog Q a w0 := by
  refine wp_region_k 24 (n := 41) (ds := []) (fixed := e7Fixed b b2 va) (specs := e7Specs t T t2 va) (apps := []) (by kernel_rfl) (by kernel_rfl) (by kernel_rfl) (by kernel_rfl) hf (fun i hi => e7_obs H i ?_) hend
  have hn : (opsAt Tryz.f7 2).size = 22 := by kernel_rfl
  omega
end

set_option maxRecDepth 100000 in
set_option maxHeartbeats 4000000 in
theorem DecomposeErrors_go (W : World) (hg : Glob W) (v : Value) (xs : List Int) (hv : Ints W W.heap.size .i64 v xs) (vm : Value) (ms : List Int) (hvm : Ints W W.heap.size .i64 vm ms) (a1 : Int) (a2 : Int) (a3 : Int) (t : Tv) (T : Tab) (ht : TabR W W.heap.size t T) :
    Calls Tryz.prog 7 #[v, vm, .int .i64 a1, .int .i64 a2, .int .i64 a3, t.val] W fun e W' => e = .returned (.bool true) ∧ Below W.heap.size W W' := by
  obtain ⟨A, c, rfl, _⟩ := id hv
  obtain ⟨Am, cm, rfl, _⟩ := id hvm
  have HB0 : Hid (Below W.heap.size W (W.alloc (.cells t.cells 26))) := Lib.hid ((Below.refl _ _).alloc (Nat.le_refl _) _)
  have HT : Hid (Tbl (W.alloc (.cells t.cells 26)) W.heap.size t T) := Lib.hid ⟨Blk.new _ _ _, ht.later HB0.out⟩
  have HV := Lib.hid (hv.later HB0.out)
  have HM := Lib.hid (hvm.later HB0.out)
  have HG := Lib.hid (hg.later HB0.out)
  clear hv hvm ht hg
  go_enter Tryz.func7, Tryz.ntmps7
  go_upto_region 1 with fail
  generalize W.alloc (.cells t.cells 26) = w1 at *
  obtain ⟨rb, hrb⟩ : ∃ rb, W.heap.size = rb := ⟨_, rfl⟩
  rw [hrb] at HT
  simp only [hrb]
  go_upto_region 2 with (first
    | (go_at_call 8; refine (keepTables_any _ _ xs HV.out).mono ?_; rintro e w3 ⟨t3, T3, rfl, ht3, hm3, b3⟩; have B3 := Lib.hid b3; clear b3)
    | (go_at_call 23; refine (other_any _ t3 T3 a1 a2 a3 256 ht3 (short_wf hm3.shape) (by omega)).mono ?_; rintro e w4 ⟨t4, T4, rfl, ht4, hs4, b4⟩; obtain ⟨E0, E1, E2, E3, E4, E5, E6, E7, E8, E9, E10, E11, q0, q1, q2, q3, q4, q5, q6, q7, q8, q9, q10, q11, rfl⟩ := ht4.shape; have HT4 := Lib.hid ht4; have B4 := Lib.hid (below_next B3.out b4); clear hm3 hs4 ht4 b4 ht3 B3))
  obtain ⟨t4, ht, htb⟩ := Tbl.new HT4.out
  have HT5 := Lib.hid htb
  have B5 := Lib.hid (B4.out.alloc B4.out.size (.cells #[.slice E0 T4.category.length q0, .slice E1 T4.cls.length q1, .slice E2 T4.joining.length q2, .slice E3 T4.bidi.length q3, .slice E4 T4.script.length q4, .slice E5 T4.status.length q5, .slice E6 T4.ignorable.length q6, .slice E7 T4.extensions.length q7, .slice E8 T4.maps.length q8, .slice E9 T4.decomps.length q9, .slice E10 T4.excluded.length q10, .slice E11 T4.prototypes.length q11] 26))
  clear htb HT4
  generalize w4.alloc (.cells #[.slice E0 T4.category.length q0, .slice E1 T4.cls.length q1, .slice E2 T4.joining.length q2, .slice E3 T4.bidi.length q3, .slice E4 T4.script.length q4, .slice E5 T4.status.length q5, .slice E6 T4.ignorable.length q6, .slice E7 T4.extensions.length q7, .slice E8 T4.maps.length q8, .slice E9 T4.decomps.length q9, .slice E10 T4.excluded.length q10, .slice E11 T4.prototypes.length q11] 26) = w5 at *
  generalize w4.heap.size = tb at *
  clear ht
  refine wp_region_as (ops := (opsAt Tryz.f7 2)) (by kernel_rfl) ?_
  refine e7_region (b := tb) (t := t4) (T := T4) (b2 := rb) (t2 := t) (T2 := T) (va := .slice Am ms.length cm) (ms := ms) ⟨HT5.out, HT.out.later B5.out, HG.out.later B5.out, HM.out.later B5.out⟩ ⟨rfl, rfl, by intro p hp; simp [e7Fixed] at hp; rcases hp with rfl | rfl | rfl <;> rfl⟩ ?_
  intro a w9 hc hf hr
  obtain ⟨v9, hv9, e9⟩ := end_k hr 21 12 (.val (.bool true)) (by kernel_rfl) rfl (by kernel_rfl)
  obtain rfl : v9 = .bool true := e9
  rename_i K hK
  refine hK a w9 ?_
  go_wp2
  exact bodyPost_ret (v := .bool true) (by simp [results, Tryz.results7, hv9]) hf.2.1 ⟨rfl, below_w HB0.out (below_next B5.out hc)⟩
theorem DecomposeErrors_walk (W : World) (hg : Glob W) (v : Value) (xs : List Int) (hv : Ints W W.heap.size .i64 v xs) (_ : ∀ x ∈ xs, -9223372036854775808 ≤ x ∧ x ≤ 9223372036854775807) (_ : xs.length * 8 ≤ 140737488351232) (vm : Value) (ms : List Int) (hvm : Ints W W.heap.size .i64 vm ms) (_ : ∀ x ∈ ms, -9223372036854775808 ≤ x ∧ x ≤ 9223372036854775807) (_ : ms.length * 8 ≤ 140737488351232) (a1 : Int) (_ : -9223372036854775808 ≤ a1 ∧ a1 ≤ 9223372036854775807) (a2 : Int) (_ : -9223372036854775808 ≤ a2 ∧ a2 ≤ 9223372036854775807) (a3 : Int) (_ : -9223372036854775808 ≤ a3 ∧ a3 ≤ 9223372036854775807) (t : Tv) (T : Tab) (ht : TabR W W.heap.size t T) :
    Calls Tryz.prog 7 #[v, vm, .int .i64 a1, .int .i64 a2, .int .i64 a3, t.val] W fun e W' => e = .returned (.bool true) ∧ Below W.heap.size W W' := DecomposeErrors_go W hg v xs hv vm ms hvm a1 a2 a3 t T ht
end Go.Proofs.YtjigjjbhdgpfjaaGreatDoor
/-
  A drawn region by obligations: what it does not write stays as it was.
-/
namespace Go.Proofs.YtjigjjbhdgpfjaaGreatDoor
open Go.RowKit ND

/-- Slot i is written by none of the operations. -/
def freeOf (ops : Array Oper) (i : Nat) : Bool := ops.toList.all fun o => o.dst != some i
theorem wp_region_k2 (F : Nat) {P : Program} {id n : Nat} {ops : Array Oper} {Q : Exit → Act → World → Prop} {a : Act} {w0 : World} {ds : List Deferred} {fixed : List (Tmp × Value)} {specs : List SpecK} {apps : List Nat} (hm : P.follows .mixedOrders = true)
    (hck : checksA ops n (fixed.map (·.1)) = true) (hap : apps.all (fun q => decide (q < ops.size) && (List.range ops.size).all fun j => decide (j ≤ q) || ancB ops F q j || match specs[j]? with | some s => !s.mem | none => true) = true) (hsp : specs.length = ops.size) (hf : FS n ds fixed a)
    (hob : ∀ i, i < ops.size → ObR F P ops n ds fixed w0 specs apps Q i)
    (hend : ∀ a' w, Below w0.heap.size w0 w → FS n ds fixed a' → (∀ i, i < n → freeOf ops i = true → a'.tmps[i]? = a.tmps[i]?) → (∀ (i : Nat) (o : Oper) (d : Tmp), ops[i]? = some o → (∀ j, killK specs apps i j = false) → o.dst = some d → ∃ v, a'.tmps[d]? = some v ∧ RK w0.heap.size specs i v w) → Q .normal a' w) : (Code.region id ops true).wp P Q a w0 := by
  let oth : List (Tmp × Value) := ((List.range n).filter (freeOf ops)).map fun i => (i, a.tmps.getD i undef)
  have hoth : ∀ p ∈ oth, freeOf ops p.1 = true ∧ a.tmps[p.1]? = some p.2 := fun p hp => by
    obtain ⟨i, hi, rfl⟩ := List.mem_map.1 hp
    obtain ⟨h1, h2⟩ := List.mem_filter.1 hi
    refine ⟨h2, ?_⟩
    have h3 : i < a.tmps.size := by rw [hf.1]; exact List.mem_range.1 h1
    simp only
    rw [Array.getElem?_eq_getElem h3, Array.getD_eq_getD_getElem?, Array.getElem?_eq_getElem h3]; rfl
  have hck2 : checksA ops n ((fixed ++ oth).map (·.1)) = true := by
    unfold checksA at hck ⊢
    rw [Bool.and_eq_true, Bool.and_eq_true] at hck ⊢
    refine ⟨hck.1, ?_⟩
    rw [List.all_eq_true] at hck ⊢
    intro o ho
    have h1 := hck.2 o ho
    revert h1
    cases hd : o.dst with
    | none => intro _; rfl
    | some d =>
      intro h1
      simp only [Bool.and_eq_true, decide_eq_true_eq, Bool.not_eq_true', List.map_append] at h1 ⊢
      refine ⟨h1.1, ?_⟩
      rw [Bool.eq_false_iff]
      intro hc
      rw [List.contains_eq_mem, decide_eq_true_eq, List.mem_append] at hc
      rcases hc with hc | hc
      · have := h1.2
        rw [Bool.eq_false_iff] at this
        exact this (by rw [List.contains_eq_mem, decide_eq_true_eq]; exact hc)
      · obtain ⟨p, hp, rfl⟩ := List.mem_map.1 hc
        have h2 := (hoth p hp).1
        unfold freeOf at h2
        rw [List.all_eq_true] at h2
        have := h2 o ho
        rw [hd] at this
        simp at this
  have hweak : ∀ b : Act, FS n ds (fixed ++ oth) b → FS n ds fixed b := fun b h => ⟨h.1, h.2.1, fun p hp => h.2.2 p (List.mem_append_left _ hp)⟩
  refine wp_region_k F (fixed := fixed ++ oth) (specs := specs) (apps := apps) hm hck2 hap hsp ⟨hf.1, hf.2.1, fun p hp => ?_⟩ (fun i hi o ho b w hb hfb hd K hK => hob i hi o ho b w hb (hweak b hfb) hd K hK) ?_
  · rcases List.mem_append.1 hp with hp | hp
    · exact hf.2.2 p hp
    · exact (hoth p hp).2
  · intro b w hb hfb hr
    refine hend b w hb (hweak b hfb) (fun i hi hfree => ?_) hr
    have hm : (i, a.tmps.getD i undef) ∈ oth := List.mem_map.2 ⟨i, List.mem_filter.2 ⟨List.mem_range.2 hi, hfree⟩, rfl⟩
    rw [hfb.2.2 _ (List.mem_append_right _ hm), (hoth _ hm).2]
end Go.Proofs.YtjigjjbhdgpfjaaGreatDoor
