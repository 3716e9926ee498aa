/-
  Merged texts: lemmas and walks that the last text of this claim leans on.
-/
import Derived.Test.YtjigjjbhdgpfjaaGreatDoorMgB733
import Derived.Test.YtjigjjbhdgpfjaaGreatDoorMgB734
import Derived.Test.YtjigjjbhdgpfjaaGreatDoorMgB723
import Derived.Test.YtjigjjbhdgpfjaaGreatDoorMgB724
import Derived.Test.YtjigjjbhdgpfjaaGreatDoorMgB75
import Derived.Test.YtjigjjbhdgpfjaaGreatDoorMgB73
import Derived.Test.YtjigjjbhdgpfjaaGreatDoorMgB71
/-
  The walk through agrees of the laws of layer 7: for whatever tables and sequences.
-/
namespace Go.Proofs.YtjigjjbhdgpfjaaGreatDoor
open Go.RowKit ND

/-- What holds ahead of region 5. -/
structure ag7Ctx (w0 : World) (b : Nat) (t : Tv) (T : Tab) (va : Value) (xs : List Int) (vx : Value) (vy : Value) (ys : List Int) (er : Int) (bx : Bool) (ex : Int) : Prop where
  tb : Tbl w0 b t T
  g : Glob w0
  v : Ints w0 w0.heap.size .i64 va xs
  x : Ints w0 w0.heap.size .i64 vx ys
  y : Ints w0 w0.heap.size .i64 vy ys
def ag7Specs (t : Tv) (T : Tab) (va : Value) (xs : List Int) (vx : Value) (vy : Value) (er : Int) (bx : Bool) (ex : Int) : List SpecK := [.val vx, .val vy, .val (.bool true), .val (.bool true), .val (.int .i64 er), .val (.int .i64 er), .val (.bool true), .val (.bool true), .val (.bool true), .val (.bool bx), .val (.bool bx), .val (.bool true), .val (.bool true), .val (.bool true), .val (.int .i64 ex), .val (.int .i64 ex), .val (.bool true), .val (.bool true), .val (.bool true), .val t.val, .val va, .val (.bool (isNfdB T xs)), .val t.val, .val va, .val (.bool (isNfdB T xs)), .val (.bool true), .val (.bool true), .val (.bool true)]
def ag7Fixed (b : Nat) (va : Value) (vx : Value) (vy : Value) (er : Int) (bx : Bool) (ex : Int) : List (Tmp × Value) := [(1, va), (3, .pointer (some ⟨b, 0, none⟩)), (7, vx), (8, .int .i64 er), (9, vy), (10, .int .i64 er), (11, .bool bx), (12, .int .i64 ex), (13, .bool bx), (14, .int .i64 ex)]
def ag7Ob (w0 : World) (b : Nat) (t : Tv) (T : Tab) (va : Value) (xs : List Int) (vx : Value) (vy : Value) (er : Int) (bx : Bool) (ex : Int) (Q : Exit → Act → World → Prop) (k : Nat) : Prop := ObR 24 Tryz.prog (opsAt Tryz.f22 5) 68 [] (ag7Fixed b va vx vy er bx ex) w0 (ag7Specs t T va xs vx vy er bx ex) [] Q k
section
variable {w0 : World} {b : Nat} {t : Tv} {T : Tab} {va : Value} {xs : List Int} {vx : Value} {vy : Value} {ys : List Int} {er : Int} {bx : Bool} {ex : Int} {Q : Exit → Act → World → Prop}
theorem ag7_ob0 : ag7Ob w0 b t T va xs vx vy er bx ex Q 0 := by
  intro o ho a w hb hf hd K hK
  rw [if_pos (wanted_none _ (get_op (·.guard) ho (by kernel_rfl)))]
  exact ob_move (get_op (·.op) ho (by kernel_rfl)) (eval_tmp (hf.2.2 (7, _) (by simp [ag7Fixed]))) (hK _ _ (rk_of rfl rfl) (.inl (Below.refl _ _)))
theorem ag7_ob1 : ag7Ob w0 b t T va xs vx vy er bx ex Q 1 := by
  intro o ho a w hb hf hd K hK
  rw [if_pos (wanted_none _ (get_op (·.guard) ho (by kernel_rfl)))]
  exact ob_move (get_op (·.op) ho (by kernel_rfl)) (eval_tmp (hf.2.2 (9, _) (by simp [ag7Fixed]))) (hK _ _ (rk_of rfl rfl) (.inl (Below.refl _ _)))
theorem ag7_ob2 (H : ag7Ctx w0 b t T va xs vx vy ys er bx ex) : ag7Ob w0 b t T va xs vx vy er bx ex Q 2 := by
  intro o ho a w hb hf hd K hK
  rw [if_pos (wanted_none _ (get_op (·.guard) ho (by kernel_rfl)))]
  obtain ⟨v0, h0, e0⟩ := dep_k (F := 24) ho hd 0 41 (.val vx) (by kernel_rfl) (by kernel_rfl) rfl (by kernel_rfl)
  obtain rfl : v0 = _ := e0
  obtain ⟨v1, h1, e1⟩ := dep_k (F := 24) ho hd 1 42 (.val vy) (by kernel_rfl) (by kernel_rfl) rfl (by kernel_rfl)
  obtain rfl : v1 = _ := e1
  refine ob_enter (enter2 (tys := #[22, 22]) (x := .tmp 41) (y := .tmp 42) (get_op (·.op) ho (by kernel_rfl)) (eval_tmp h0) (eval_tmp h1) (fun args w => enters_of Tryz.func13 (by kernel_rfl) rfl args w)) (same_of _ _ _ _ w (H.x.later hb) (H.y.later hb) rfl) fun e w' ⟨he, h1⟩ => ⟨_, he, ?_⟩
  exact hK _ _ (rk_of rfl rfl) (.inl h1)
theorem ag7_ob3 : ag7Ob w0 b t T va xs vx vy er bx ex Q 3 := by
  intro o ho a w hb hf hd K hK
  rw [if_pos (wanted_none _ (get_op (·.guard) ho (by kernel_rfl)))]
  obtain ⟨v2, h2, e2⟩ := dep_k (F := 24) ho hd 2 43 (.val (.bool true)) (by kernel_rfl) (by kernel_rfl) rfl (by kernel_rfl)
  obtain rfl : v2 = _ := e2
  exact ob_move (get_op (·.op) ho (by kernel_rfl)) (eval_tmp h2) (hK _ _ (rk_of rfl rfl) (.inl (Below.refl _ _)))
theorem ag7_ob4 : ag7Ob w0 b t T va xs vx vy er bx ex Q 4 := by
  intro o ho a w hb hf hd K hK
  obtain ⟨v3, h3, e3⟩ := dep_k (F := 24) ho hd 3 44 (.val (.bool true)) (by kernel_rfl) (by kernel_rfl) rfl (by kernel_rfl)
  obtain rfl : v3 = _ := e3
  rw [if_pos (wanted_at (g := 3) (b := true) ho (by kernel_rfl) (by kernel_rfl) h3 rfl)]
  exact ob_move (get_op (·.op) ho (by kernel_rfl)) (eval_tmp (hf.2.2 (8, _) (by simp [ag7Fixed]))) (hK _ _ (rk_of rfl rfl) (.inl (Below.refl _ _)))
theorem ag7_ob5 : ag7Ob w0 b t T va xs vx vy er bx ex Q 5 := by
  intro o ho a w hb hf hd K hK
  obtain ⟨v3, h3, e3⟩ := dep_k (F := 24) ho hd 3 44 (.val (.bool true)) (by kernel_rfl) (by kernel_rfl) rfl (by kernel_rfl)
  obtain rfl : v3 = _ := e3
  rw [if_pos (wanted_at (g := 3) (b := true) ho (by kernel_rfl) (by kernel_rfl) h3 rfl)]
  exact ob_move (get_op (·.op) ho (by kernel_rfl)) (eval_tmp (hf.2.2 (10, _) (by simp [ag7Fixed]))) (hK _ _ (rk_of rfl rfl) (.inl (Below.refl _ _)))
theorem ag7_ob6 : ag7Ob w0 b t T va xs vx vy er bx ex Q 6 := by
  intro o ho a w hb hf hd K hK
  obtain ⟨v3, h3, e3⟩ := dep_k (F := 24) ho hd 3 44 (.val (.bool true)) (by kernel_rfl) (by kernel_rfl) rfl (by kernel_rfl)
  obtain rfl : v3 = _ := e3
  rw [if_pos (wanted_at (g := 3) (b := true) ho (by kernel_rfl) (by kernel_rfl) h3 rfl)]
  obtain ⟨v4, h4, e4⟩ := dep_k (F := 24) ho hd 4 45 (.val (.int .i64 er)) (by kernel_rfl) (by kernel_rfl) rfl (by kernel_rfl)
  obtain rfl : v4 = _ := e4
  obtain ⟨v5, h5, e5⟩ := dep_k (F := 24) ho hd 5 46 (.val (.int .i64 er)) (by kernel_rfl) (by kernel_rfl) rfl (by kernel_rfl)
  obtain rfl : v5 = _ := e5
  have hr : (execOp a.eval o).run Tryz.prog w = .ok (.value (.bool true)) w := by
    have hop : o.op = .binOp .eql 29 (.tmp 45) (.tmp 46) 29 := get_op (·.op) ho (by kernel_rfl)
    unfold execOp
    rw [hop]
    go_simp
  exact ob_run5 hr (hK _ _ (rk_of rfl rfl) (.inl (Below.refl _ _)))
theorem ag7_ob7 : ag7Ob w0 b t T va xs vx vy er bx ex Q 7 := by
  intro o ho a w hb hf hd K hK
  rw [if_pos (wanted_none _ (get_op (·.guard) ho (by kernel_rfl)))]
  obtain ⟨v3, h3, e3⟩ := dep_k (F := 24) ho hd 3 44 (.val (.bool true)) (by kernel_rfl) (by kernel_rfl) rfl (by kernel_rfl)
  obtain rfl : v3 = _ := e3
  obtain ⟨v6, h6, e6⟩ := dep_k (F := 24) ho hd 6 47 (.val (.bool true)) (by kernel_rfl) (by kernel_rfl) rfl (by kernel_rfl)
  obtain rfl : v6 = _ := e6
  exact ob_pick (c := .tmp 44) (x := .tmp 47) (y := .const (.bool false)) (b := true) (get_op (·.op) ho (by kernel_rfl)) (eval_tmp h3) (eval_tmp h6) (hK _ _ (rk_of rfl rfl) (.inl (Below.refl _ _)))
theorem ag7_ob8 : ag7Ob w0 b t T va xs vx vy er bx ex Q 8 := by
  intro o ho a w hb hf hd K hK
  rw [if_pos (wanted_none _ (get_op (·.guard) ho (by kernel_rfl)))]
  obtain ⟨v7, h7, e7⟩ := dep_k (F := 24) ho hd 7 48 (.val (.bool true)) (by kernel_rfl) (by kernel_rfl) rfl (by kernel_rfl)
  obtain rfl : v7 = _ := e7
  exact ob_move (get_op (·.op) ho (by kernel_rfl)) (eval_tmp h7) (hK _ _ (rk_of rfl rfl) (.inl (Below.refl _ _)))
theorem ag7_ob9 : ag7Ob w0 b t T va xs vx vy er bx ex Q 9 := by
  intro o ho a w hb hf hd K hK
  obtain ⟨v8, h8, e8⟩ := dep_k (F := 24) ho hd 8 49 (.val (.bool true)) (by kernel_rfl) (by kernel_rfl) rfl (by kernel_rfl)
  obtain rfl : v8 = _ := e8
  rw [if_pos (wanted_at (g := 8) (b := true) ho (by kernel_rfl) (by kernel_rfl) h8 rfl)]
  exact ob_move (get_op (·.op) ho (by kernel_rfl)) (eval_tmp (hf.2.2 (11, _) (by simp [ag7Fixed]))) (hK _ _ (rk_of rfl rfl) (.inl (Below.refl _ _)))
theorem ag7_ob10 : ag7Ob w0 b t T va xs vx vy er bx ex Q 10 := by
  intro o ho a w hb hf hd K hK
  obtain ⟨v8, h8, e8⟩ := dep_k (F := 24) ho hd 8 49 (.val (.bool true)) (by kernel_rfl) (by kernel_rfl) rfl (by kernel_rfl)
  obtain rfl : v8 = _ := e8
  rw [if_pos (wanted_at (g := 8) (b := true) ho (by kernel_rfl) (by kernel_rfl) h8 rfl)]
  exact ob_move (get_op (·.op) ho (by kernel_rfl)) (eval_tmp (hf.2.2 (13, _) (by simp [ag7Fixed]))) (hK _ _ (rk_of rfl rfl) (.inl (Below.refl _ _)))
theorem ag7_ob11 : ag7Ob w0 b t T va xs vx vy er bx ex Q 11 := by
  intro o ho a w hb hf hd K hK
  obtain ⟨v8, h8, e8⟩ := dep_k (F := 24) ho hd 8 49 (.val (.bool true)) (by kernel_rfl) (by kernel_rfl) rfl (by kernel_rfl)
  obtain rfl : v8 = _ := e8
  rw [if_pos (wanted_at (g := 8) (b := true) ho (by kernel_rfl) (by kernel_rfl) h8 rfl)]
  obtain ⟨v9, h9, e9⟩ := dep_k (F := 24) ho hd 9 50 (.val (.bool bx)) (by kernel_rfl) (by kernel_rfl) rfl (by kernel_rfl)
  obtain rfl : v9 = _ := e9
  obtain ⟨v10, h10, e10⟩ := dep_k (F := 24) ho hd 10 51 (.val (.bool bx)) (by kernel_rfl) (by kernel_rfl) rfl (by kernel_rfl)
  obtain rfl : v10 = _ := e10
  have hr : (execOp a.eval o).run Tryz.prog w = .ok (.value (.bool true)) w := by
    have hop : o.op = .binOp .eql 4 (.tmp 50) (.tmp 51) 4 := get_op (·.op) ho (by kernel_rfl)
    unfold execOp
    rw [hop]
    go_simp
  exact ob_run5 hr (hK _ _ (rk_of rfl rfl) (.inl (Below.refl _ _)))
theorem ag7_ob12 : ag7Ob w0 b t T va xs vx vy er bx ex Q 12 := by
  intro o ho a w hb hf hd K hK
  rw [if_pos (wanted_none _ (get_op (·.guard) ho (by kernel_rfl)))]
  obtain ⟨v8, h8, e8⟩ := dep_k (F := 24) ho hd 8 49 (.val (.bool true)) (by kernel_rfl) (by kernel_rfl) rfl (by kernel_rfl)
  obtain rfl : v8 = _ := e8
  obtain ⟨v11, h11, e11⟩ := dep_k (F := 24) ho hd 11 52 (.val (.bool true)) (by kernel_rfl) (by kernel_rfl) rfl (by kernel_rfl)
  obtain rfl : v11 = _ := e11
  exact ob_pick (c := .tmp 49) (x := .tmp 52) (y := .const (.bool false)) (b := true) (get_op (·.op) ho (by kernel_rfl)) (eval_tmp h8) (eval_tmp h11) (hK _ _ (rk_of rfl rfl) (.inl (Below.refl _ _)))
theorem ag7_ob13 : ag7Ob w0 b t T va xs vx vy er bx ex Q 13 := by
  intro o ho a w hb hf hd K hK
  rw [if_pos (wanted_none _ (get_op (·.guard) ho (by kernel_rfl)))]
  obtain ⟨v12, h12, e12⟩ := dep_k (F := 24) ho hd 12 53 (.val (.bool true)) (by kernel_rfl) (by kernel_rfl) rfl (by kernel_rfl)
  obtain rfl : v12 = _ := e12
  exact ob_move (get_op (·.op) ho (by kernel_rfl)) (eval_tmp h12) (hK _ _ (rk_of rfl rfl) (.inl (Below.refl _ _)))
theorem ag7_ob14 : ag7Ob w0 b t T va xs vx vy er bx ex Q 14 := by
  intro o ho a w hb hf hd K hK
  obtain ⟨v13, h13, e13⟩ := dep_k (F := 24) ho hd 13 54 (.val (.bool true)) (by kernel_rfl) (by kernel_rfl) rfl (by kernel_rfl)
  obtain rfl : v13 = _ := e13
  rw [if_pos (wanted_at (g := 13) (b := true) ho (by kernel_rfl) (by kernel_rfl) h13 rfl)]
  exact ob_move (get_op (·.op) ho (by kernel_rfl)) (eval_tmp (hf.2.2 (12, _) (by simp [ag7Fixed]))) (hK _ _ (rk_of rfl rfl) (.inl (Below.refl _ _)))
theorem ag7_ob15 : ag7Ob w0 b t T va xs vx vy er bx ex Q 15 := by
  intro o ho a w hb hf hd K hK
  obtain ⟨v13, h13, e13⟩ := dep_k (F := 24) ho hd 13 54 (.val (.bool true)) (by kernel_rfl) (by kernel_rfl) rfl (by kernel_rfl)
  obtain rfl : v13 = _ := e13
  rw [if_pos (wanted_at (g := 13) (b := true) ho (by kernel_rfl) (by kernel_rfl) h13 rfl)]
  exact ob_move (get_op (·.op) ho (by kernel_rfl)) (eval_tmp (hf.2.2 (14, _) (by simp [ag7Fixed]))) (hK _ _ (rk_of rfl rfl) (.inl (Below.refl _ _)))
theorem ag7_ob16 : ag7Ob w0 b t T va xs vx vy er bx ex Q 16 := by
  intro o ho a w hb hf hd K hK
  obtain ⟨v13, h13, e13⟩ := dep_k (F := 24) ho hd 13 54 (.val (.bool true)) (by kernel_rfl) (by kernel_rfl) rfl (by kernel_rfl)
  obtain rfl : v13 = _ := e13
  rw [if_pos (wanted_at (g := 13) (b := true) ho (by kernel_rfl) (by kernel_rfl) h13 rfl)]
  obtain ⟨v14, h14, e14⟩ := dep_k (F := 24) ho hd 14 55 (.val (.int .i64 ex)) (by kernel_rfl) (by kernel_rfl) rfl (by kernel_rfl)
  obtain rfl : v14 = _ := e14
  obtain ⟨v15, h15, e15⟩ := dep_k (F := 24) ho hd 15 56 (.val (.int .i64 ex)) (by kernel_rfl) (by kernel_rfl) rfl (by kernel_rfl)
  obtain rfl : v15 = _ := e15
  have hr : (execOp a.eval o).run Tryz.prog w = .ok (.value (.bool true)) w := by
    have hop : o.op = .binOp .eql 29 (.tmp 55) (.tmp 56) 29 := get_op (·.op) ho (by kernel_rfl)
    unfold execOp
    rw [hop]
    go_simp
  exact ob_run5 hr (hK _ _ (rk_of rfl rfl) (.inl (Below.refl _ _)))
theorem ag7_ob17 : ag7Ob w0 b t T va xs vx vy er bx ex Q 17 := by
  intro o ho a w hb hf hd K hK
  rw [if_pos (wanted_none _ (get_op (·.guard) ho (by kernel_rfl)))]
  obtain ⟨v13, h13, e13⟩ := dep_k (F := 24) ho hd 13 54 (.val (.bool true)) (by kernel_rfl) (by kernel_rfl) rfl (by kernel_rfl)
  obtain rfl : v13 = _ := e13
  obtain ⟨v16, h16, e16⟩ := dep_k (F := 24) ho hd 16 57 (.val (.bool true)) (by kernel_rfl) (by kernel_rfl) rfl (by kernel_rfl)
  obtain rfl : v16 = _ := e16
  exact ob_pick (c := .tmp 54) (x := .tmp 57) (y := .const (.bool false)) (b := true) (get_op (·.op) ho (by kernel_rfl)) (eval_tmp h13) (eval_tmp h16) (hK _ _ (rk_of rfl rfl) (.inl (Below.refl _ _)))
theorem ag7_ob18 : ag7Ob w0 b t T va xs vx vy er bx ex Q 18 := by
  intro o ho a w hb hf hd K hK
  rw [if_pos (wanted_none _ (get_op (·.guard) ho (by kernel_rfl)))]
  obtain ⟨v17, h17, e17⟩ := dep_k (F := 24) ho hd 17 58 (.val (.bool true)) (by kernel_rfl) (by kernel_rfl) rfl (by kernel_rfl)
  obtain rfl : v17 = _ := e17
  exact ob_move (get_op (·.op) ho (by kernel_rfl)) (eval_tmp h17) (hK _ _ (rk_of rfl rfl) (.inl (Below.refl _ _)))
theorem ag7_ob19 (H : ag7Ctx w0 b t T va xs vx vy ys er bx ex) : ag7Ob w0 b t T va xs vx vy er bx ex Q 19 := by
  intro o ho a w hb hf hd K hK
  obtain ⟨v18, h18, e18⟩ := dep_k (F := 24) ho hd 18 59 (.val (.bool true)) (by kernel_rfl) (by kernel_rfl) rfl (by kernel_rfl)
  obtain rfl : v18 = _ := e18
  rw [if_pos (wanted_at (g := 18) (b := true) ho (by kernel_rfl) (by kernel_rfl) h18 rfl)]
  exact ob_value (load_tab (H.tb.later hb) (get_op (·.op) ho (by kernel_rfl)) (eval_tmp (hf.2.2 (3, _) (by simp [ag7Fixed])))) (hK _ _ (rk_of rfl rfl) (.inl (Below.refl _ _)))
theorem ag7_ob20 : ag7Ob w0 b t T va xs vx vy er bx ex Q 20 := by
  intro o ho a w hb hf hd K hK
  obtain ⟨v18, h18, e18⟩ := dep_k (F := 24) ho hd 18 59 (.val (.bool true)) (by kernel_rfl) (by kernel_rfl) rfl (by kernel_rfl)
  obtain rfl : v18 = _ := e18
  rw [if_pos (wanted_at (g := 18) (b := true) ho (by kernel_rfl) (by kernel_rfl) h18 rfl)]
  exact ob_move (get_op (·.op) ho (by kernel_rfl)) (eval_tmp (hf.2.2 (1, _) (by simp [ag7Fixed]))) (hK _ _ (rk_of rfl rfl) (.inl (Below.refl _ _)))
theorem ag7_ob21 (H : ag7Ctx w0 b t T va xs vx vy ys er bx ex) : ag7Ob w0 b t T va xs vx vy er bx ex Q 21 := by
  intro o ho a w hb hf hd K hK
  obtain ⟨v18, h18, e18⟩ := dep_k (F := 24) ho hd 18 59 (.val (.bool true)) (by kernel_rfl) (by kernel_rfl) rfl (by kernel_rfl)
  obtain rfl : v18 = _ := e18
  rw [if_pos (wanted_at (g := 18) (b := true) ho (by kernel_rfl) (by kernel_rfl) h18 rfl)]
  obtain ⟨v19, h19, e19⟩ := dep_k (F := 24) ho hd 19 60 (.val t.val) (by kernel_rfl) (by kernel_rfl) rfl (by kernel_rfl)
  obtain rfl : v19 = _ := e19
  obtain ⟨v20, h20, e20⟩ := dep_k (F := 24) ho hd 20 61 (.val va) (by kernel_rfl) (by kernel_rfl) rfl (by kernel_rfl)
  obtain rfl : v20 = _ := e20
  refine ob_enter (enter2 (tys := #[26, 22]) (x := .tmp 60) (y := .tmp 61) (get_op (·.op) ho (by kernel_rfl)) (eval_tmp h19) (eval_tmp h20) (fun args w => enters_of Tryz.func56 (by kernel_rfl) rfl args w)) (isNfd_any t T _ xs w (H.tb.later hb).2 (H.g.later hb) (H.v.later hb)) fun e w' ⟨he, h1⟩ => ⟨_, he, ?_⟩
  exact hK _ _ (rk_of rfl rfl) (.inl h1)
theorem ag7_ob22 (H : ag7Ctx w0 b t T va xs vx vy ys er bx ex) : ag7Ob w0 b t T va xs vx vy er bx ex Q 22 := by
  intro o ho a w hb hf hd K hK
  obtain ⟨v18, h18, e18⟩ := dep_k (F := 24) ho hd 18 59 (.val (.bool true)) (by kernel_rfl) (by kernel_rfl) rfl (by kernel_rfl)
  obtain rfl : v18 = _ := e18
  rw [if_pos (wanted_at (g := 18) (b := true) ho (by kernel_rfl) (by kernel_rfl) h18 rfl)]
  exact ob_value (load_tab (H.tb.later hb) (get_op (·.op) ho (by kernel_rfl)) (eval_tmp (hf.2.2 (3, _) (by simp [ag7Fixed])))) (hK _ _ (rk_of rfl rfl) (.inl (Below.refl _ _)))
theorem ag7_ob23 : ag7Ob w0 b t T va xs vx vy er bx ex Q 23 := by
  intro o ho a w hb hf hd K hK
  obtain ⟨v18, h18, e18⟩ := dep_k (F := 24) ho hd 18 59 (.val (.bool true)) (by kernel_rfl) (by kernel_rfl) rfl (by kernel_rfl)
  obtain rfl : v18 = _ := e18
  rw [if_pos (wanted_at (g := 18) (b := true) ho (by kernel_rfl) (by kernel_rfl) h18 rfl)]
  exact ob_move (get_op (·.op) ho (by kernel_rfl)) (eval_tmp (hf.2.2 (1, _) (by simp [ag7Fixed]))) (hK _ _ (rk_of rfl rfl) (.inl (Below.refl _ _)))
theorem ag7_ob24 (H : ag7Ctx w0 b t T va xs vx vy ys er bx ex) : ag7Ob w0 b t T va xs vx vy er bx ex Q 24 := by
  intro o ho a w hb hf hd K hK
  obtain ⟨v18, h18, e18⟩ := dep_k (F := 24) ho hd 18 59 (.val (.bool true)) (by kernel_rfl) (by kernel_rfl) rfl (by kernel_rfl)
  obtain rfl : v18 = _ := e18
  rw [if_pos (wanted_at (g := 18) (b := true) ho (by kernel_rfl) (by kernel_rfl) h18 rfl)]
  obtain ⟨v22, h22, e22⟩ := dep_k (F := 24) ho hd 22 63 (.val t.val) (by kernel_rfl) (by kernel_rfl) rfl (by kernel_rfl)
  obtain rfl : v22 = _ := e22
  obtain ⟨v23, h23, e23⟩ := dep_k (F := 24) ho hd 23 64 (.val va) (by kernel_rfl) (by kernel_rfl) rfl (by kernel_rfl)
  obtain rfl : v23 = _ := e23
  refine ob_enter (enter2 (tys := #[26, 22]) (x := .tmp 63) (y := .tmp 64) (get_op (·.op) ho (by kernel_rfl)) (eval_tmp h22) (eval_tmp h23) (fun args w => enters_of Tryz.func57 (by kernel_rfl) rfl args w)) (refIsNfd_any t T _ xs w (H.tb.later hb).2 (H.v.later hb)) fun e w' ⟨he, h1⟩ => ⟨_, he, ?_⟩
  exact hK _ _ (rk_of rfl rfl) (.inl h1)
theorem ag7_ob25 : ag7Ob w0 b t T va xs vx vy er bx ex Q 25 := by
  intro o ho a w hb hf hd K hK
  obtain ⟨v18, h18, e18⟩ := dep_k (F := 24) ho hd 18 59 (.val (.bool true)) (by kernel_rfl) (by kernel_rfl) rfl (by kernel_rfl)
  obtain rfl : v18 = _ := e18
  rw [if_pos (wanted_at (g := 18) (b := true) ho (by kernel_rfl) (by kernel_rfl) h18 rfl)]
  obtain ⟨v21, h21, e21⟩ := dep_k (F := 24) ho hd 21 62 (.val (.bool (isNfdB T xs))) (by kernel_rfl) (by kernel_rfl) rfl (by kernel_rfl)
  obtain rfl : v21 = _ := e21
  obtain ⟨v24, h24, e24⟩ := dep_k (F := 24) ho hd 24 65 (.val (.bool (isNfdB T xs))) (by kernel_rfl) (by kernel_rfl) rfl (by kernel_rfl)
  obtain rfl : v24 = _ := e24
  have hr : (execOp a.eval o).run Tryz.prog w = .ok (.value (.bool true)) w := by
    have hop : o.op = .binOp .eql 4 (.tmp 62) (.tmp 65) 4 := get_op (·.op) ho (by kernel_rfl)
    unfold execOp
    rw [hop]
    go_simp
  exact ob_run5 hr (hK _ _ (rk_of rfl rfl) (.inl (Below.refl _ _)))
theorem ag7_ob26 : ag7Ob w0 b t T va xs vx vy er bx ex Q 26 := by
  intro o ho a w hb hf hd K hK
  rw [if_pos (wanted_none _ (get_op (·.guard) ho (by kernel_rfl)))]
  obtain ⟨v18, h18, e18⟩ := dep_k (F := 24) ho hd 18 59 (.val (.bool true)) (by kernel_rfl) (by kernel_rfl) rfl (by kernel_rfl)
  obtain rfl : v18 = _ := e18
  obtain ⟨v25, h25, e25⟩ := dep_k (F := 24) ho hd 25 66 (.val (.bool true)) (by kernel_rfl) (by kernel_rfl) rfl (by kernel_rfl)
  obtain rfl : v25 = _ := e25
  exact ob_pick (c := .tmp 59) (x := .tmp 66) (y := .const (.bool false)) (b := true) (get_op (·.op) ho (by kernel_rfl)) (eval_tmp h18) (eval_tmp h25) (hK _ _ (rk_of rfl rfl) (.inl (Below.refl _ _)))
theorem ag7_ob27 : ag7Ob w0 b t T va xs vx vy er bx ex Q 27 := by
  intro o ho a w hb hf hd K hK
  rw [if_pos (wanted_none _ (get_op (·.guard) ho (by kernel_rfl)))]
  obtain ⟨v26, h26, e26⟩ := dep_k (F := 24) ho hd 26 67 (.val (.bool true)) (by kernel_rfl) (by kernel_rfl) rfl (by kernel_rfl)
  obtain rfl : v26 = _ := e26
  exact ob_assign (get_op (·.op) ho (by kernel_rfl)) (eval_tmp h26) (hK _ _ (rk_of rfl rfl) (.inl (Below.refl _ _)))
theorem ag7_obs (H : ag7Ctx w0 b t T va xs vx vy ys er bx ex) (k : Nat) (hk : k < 28) : ag7Ob w0 b t T va xs vx vy er bx ex Q k := by
  match k, hk with
  | 0, _ => exact ag7_ob0
  | 1, _ => exact ag7_ob1
  | 2, _ => exact ag7_ob2 H
  | 3, _ => exact ag7_ob3
  | 4, _ => exact ag7_ob4
  | 5, _ => exact ag7_ob5
  | 6, _ => exact ag7_ob6
  | 7, _ => exact ag7_ob7
  | 8, _ => exact ag7_ob8
  | 9, _ => exact ag7_ob9
  | 10, _ => exact ag7_ob10
  | 11, _ => exact ag7_ob11
  | 12, _ => exact ag7_ob12
  | 13, _ => exact ag7_ob13
  | 14, _ => exact ag7_ob14
  | 15, _ => exact ag7_ob15
  | 16, _ => exact ag7_ob16
  | 17, _ => exact ag7_ob17
  | 18, _ => exact ag7_ob18
  | 19, _ => exact ag7_ob19 H
  | 20, _ => exact ag7_ob20
  | 21, _ => exact ag7_ob21 H
  | 22, _ => exact ag7_ob22 H
  | 23, _ => exact ag7_ob23
  | 24, _ => exact ag7_ob24 H
  | 25, _ => exact ag7_ob25
  | 26, _ => exact ag7_ob26
  | 27, _ => exact ag7_ob27
  | m + 28, h => exact absurd h (by omega)
theorem ag7_region {a : Act} (H : ag7Ctx w0 b t T va xs vx vy ys er bx ex) (hf : FS 68 [] (ag7Fixed b va vx vy er bx ex) a)
    (hend : ∀ a w, Below w0.heap.size w0 w → FS 68 [] (ag7Fixed b va vx vy er bx ex) a → (∀ (i : Nat) (o : Oper) (d : Tmp), (opsAt Tryz.f22 5)[i]? = some o → (∀ j, killK (ag7Specs t T va xs vx vy er bx ex) [] i j = false) → o.dst = some d → ∃ v, a.tmps[d]? = some v ∧ RK w0.heap.size (ag7Specs t T va xs vx vy er bx ex) i v w) → Q .normal a w) : (Code.region 5 (opsAt Tryz.f22 5) true).wp Tryz.prog Q a w0 := by
  refine wp_region_k 24 (n := 68) (ds := []) (fixed := ag7Fixed b va vx vy er bx ex) (specs := ag7Specs t T va xs vx vy er bx ex) (apps := []) (by kernel_rfl) (by kernel_rfl) (by kernel_rfl) (by kernel_rfl) hf (fun i hi => ag7_obs H i ?_) hend
  have hn : (opsAt Tryz.f22 5).size = 28 := by kernel_rfl
  omega
end

set_option maxRecDepth 100000 in
set_option maxHeartbeats 2000000 in
theorem agrees7_any (t : Tv) (T : Tab) (v : Value) (xs : List Int) (u : Value) (us : List Int) (w : World) (ht : TabR w w.heap.size t T) (hg : Glob w) (hv : Ints w w.heap.size .i64 v xs) (hu : Ints w w.heap.size .i64 u us) :
    Calls Tryz.prog 22 #[t.val, v, u] w fun e w' => e = .returned (.bool true) ∧ Below w.heap.size w w' := by
  obtain ⟨A, c, rfl, _⟩ := id hv
  obtain ⟨A', c', rfl, _⟩ := id hu
  have HB0 : Hid (Below w.heap.size w (w.alloc (.cells t.cells 26))) := Lib.hid ((Below.refl _ _).alloc (Nat.le_refl _) _)
  have HT : Hid (Tbl (w.alloc (.cells t.cells 26)) w.heap.size t T) := Lib.hid ⟨Blk.new _ _ _, ht.later HB0.out⟩
  have HV := Lib.hid (hv.later HB0.out)
  have HU := Lib.hid (hu.later HB0.out)
  have HG := Lib.hid (hg.later HB0.out)
  clear ht hv hu hg
  go_enter Tryz.func22, Tryz.ntmps22
  go_upto_region 1 with fail
  generalize w.alloc (.cells t.cells 26) = w1 at *
  obtain ⟨tb, htb⟩ : ∃ tb, w.heap.size = tb := ⟨_, rfl⟩
  rw [htb] at HT
  simp only [htb]
  have H1 := Lib.hid (fun W (h : Below w1.heap.size w1 W) => nfd7_any t T _ xs W (HT.out.later h).2 (HG.out.later h) (HV.out.later h))
  have H2 := Lib.hid (fun W (h : Below w1.heap.size w1 W) => refNfd_any t T _ xs W (HT.out.later h).2 (HV.out.later h))
  have H3 := Lib.hid (fun W (h : Below w1.heap.size w1 W) => equiv7_any t T _ xs _ us W (HT.out.later h).2 (HG.out.later h) (HV.out.later h) (HU.out.later h))
  have H4 := Lib.hid (fun W (h : Below w1.heap.size w1 W) => refEquiv_any t T _ xs _ us W (HT.out.later h).2 (HV.out.later h) (HU.out.later h))
  obtain ⟨ys, er, hr⟩ : ∃ ys er, nfdR T (accE T xs) xs = (ys, er) := ⟨_, _, rfl⟩
  obtain ⟨bx, ex, hx⟩ : ∃ bx ex, equivR T xs us = (bx, ex) := ⟨_, _, rfl⟩
  rw [hr] at H1 H2
  rw [hx] at H3 H4
  clear hr hx
  obtain ⟨x0, x1, x2, x3, x4, x5, x6, x7, x8, x9, x10, x11⟩ := HT.out.1.tab
  go_upto_region 2 with (go_at_call 10; refine (H1.out _ (Below.refl _ _)).mono ?_; rintro e w2 ⟨u2, rfl, ho2, b2⟩; obtain ⟨A2, c2, rfl, _⟩ := id (Ints.of_own ho2); have HU2 := Lib.hid (Ints.of_own ho2); have B2 := Lib.hid b2; clear ho2 b2)
  clear x0 x1 x2 x3 x4 x5 x6 x7 x8 x9 x10 x11
  obtain ⟨x0, x1, x2, x3, x4, x5, x6, x7, x8, x9, x10, x11⟩ := (HT.out.later B2.out).1.tab
  go_upto_region 3 with (go_at_call 53; refine (H2.out _ B2.out).mono ?_; rintro e w3 ⟨u3, rfl, ho3, b3⟩; obtain ⟨A3, c3, rfl, _⟩ := id (Ints.of_own ho3); have HU3 := Lib.hid (Ints.of_own ho3); have HX3 := Lib.hid (HU2.out.later b3); have B3 := Lib.hid (below_next B2.out b3); clear ho3 b3)
  clear x0 x1 x2 x3 x4 x5 x6 x7 x8 x9 x10 x11
  obtain ⟨x0, x1, x2, x3, x4, x5, x6, x7, x8, x9, x10, x11⟩ := (HT.out.later B3.out).1.tab
  go_upto_region 4 with (go_at_call 54; refine (H3.out _ B3.out).mono ?_; rintro e w4 ⟨rfl, b4⟩; have HU4 := Lib.hid (HU3.out.later b4); have HX4 := Lib.hid (HX3.out.later b4); have B4 := Lib.hid (below_next B3.out b4); clear b4)
  clear x0 x1 x2 x3 x4 x5 x6 x7 x8 x9 x10 x11
  obtain ⟨x0, x1, x2, x3, x4, x5, x6, x7, x8, x9, x10, x11⟩ := (HT.out.later B4.out).1.tab
  go_upto_region 5 with (go_at_call 55; refine (H4.out _ B4.out).mono ?_; rintro e w5 ⟨rfl, b5⟩; have HU5 := Lib.hid (HU4.out.later b5); have HX5 := Lib.hid (HX4.out.later b5); have B5 := Lib.hid (below_next B4.out b5); clear b5)
  clear x0 x1 x2 x3 x4 x5 x6 x7 x8 x9 x10 x11
  refine wp_region_as (ops := (opsAt Tryz.f22 5)) (by kernel_rfl) ?_
  refine ag7_region (b := tb) (t := t) (T := T) (va := .slice A xs.length c) (xs := xs) (vx := .slice A2 ys.length c2) (vy := .slice A3 ys.length c3) (ys := ys) (er := er) (bx := bx) (ex := ex) ⟨HT.out.later B5.out, HG.out.later B5.out, HV.out.later B5.out, HX5.out, HU5.out⟩ ⟨rfl, rfl, by intro p hp; simp [ag7Fixed] at hp; rcases hp with rfl | rfl | rfl | rfl | rfl | rfl | rfl | rfl | rfl | rfl <;> rfl⟩ ?_
  intro a w9 hc hf hr
  obtain ⟨v9, hv9, e9⟩ := end_k hr 27 6 (.val (.bool true)) (by kernel_rfl) rfl (by kernel_rfl)
  obtain rfl : v9 = .bool true := e9
  rename_i K hK
  refine hK a w9 ?_
  go_wp2
  exact bodyPost_ret (v := .bool true) (by simp [results, Tryz.results22, hv9]) hf.2.1 ⟨rfl, below_next HB0.out (below_next B5.out hc)⟩
end Go.Proofs.YtjigjjbhdgpfjaaGreatDoor
/-
  Literals of spans and of mappings, as they lie in memory.
-/
namespace Go.Proofs.YtjigjjbhdgpfjaaGreatDoor
open Go.RowKit ND

theorem lit_i (w : World) (xs : List Int) (hl : xs.length ≤ 1000000) : Ints (w.alloc (.cells (xs.map (Value.int .i64)).toArray 3)) (w.alloc (.cells (xs.map (Value.int .i64)).toArray 3)).heap.size .i64 (.slice (some ⟨w.heap.size, 0, none⟩) xs.length xs.length) xs :=
  Ints.of_own (own_new w 3 xs hl)
/-- One span. -/
theorem lit_span (w : World) (a b c : Int) : Spans (w.alloc (.cells #[.int .i64 a, .int .i64 b, .int .i64 c] 56)) (w.alloc (.cells #[.int .i64 a, .int .i64 b, .int .i64 c] 56)).heap.size (.slice (some ⟨w.heap.size, 0, none⟩) 1 1) [(a, b, c)] := by
  have h := cells_new w [.int .i64 a, .int .i64 b, .int .i64 c] 56
  refine ⟨_, _, rfl, Nat.le_refl _, by unfold maxLen; omega, (by simp), fun i x hi => ?_⟩
  cases i with
  | zero =>
    simp at hi; subst hi
    exact ⟨_, rfl, by simp, h 0 _ rfl, h 1 _ rfl, h 2 _ rfl⟩
  | succ i => simp at hi
/-- One mapping. -/
theorem lit_map (w : World) (a : Int) (v : Value) (xs : List Int) (hv : Ints w w.heap.size .i64 v xs) : Mapps (w.alloc (.cells #[.int .i64 a, v] 63)) (w.alloc (.cells #[.int .i64 a, v] 63)).heap.size (.slice (some ⟨w.heap.size, 0, none⟩) 1 1) [(a, xs)] := by
  have h := cells_new w [.int .i64 a, v] 63
  have hb : Below w.heap.size w (w.alloc (.cells #[.int .i64 a, v] 63)) := (Below.refl _ _).alloc (Nat.le_refl _) _
  refine ⟨_, _, rfl, Nat.le_refl _, by unfold maxLen; omega, (by simp), fun i x hi => ?_⟩
  cases i with
  | zero =>
    simp at hi; subst hi
    exact ⟨_, v, rfl, by simp, h 0 _ rfl, h 1 _ rfl, hv.later hb⟩
  | succ i => simp at hi
/-- Two mappings. -/
theorem lit_map2 (w : World) (a : Int) (v : Value) (xs : List Int) (a' : Int) (v' : Value) (xs' : List Int) (hv : Ints w w.heap.size .i64 v xs) (hv' : Ints w w.heap.size .i64 v' xs') : Mapps (w.alloc (.cells #[.int .i64 a, v, .int .i64 a', v'] 63)) (w.alloc (.cells #[.int .i64 a, v, .int .i64 a', v'] 63)).heap.size (.slice (some ⟨w.heap.size, 0, none⟩) 2 2) [(a, xs), (a', xs')] := by
  have h := cells_new w [.int .i64 a, v, .int .i64 a', v'] 63
  have hb : Below w.heap.size w (w.alloc (.cells #[.int .i64 a, v, .int .i64 a', v'] 63)) := (Below.refl _ _).alloc (Nat.le_refl _) _
  refine ⟨_, _, rfl, Nat.le_refl _, by unfold maxLen; omega, (by simp), fun i x hi => ?_⟩
  match i, hi with
  | 0, hi =>
    simp at hi; subst hi
    exact ⟨_, v, rfl, by simp, h 0 _ rfl, h 1 _ rfl, hv.later hb⟩
  | 1, hi =>
    simp at hi; subst hi
    exact ⟨_, v', rfl, by simp, h 2 _ rfl, h 3 _ rfl, hv'.later hb⟩
  | i + 2, hi => simp at hi
end Go.Proofs.YtjigjjbhdgpfjaaGreatDoor
/-
  The walk through awake of the laws of layer 7: the example of its chapter.
-/
namespace Go.Proofs.YtjigjjbhdgpfjaaGreatDoor
open Go.RowKit ND

def tab7 : Tab := ⟨[], [(769, 769, 230)], [], [], [], [], [], [], [], [(233, [101, 769])], [], []⟩
/-- The example's tables. -/
def RetEx7 (w : World) (e : Ending) (w' : World) : Prop := ∃ t : Tv, e = .returned t.val ∧ TabR w' w'.heap.size t tab7 ∧ Below w.heap.size w w'

set_option maxRecDepth 100000 in
set_option maxHeartbeats 1000000 in
theorem example7_any (w : World) : Calls Tryz.prog 38 #[] w (RetEx7 w) := by
  go_enter Tryz.func38, Tryz.ntmps38
  go_wp2
  have b0 : Below w.heap.size w (w.alloc (.cells #[.slice none 0 0, .slice (some ⟨w.heap.size + 1, 0, none⟩) 1 1, .slice none 0 0, .slice none 0 0, .slice none 0 0, .slice none 0 0, .slice none 0 0, .slice none 0 0, .slice none 0 0, .slice (some ⟨w.heap.size + 1 + 1 + 1, 0, none⟩) 1 1, .slice none 0 0, .slice none 0 0] 26)) := (Below.refl _ _).alloc (Nat.le_refl _) _
  have hX : Blk (w.alloc (.cells #[.slice none 0 0, .slice (some ⟨w.heap.size + 1, 0, none⟩) 1 1, .slice none 0 0, .slice none 0 0, .slice none 0 0, .slice none 0 0, .slice none 0 0, .slice none 0 0, .slice none 0 0, .slice (some ⟨w.heap.size + 1 + 1 + 1, 0, none⟩) 1 1, .slice none 0 0, .slice none 0 0] 26)) w.heap.size 26 #[.slice none 0 0, .slice (some ⟨w.heap.size + 1, 0, none⟩) 1 1, .slice none 0 0, .slice none 0 0, .slice none 0 0, .slice none 0 0, .slice none 0 0, .slice none 0 0, .slice none 0 0, .slice (some ⟨w.heap.size + 1 + 1 + 1, 0, none⟩) 1 1, .slice none 0 0, .slice none 0 0] := Blk.new _ _ _
  have z0 : (w.alloc (.cells #[.slice none 0 0, .slice (some ⟨w.heap.size + 1, 0, none⟩) 1 1, .slice none 0 0, .slice none 0 0, .slice none 0 0, .slice none 0 0, .slice none 0 0, .slice none 0 0, .slice none 0 0, .slice (some ⟨w.heap.size + 1 + 1 + 1, 0, none⟩) 1 1, .slice none 0 0, .slice none 0 0] 26)).heap.size = w.heap.size + 1 := by simp
  generalize (w.alloc (.cells #[.slice none 0 0, .slice (some ⟨w.heap.size + 1, 0, none⟩) 1 1, .slice none 0 0, .slice none 0 0, .slice none 0 0, .slice none 0 0, .slice none 0 0, .slice none 0 0, .slice none 0 0, .slice (some ⟨w.heap.size + 1 + 1 + 1, 0, none⟩) 1 1, .slice none 0 0, .slice none 0 0] 26)) = w0 at *
  have b1 : Below w0.heap.size w0 (w0.alloc (.cells #[.int .i64 769, .int .i64 769, .int .i64 230] 56)) := (Below.refl _ _).alloc (Nat.le_refl _) _
  have hs := lit_span w0 769 769 230
  have z1 : (w0.alloc (.cells #[.int .i64 769, .int .i64 769, .int .i64 230] 56)).heap.size = w.heap.size + 1 + 1 := by simp [z0]
  rw [z0] at hs
  generalize w0.alloc (.cells #[.int .i64 769, .int .i64 769, .int .i64 230] 56) = w1 at *
  have b2 : Below w1.heap.size w1 (w1.alloc (.cells #[.int .i64 101, .int .i64 769] 3)) := (Below.refl _ _).alloc (Nat.le_refl _) _
  have hi := lit_i w1 [101, 769] (by simp)
  simp only [List.map_cons, List.map_nil, List.length_cons, List.length_nil] at hi
  have z2 : (w1.alloc (.cells #[.int .i64 101, .int .i64 769] 3)).heap.size = w.heap.size + 1 + 1 + 1 := by simp [z1]
  rw [z1] at hi
  generalize w1.alloc (.cells #[.int .i64 101, .int .i64 769] 3) = w2 at *
  have b3 : Below w2.heap.size w2 (w2.alloc (.cells #[.int .i64 233, .slice (some ⟨w.heap.size + 1 + 1, 0, none⟩) 2 2] 63)) := (Below.refl _ _).alloc (Nat.le_refl _) _
  have hm := lit_map w2 233 _ [101, 769] hi
  simp only [z2] at hm
  generalize w2.alloc (.cells #[.int .i64 233, .slice (some ⟨w.heap.size + 1 + 1, 0, none⟩) 2 2] 63) = w3 at *
  have hs3 := (hs.later b2).later b3
  have hX3 := (((hX.later b1).later b2).later b3)
  have bb := below_next (below_next (below_next b0 b1) b2) b3
  obtain ⟨x0, x1, x2, x3, x4, x5, x6, x7, x8, x9, x10, x11⟩ := hX3.tab
  exact bodyPost_ret (v := Tv.val ⟨.slice none 0 0, .slice (some ⟨w.heap.size + 1, 0, none⟩) 1 1, .slice none 0 0, .slice none 0 0, .slice none 0 0, .slice none 0 0, .slice none 0 0, .slice none 0 0, .slice none 0 0, .slice (some ⟨w.heap.size + 1 + 1 + 1, 0, none⟩) 1 1, .slice none 0 0, .slice none 0 0⟩) (by simp [results, Tryz.results38, go_sem, x0, x1, x2, x3, x4, x5, x6, x7, x8, x9, x10, x11]) rfl ⟨⟨.slice none 0 0, .slice (some ⟨w.heap.size + 1, 0, none⟩) 1 1, .slice none 0 0, .slice none 0 0, .slice none 0 0, .slice none 0 0, .slice none 0 0, .slice none 0 0, .slice none 0 0, .slice (some ⟨w.heap.size + 1 + 1 + 1, 0, none⟩) 1 1, .slice none 0 0, .slice none 0 0⟩, rfl, ⟨Spans.none_, hs3, Spans.none_, Spans.none_, Spans.none_, Spans.none_, Spans.none_, Mapps.none_, Mapps.none_, hm, Ints.none_, Mapps.none_⟩, bb⟩

theorem nfd_tab7 : nfdR tab7 (accE tab7 [233]) [233] = ([101, 769], 0) := by decide +kernel
theorem one_tab7 : oneL tab7 233 = [101, 769] := by decide +kernel

set_option maxRecDepth 100000 in
set_option maxHeartbeats 2000000 in
theorem awake7 (w : World) (hg : Glob w) : Calls Tryz.prog 12 #[] w fun e w' => e = .returned (.bool true) ∧ Below w.heap.size w w' := by
  have HG := Lib.hid (fun W (h : Below w.heap.size w W) => hg.later h)
  clear hg
  have HN := Lib.hid (fun t v W h h2 h3 => nfd7_any t tab7 v [233] W h h2 h3)
  have HO := Lib.hid (fun t W h h2 => one7_any t tab7 233 W h h2)
  rw [nfd_tab7] at HN
  rw [one_tab7] at HO
  go_enter Tryz.func12, Tryz.ntmps12
  go_upto_region 2 with (first
    | (go_at_call 38; refine (example7_any _).mono ?_; rintro e w1 ⟨t1, rfl, ht1, b1⟩)
    | (go_at_call 10; have bl := (Below.refl w1.heap.size w1).alloc (Nat.le_refl _) (.cells #[.int .i64 233] 3); refine (HN.out t1 _ _ (ht1.later bl) (HG.out _ (below_next b1 bl)) (by have h := Ints.of_own (own_new w1 3 [233] (by simp)); simpa using h)).mono ?_; rintro e w2 ⟨u2, rfl, ho2, b2⟩; obtain ⟨A2, c2, rfl, _⟩ := id (Ints.of_own ho2); have HU2 := Lib.hid (Ints.of_own ho2); have HB2 := Lib.hid (below_next (below_next b1 bl) b2); clear ho2 b2 bl b1 ht1))
  go_wp2_with (first
    | (go_at_call 13; have bl := (Below.refl w2.heap.size w2).alloc (Nat.le_refl _) (.cells #[.int .i64 101, .int .i64 769] 3); refine (same_of _ _ [101, 769] [101, 769] _ (HU2.out.later bl) (by have h := Ints.of_own (own_new w2 3 [101, 769] (by simp)); simpa using h) rfl).mono ?_; rintro e w3 ⟨rfl, b3⟩; have HB3 := Lib.hid (below_next (below_next HB2.out bl) b3); clear bl b3 HU2)
    | (go_at_call 38; refine (example7_any _).mono ?_; rintro e w4 ⟨t4, rfl, ht4, b4⟩; have HB4 := Lib.hid (below_next HB3.out b4); clear b4)
    | (go_at_call 20; refine (HO.out t4 _ ht4 (HG.out _ HB4.out)).mono ?_; rintro e w5 ⟨u5, rfl, ho5, b5⟩; obtain ⟨A5, c5, rfl, _⟩ := id (Ints.of_own ho5); have HU5 := Lib.hid (Ints.of_own ho5); have HB5 := Lib.hid (below_next HB4.out b5); clear ho5 b5 ht4)
    | (go_at_call 13; have bl := (Below.refl w5.heap.size w5).alloc (Nat.le_refl _) (.cells #[.int .i64 101, .int .i64 769] 3); refine (same_of _ _ [101, 769] [101, 769] _ (HU5.out.later bl) (by have h := Ints.of_own (own_new w5 3 [101, 769] (by simp)); simpa using h) rfl).mono ?_; rintro e w6 ⟨rfl, b6⟩; have HB6 := Lib.hid (below_next (below_next HB5.out bl) b6); clear bl b6))
  go_ret
  exact ⟨rfl, HB6.out⟩
end Go.Proofs.YtjigjjbhdgpfjaaGreatDoor
/-
  Below, whatever name the size of the first heap bears.
-/
namespace Go.Proofs.YtjigjjbhdgpfjaaGreatDoor
open Go.RowKit
theorem below_w {a b c : World} {B : Nat} (h : Below a.heap.size a b) (k : Below b.heap.size b c) (hB : B = a.heap.size := by first | rfl | omega) : Below B a c := hB ▸ below_next h k
end Go.Proofs.YtjigjjbhdgpfjaaGreatDoor
