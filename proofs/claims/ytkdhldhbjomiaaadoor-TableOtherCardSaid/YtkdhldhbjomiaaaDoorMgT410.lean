/-
  Merged texts: lemmas and walks that the last text of this claim leans on.
-/
import Derived.Test.YtkdhldhbjomiaaaDoorMgT49
import Derived.Test.YtkdhldhbjomiaaaDoorMgT48
import Derived.Test.YtkdhldhbjomiaaaDoorMgT44
import Derived.Test.YtkdhldhbjomiaaaDoorMgT45
import Derived.Test.YtkdhldhbjomiaaaDoorMgT41
import Derived.Deep.Cut
import Derived.Test.YtkdhldhbjomiaaaDoorMgT46
import Derived.Deep.CutBlock
import Derived.Test.YtkdhldhbjomiaaaDoorMgT43
/-
  The walk through namedesklaw4.properties: for well-formed tables all properties are as specified.
-/
namespace Go.Proofs.YtkdhldhbjomiaaaDoor
open Go.RowKit ND

def propsSpec (t : Tv) (T : Tab) (c : Int) : List SpecV := [.val t.val, .val (.int .i64 c), .val (.int .i64 (T.categoryOf c)), .val t.val, .val (.int .i64 c), .val (.int .i64 (T.categoryOf c)), .val (.bool true), .val (.bool true), .val t.val, .val (.int .i64 c), .val (.int .i64 (T.classOf c)), .val t.val, .val (.int .i64 c), .val (.int .i64 (T.classOf c)), .val (.bool true), .val (.bool true), .val (.bool true), .val t.val, .val (.int .i64 c), .val (.int .i64 (T.joiningOf c)), .val t.val, .val (.int .i64 c), .val (.int .i64 (T.joiningOf c)), .val (.bool true), .val (.bool true), .val (.bool true), .val t.val, .val (.int .i64 c), .val (.int .i64 (T.bidiOf c)), .val t.val, .val (.int .i64 c), .val (.int .i64 (T.bidiOf c)), .val (.bool true), .val (.bool true), .val (.bool true), .val t.val, .val (.int .i64 c), .val (.int .i64 (T.scriptOf c)), .val t.val, .val (.int .i64 c), .val (.int .i64 (T.scriptOf c)), .val (.bool true), .val (.bool true), .val (.bool true), .val t.val, .val (.int .i64 c), .val (.int .i64 (T.statusOf c)), .val t.val, .val (.int .i64 c), .val (.int .i64 (T.statusOf c)), .val (.bool true), .val (.bool true), .val (.bool true), .val t.val, .val (.int .i64 c), .val (.bool (T.ignB c)), .val t.val, .val (.int .i64 c), .val (.bool (T.ignB c)), .val (.bool true), .val (.bool true), .val (.bool true), .val t.val, .val (.int .i64 c), .val (.bool (T.excB c)), .val t.val, .val (.int .i64 c), .val (.bool (T.excB c)), .val (.bool true), .val (.bool true), .val (.bool true), .val t.val, .val (.int .i64 c), .seq (findL T.extensions c), .val t.val, .val (.int .i64 c), .seq (findL T.extensions c), .val (.bool true), .val (.bool true), .val (.bool true), .val t.val, .val (.int .i64 c), .seq (T.mapsOf c), .val t.val, .val (.int .i64 c), .seq (T.mapsOf c), .val (.bool true), .val (.bool true), .val (.bool true), .val t.val, .val (.int .i64 c), .seq (findL T.decomps c), .val t.val, .val (.int .i64 c), .seq (findL T.decomps c), .val (.bool true), .val (.bool true), .val (.bool true), .val t.val, .val (.int .i64 c), .seq (findL T.prototypes c), .val t.val, .val (.int .i64 c), .seq (findL T.prototypes c), .val (.bool true), .val (.bool true), .val (.bool true)]
/-- The worlds of the region. -/
def PropsC (w0 : World) (b : Nat) (t : Tv) (T : Tab) (w : World) : Prop := Tbl w b t T ∧ Below w0.heap.size w0 w
/-- The obligation of one operation of the region. -/
def PropsOb (w0 : World) (b : Nat) (t : Tv) (T : Tab) (c : Int) (Q : Exit → Act → World → Prop) (k : Nat) : Prop :=
  ∀ o, (opsAt Tryd.f19 1)[k]? = some o → Ob Tryd.prog (opsAt Tryd.f19 1) 111 [] [(1, .int .i64 c), (2, .pointer (some ⟨b, 0, none⟩))] (PropsC w0 b t T) (propsSpec t T c) Q k o
section
variable {w0 : World} {b : Nat} {t : Tv} {T : Tab} {c : Int} {Q : Exit → Act → World → Prop}

theorem props_ob0  : PropsOb w0 b t T c Q 0 := by
  intro o ho a w hc hf hd K hK
  rw [if_pos (wanted_none _ (get_op (·.guard) ho (by kernel_rfl)))]
  exact ob_value (load_tab hc.1 (get_op (·.op) ho (by kernel_rfl)) (eval_tmp (hf.2.2 (2, _) (by simp)))) (hK _ _ (rs_of rfl rfl) hc (Below.refl _ _))
theorem props_ob1  : PropsOb w0 b t T c Q 1 := by
  intro o ho a w hc hf hd K hK
  rw [if_pos (wanted_none _ (get_op (·.guard) ho (by kernel_rfl)))]
  exact ob_move (get_op (·.op) ho (by kernel_rfl)) (eval_tmp (hf.2.2 (1, _) (by simp))) (hK _ _ (rs_of rfl rfl) hc (Below.refl _ _))
theorem props_ob2 (hsh : Shape T) : PropsOb w0 b t T c Q 2 := by
  intro o ho a w hc hf hd K hK
  rw [if_pos (wanted_none _ (get_op (·.guard) ho (by kernel_rfl)))]
  obtain ⟨v1, h1, e1⟩ := dep_of ho hd 0 5 (.val t.val) (by kernel_rfl) (by kernel_rfl) rfl
  obtain rfl : v1 = _ := e1
  obtain ⟨v2, h2, e2⟩ := dep_of ho hd 1 6 (.val (.int .i64 c)) (by kernel_rfl) (by kernel_rfl) rfl
  obtain rfl : v2 = _ := e2
  exact ob_enter (enter2 (tys := #[26, 3]) (get_op (·.op) ho (by kernel_rfl)) (eval_tmp h1) (eval_tmp h2) (fun args w => enters_of Tryd.func20 (by kernel_rfl) rfl args w)) (category_any t T c 0 1114111 w hc.1.2 hsh.c0.1 hsh.c0.2.1) fun e w' ⟨he, hb⟩ => ⟨_, he, hK _ _ (rs_of rfl rfl) ⟨hc.1.later hb, below_next hc.2 hb⟩ hb⟩
theorem props_ob3  : PropsOb w0 b t T c Q 3 := by
  intro o ho a w hc hf hd K hK
  rw [if_pos (wanted_none _ (get_op (·.guard) ho (by kernel_rfl)))]
  exact ob_value (load_tab hc.1 (get_op (·.op) ho (by kernel_rfl)) (eval_tmp (hf.2.2 (2, _) (by simp)))) (hK _ _ (rs_of rfl rfl) hc (Below.refl _ _))
theorem props_ob4  : PropsOb w0 b t T c Q 4 := by
  intro o ho a w hc hf hd K hK
  rw [if_pos (wanted_none _ (get_op (·.guard) ho (by kernel_rfl)))]
  exact ob_move (get_op (·.op) ho (by kernel_rfl)) (eval_tmp (hf.2.2 (1, _) (by simp))) (hK _ _ (rs_of rfl rfl) hc (Below.refl _ _))
theorem props_ob5 (hsh : Shape T) : PropsOb w0 b t T c Q 5 := by
  intro o ho a w hc hf hd K hK
  rw [if_pos (wanted_none _ (get_op (·.guard) ho (by kernel_rfl)))]
  obtain ⟨v1, h1, e1⟩ := dep_of ho hd 3 8 (.val t.val) (by kernel_rfl) (by kernel_rfl) rfl
  obtain rfl : v1 = _ := e1
  obtain ⟨v2, h2, e2⟩ := dep_of ho hd 4 9 (.val (.int .i64 c)) (by kernel_rfl) (by kernel_rfl) rfl
  obtain rfl : v2 = _ := e2
  exact ob_enter (enter2 (tys := #[26, 3]) (get_op (·.op) ho (by kernel_rfl)) (eval_tmp h1) (eval_tmp h2) (fun args w => enters_of Tryd.func65 (by kernel_rfl) rfl args w)) (refCategory_any t T c w hc.1.2 hsh.c0) fun e w' ⟨he, hb⟩ => ⟨_, he, hK _ _ (rs_of rfl rfl) ⟨hc.1.later hb, below_next hc.2 hb⟩ hb⟩
theorem props_ob6  : PropsOb w0 b t T c Q 6 := by
  intro o ho a w hc hf hd K hK
  rw [if_pos (wanted_none _ (get_op (·.guard) ho (by kernel_rfl)))]
  obtain ⟨v1, h1, e1⟩ := dep_of ho hd 2 7 (.val (.int .i64 (T.categoryOf c))) (by kernel_rfl) (by kernel_rfl) rfl
  obtain rfl : v1 = _ := e1
  obtain ⟨v2, h2, e2⟩ := dep_of ho hd 5 10 (.val (.int .i64 (T.categoryOf c))) (by kernel_rfl) (by kernel_rfl) rfl
  obtain rfl : v2 = _ := e2
  exact ob_value (eql_int (get_op (·.op) ho (by kernel_rfl)) (eval_tmp h1) (eval_tmp h2)) (hK _ _ (rs_of rfl (by show _ = _; simp)) hc (Below.refl _ _))
theorem props_ob7  : PropsOb w0 b t T c Q 7 := by
  intro o ho a w hc hf hd K hK
  rw [if_pos (wanted_none _ (get_op (·.guard) ho (by kernel_rfl)))]
  obtain ⟨v1, h1, e1⟩ := dep_of ho hd 6 11 (.val (.bool true)) (by kernel_rfl) (by kernel_rfl) rfl
  obtain rfl : v1 = _ := e1
  exact ob_move (get_op (·.op) ho (by kernel_rfl)) (eval_tmp h1) (hK _ _ (rs_of rfl rfl) hc (Below.refl _ _))
theorem props_ob8  : PropsOb w0 b t T c Q 8 := by
  intro o ho a w hc hf hd K hK
  obtain ⟨gv, hgv, hge⟩ := dep_of ho hd 7 12 (.val (.bool true)) (by kernel_rfl) (by kernel_rfl) rfl
  rw [if_pos (wanted_at (g := 7) (b := true) (d := 12) ho (by kernel_rfl) (by kernel_rfl) hgv hge)]
  exact ob_value (load_tab hc.1 (get_op (·.op) ho (by kernel_rfl)) (eval_tmp (hf.2.2 (2, _) (by simp)))) (hK _ _ (rs_of rfl rfl) hc (Below.refl _ _))
theorem props_ob9  : PropsOb w0 b t T c Q 9 := by
  intro o ho a w hc hf hd K hK
  obtain ⟨gv, hgv, hge⟩ := dep_of ho hd 7 12 (.val (.bool true)) (by kernel_rfl) (by kernel_rfl) rfl
  rw [if_pos (wanted_at (g := 7) (b := true) (d := 12) ho (by kernel_rfl) (by kernel_rfl) hgv hge)]
  exact ob_move (get_op (·.op) ho (by kernel_rfl)) (eval_tmp (hf.2.2 (1, _) (by simp))) (hK _ _ (rs_of rfl rfl) hc (Below.refl _ _))
theorem props_ob10 (hsh : Shape T) : PropsOb w0 b t T c Q 10 := by
  intro o ho a w hc hf hd K hK
  obtain ⟨gv, hgv, hge⟩ := dep_of ho hd 7 12 (.val (.bool true)) (by kernel_rfl) (by kernel_rfl) rfl
  rw [if_pos (wanted_at (g := 7) (b := true) (d := 12) ho (by kernel_rfl) (by kernel_rfl) hgv hge)]
  obtain ⟨v1, h1, e1⟩ := dep_of ho hd 8 13 (.val t.val) (by kernel_rfl) (by kernel_rfl) rfl
  obtain rfl : v1 = _ := e1
  obtain ⟨v2, h2, e2⟩ := dep_of ho hd 9 14 (.val (.int .i64 c)) (by kernel_rfl) (by kernel_rfl) rfl
  obtain rfl : v2 = _ := e2
  exact ob_enter (enter2 (tys := #[26, 3]) (get_op (·.op) ho (by kernel_rfl)) (eval_tmp h1) (eval_tmp h2) (fun args w => enters_of Tryd.func21 (by kernel_rfl) rfl args w)) (class_any t T c 0 1114111 w hc.1.2 hsh.c1.1 hsh.c1.2.1) fun e w' ⟨he, hb⟩ => ⟨_, he, hK _ _ (rs_of rfl rfl) ⟨hc.1.later hb, below_next hc.2 hb⟩ hb⟩
theorem props_ob11  : PropsOb w0 b t T c Q 11 := by
  intro o ho a w hc hf hd K hK
  obtain ⟨gv, hgv, hge⟩ := dep_of ho hd 7 12 (.val (.bool true)) (by kernel_rfl) (by kernel_rfl) rfl
  rw [if_pos (wanted_at (g := 7) (b := true) (d := 12) ho (by kernel_rfl) (by kernel_rfl) hgv hge)]
  exact ob_value (load_tab hc.1 (get_op (·.op) ho (by kernel_rfl)) (eval_tmp (hf.2.2 (2, _) (by simp)))) (hK _ _ (rs_of rfl rfl) hc (Below.refl _ _))
theorem props_ob12  : PropsOb w0 b t T c Q 12 := by
  intro o ho a w hc hf hd K hK
  obtain ⟨gv, hgv, hge⟩ := dep_of ho hd 7 12 (.val (.bool true)) (by kernel_rfl) (by kernel_rfl) rfl
  rw [if_pos (wanted_at (g := 7) (b := true) (d := 12) ho (by kernel_rfl) (by kernel_rfl) hgv hge)]
  exact ob_move (get_op (·.op) ho (by kernel_rfl)) (eval_tmp (hf.2.2 (1, _) (by simp))) (hK _ _ (rs_of rfl rfl) hc (Below.refl _ _))
theorem props_ob13  : PropsOb w0 b t T c Q 13 := by
  intro o ho a w hc hf hd K hK
  obtain ⟨gv, hgv, hge⟩ := dep_of ho hd 7 12 (.val (.bool true)) (by kernel_rfl) (by kernel_rfl) rfl
  rw [if_pos (wanted_at (g := 7) (b := true) (d := 12) ho (by kernel_rfl) (by kernel_rfl) hgv hge)]
  obtain ⟨v1, h1, e1⟩ := dep_of ho hd 11 16 (.val t.val) (by kernel_rfl) (by kernel_rfl) rfl
  obtain rfl : v1 = _ := e1
  obtain ⟨v2, h2, e2⟩ := dep_of ho hd 12 17 (.val (.int .i64 c)) (by kernel_rfl) (by kernel_rfl) rfl
  obtain rfl : v2 = _ := e2
  exact ob_enter (enter2 (tys := #[26, 3]) (get_op (·.op) ho (by kernel_rfl)) (eval_tmp h1) (eval_tmp h2) (fun args w => enters_of Tryd.func66 (by kernel_rfl) rfl args w)) (refClass_any t T c w hc.1.2) fun e w' ⟨he, hb⟩ => ⟨_, he, hK _ _ (rs_of rfl rfl) ⟨hc.1.later hb, below_next hc.2 hb⟩ hb⟩
theorem props_ob14  : PropsOb w0 b t T c Q 14 := by
  intro o ho a w hc hf hd K hK
  obtain ⟨gv, hgv, hge⟩ := dep_of ho hd 7 12 (.val (.bool true)) (by kernel_rfl) (by kernel_rfl) rfl
  rw [if_pos (wanted_at (g := 7) (b := true) (d := 12) ho (by kernel_rfl) (by kernel_rfl) hgv hge)]
  obtain ⟨v1, h1, e1⟩ := dep_of ho hd 10 15 (.val (.int .i64 (T.classOf c))) (by kernel_rfl) (by kernel_rfl) rfl
  obtain rfl : v1 = _ := e1
  obtain ⟨v2, h2, e2⟩ := dep_of ho hd 13 18 (.val (.int .i64 (T.classOf c))) (by kernel_rfl) (by kernel_rfl) rfl
  obtain rfl : v2 = _ := e2
  exact ob_value (eql_int (get_op (·.op) ho (by kernel_rfl)) (eval_tmp h1) (eval_tmp h2)) (hK _ _ (rs_of rfl (by show _ = _; simp)) hc (Below.refl _ _))
theorem props_ob15  : PropsOb w0 b t T c Q 15 := by
  intro o ho a w hc hf hd K hK
  rw [if_pos (wanted_none _ (get_op (·.guard) ho (by kernel_rfl)))]
  obtain ⟨v1, h1, e1⟩ := dep_of ho hd 7 12 (.val (.bool true)) (by kernel_rfl) (by kernel_rfl) rfl
  obtain rfl : v1 = _ := e1
  obtain ⟨v2, h2, e2⟩ := dep_of ho hd 14 19 (.val (.bool true)) (by kernel_rfl) (by kernel_rfl) rfl
  obtain rfl : v2 = _ := e2
  exact ob_pick (b := true) (x := .tmp 19) (y := .const (.bool false)) (get_op (·.op) ho (by kernel_rfl)) (eval_tmp h1) (eval_tmp h2) (hK _ _ (rs_of rfl rfl) hc (Below.refl _ _))
theorem props_ob16  : PropsOb w0 b t T c Q 16 := by
  intro o ho a w hc hf hd K hK
  rw [if_pos (wanted_none _ (get_op (·.guard) ho (by kernel_rfl)))]
  obtain ⟨v1, h1, e1⟩ := dep_of ho hd 15 20 (.val (.bool true)) (by kernel_rfl) (by kernel_rfl) rfl
  obtain rfl : v1 = _ := e1
  exact ob_move (get_op (·.op) ho (by kernel_rfl)) (eval_tmp h1) (hK _ _ (rs_of rfl rfl) hc (Below.refl _ _))
theorem props_ob17  : PropsOb w0 b t T c Q 17 := by
  intro o ho a w hc hf hd K hK
  obtain ⟨gv, hgv, hge⟩ := dep_of ho hd 16 21 (.val (.bool true)) (by kernel_rfl) (by kernel_rfl) rfl
  rw [if_pos (wanted_at (g := 16) (b := true) (d := 21) ho (by kernel_rfl) (by kernel_rfl) hgv hge)]
  exact ob_value (load_tab hc.1 (get_op (·.op) ho (by kernel_rfl)) (eval_tmp (hf.2.2 (2, _) (by simp)))) (hK _ _ (rs_of rfl rfl) hc (Below.refl _ _))
theorem props_ob18  : PropsOb w0 b t T c Q 18 := by
  intro o ho a w hc hf hd K hK
  obtain ⟨gv, hgv, hge⟩ := dep_of ho hd 16 21 (.val (.bool true)) (by kernel_rfl) (by kernel_rfl) rfl
  rw [if_pos (wanted_at (g := 16) (b := true) (d := 21) ho (by kernel_rfl) (by kernel_rfl) hgv hge)]
  exact ob_move (get_op (·.op) ho (by kernel_rfl)) (eval_tmp (hf.2.2 (1, _) (by simp))) (hK _ _ (rs_of rfl rfl) hc (Below.refl _ _))
theorem props_ob19 (hsh : Shape T) : PropsOb w0 b t T c Q 19 := by
  intro o ho a w hc hf hd K hK
  obtain ⟨gv, hgv, hge⟩ := dep_of ho hd 16 21 (.val (.bool true)) (by kernel_rfl) (by kernel_rfl) rfl
  rw [if_pos (wanted_at (g := 16) (b := true) (d := 21) ho (by kernel_rfl) (by kernel_rfl) hgv hge)]
  obtain ⟨v1, h1, e1⟩ := dep_of ho hd 17 22 (.val t.val) (by kernel_rfl) (by kernel_rfl) rfl
  obtain rfl : v1 = _ := e1
  obtain ⟨v2, h2, e2⟩ := dep_of ho hd 18 23 (.val (.int .i64 c)) (by kernel_rfl) (by kernel_rfl) rfl
  obtain rfl : v2 = _ := e2
  exact ob_enter (enter2 (tys := #[26, 3]) (get_op (·.op) ho (by kernel_rfl)) (eval_tmp h1) (eval_tmp h2) (fun args w => enters_of Tryd.func22 (by kernel_rfl) rfl args w)) (joining_any t T c 0 1114111 w hc.1.2 hsh.c2.1 hsh.c2.2.1) fun e w' ⟨he, hb⟩ => ⟨_, he, hK _ _ (rs_of rfl rfl) ⟨hc.1.later hb, below_next hc.2 hb⟩ hb⟩
theorem props_ob20  : PropsOb w0 b t T c Q 20 := by
  intro o ho a w hc hf hd K hK
  obtain ⟨gv, hgv, hge⟩ := dep_of ho hd 16 21 (.val (.bool true)) (by kernel_rfl) (by kernel_rfl) rfl
  rw [if_pos (wanted_at (g := 16) (b := true) (d := 21) ho (by kernel_rfl) (by kernel_rfl) hgv hge)]
  exact ob_value (load_tab hc.1 (get_op (·.op) ho (by kernel_rfl)) (eval_tmp (hf.2.2 (2, _) (by simp)))) (hK _ _ (rs_of rfl rfl) hc (Below.refl _ _))
theorem props_ob21  : PropsOb w0 b t T c Q 21 := by
  intro o ho a w hc hf hd K hK
  obtain ⟨gv, hgv, hge⟩ := dep_of ho hd 16 21 (.val (.bool true)) (by kernel_rfl) (by kernel_rfl) rfl
  rw [if_pos (wanted_at (g := 16) (b := true) (d := 21) ho (by kernel_rfl) (by kernel_rfl) hgv hge)]
  exact ob_move (get_op (·.op) ho (by kernel_rfl)) (eval_tmp (hf.2.2 (1, _) (by simp))) (hK _ _ (rs_of rfl rfl) hc (Below.refl _ _))
theorem props_ob22  : PropsOb w0 b t T c Q 22 := by
  intro o ho a w hc hf hd K hK
  obtain ⟨gv, hgv, hge⟩ := dep_of ho hd 16 21 (.val (.bool true)) (by kernel_rfl) (by kernel_rfl) rfl
  rw [if_pos (wanted_at (g := 16) (b := true) (d := 21) ho (by kernel_rfl) (by kernel_rfl) hgv hge)]
  obtain ⟨v1, h1, e1⟩ := dep_of ho hd 20 25 (.val t.val) (by kernel_rfl) (by kernel_rfl) rfl
  obtain rfl : v1 = _ := e1
  obtain ⟨v2, h2, e2⟩ := dep_of ho hd 21 26 (.val (.int .i64 c)) (by kernel_rfl) (by kernel_rfl) rfl
  obtain rfl : v2 = _ := e2
  exact ob_enter (enter2 (tys := #[26, 3]) (get_op (·.op) ho (by kernel_rfl)) (eval_tmp h1) (eval_tmp h2) (fun args w => enters_of Tryd.func67 (by kernel_rfl) rfl args w)) (refJoining_any t T c w hc.1.2) fun e w' ⟨he, hb⟩ => ⟨_, he, hK _ _ (rs_of rfl rfl) ⟨hc.1.later hb, below_next hc.2 hb⟩ hb⟩
theorem props_ob23  : PropsOb w0 b t T c Q 23 := by
  intro o ho a w hc hf hd K hK
  obtain ⟨gv, hgv, hge⟩ := dep_of ho hd 16 21 (.val (.bool true)) (by kernel_rfl) (by kernel_rfl) rfl
  rw [if_pos (wanted_at (g := 16) (b := true) (d := 21) ho (by kernel_rfl) (by kernel_rfl) hgv hge)]
  obtain ⟨v1, h1, e1⟩ := dep_of ho hd 19 24 (.val (.int .i64 (T.joiningOf c))) (by kernel_rfl) (by kernel_rfl) rfl
  obtain rfl : v1 = _ := e1
  obtain ⟨v2, h2, e2⟩ := dep_of ho hd 22 27 (.val (.int .i64 (T.joiningOf c))) (by kernel_rfl) (by kernel_rfl) rfl
  obtain rfl : v2 = _ := e2
  exact ob_value (eql_int (get_op (·.op) ho (by kernel_rfl)) (eval_tmp h1) (eval_tmp h2)) (hK _ _ (rs_of rfl (by show _ = _; simp)) hc (Below.refl _ _))
theorem props_ob24  : PropsOb w0 b t T c Q 24 := by
  intro o ho a w hc hf hd K hK
  rw [if_pos (wanted_none _ (get_op (·.guard) ho (by kernel_rfl)))]
  obtain ⟨v1, h1, e1⟩ := dep_of ho hd 16 21 (.val (.bool true)) (by kernel_rfl) (by kernel_rfl) rfl
  obtain rfl : v1 = _ := e1
  obtain ⟨v2, h2, e2⟩ := dep_of ho hd 23 28 (.val (.bool true)) (by kernel_rfl) (by kernel_rfl) rfl
  obtain rfl : v2 = _ := e2
  exact ob_pick (b := true) (x := .tmp 28) (y := .const (.bool false)) (get_op (·.op) ho (by kernel_rfl)) (eval_tmp h1) (eval_tmp h2) (hK _ _ (rs_of rfl rfl) hc (Below.refl _ _))
theorem props_ob25  : PropsOb w0 b t T c Q 25 := by
  intro o ho a w hc hf hd K hK
  rw [if_pos (wanted_none _ (get_op (·.guard) ho (by kernel_rfl)))]
  obtain ⟨v1, h1, e1⟩ := dep_of ho hd 24 29 (.val (.bool true)) (by kernel_rfl) (by kernel_rfl) rfl
  obtain rfl : v1 = _ := e1
  exact ob_move (get_op (·.op) ho (by kernel_rfl)) (eval_tmp h1) (hK _ _ (rs_of rfl rfl) hc (Below.refl _ _))
theorem props_ob26  : PropsOb w0 b t T c Q 26 := by
  intro o ho a w hc hf hd K hK
  obtain ⟨gv, hgv, hge⟩ := dep_of ho hd 25 30 (.val (.bool true)) (by kernel_rfl) (by kernel_rfl) rfl
  rw [if_pos (wanted_at (g := 25) (b := true) (d := 30) ho (by kernel_rfl) (by kernel_rfl) hgv hge)]
  exact ob_value (load_tab hc.1 (get_op (·.op) ho (by kernel_rfl)) (eval_tmp (hf.2.2 (2, _) (by simp)))) (hK _ _ (rs_of rfl rfl) hc (Below.refl _ _))
theorem props_ob27  : PropsOb w0 b t T c Q 27 := by
  intro o ho a w hc hf hd K hK
  obtain ⟨gv, hgv, hge⟩ := dep_of ho hd 25 30 (.val (.bool true)) (by kernel_rfl) (by kernel_rfl) rfl
  rw [if_pos (wanted_at (g := 25) (b := true) (d := 30) ho (by kernel_rfl) (by kernel_rfl) hgv hge)]
  exact ob_move (get_op (·.op) ho (by kernel_rfl)) (eval_tmp (hf.2.2 (1, _) (by simp))) (hK _ _ (rs_of rfl rfl) hc (Below.refl _ _))
theorem props_ob28 (hsh : Shape T) : PropsOb w0 b t T c Q 28 := by
  intro o ho a w hc hf hd K hK
  obtain ⟨gv, hgv, hge⟩ := dep_of ho hd 25 30 (.val (.bool true)) (by kernel_rfl) (by kernel_rfl) rfl
  rw [if_pos (wanted_at (g := 25) (b := true) (d := 30) ho (by kernel_rfl) (by kernel_rfl) hgv hge)]
  obtain ⟨v1, h1, e1⟩ := dep_of ho hd 26 31 (.val t.val) (by kernel_rfl) (by kernel_rfl) rfl
  obtain rfl : v1 = _ := e1
  obtain ⟨v2, h2, e2⟩ := dep_of ho hd 27 32 (.val (.int .i64 c)) (by kernel_rfl) (by kernel_rfl) rfl
  obtain rfl : v2 = _ := e2
  exact ob_enter (enter2 (tys := #[26, 3]) (get_op (·.op) ho (by kernel_rfl)) (eval_tmp h1) (eval_tmp h2) (fun args w => enters_of Tryd.func23 (by kernel_rfl) rfl args w)) (bidi_any t T c 0 1114111 w hc.1.2 hsh.c3.1 hsh.c3.2.1) fun e w' ⟨he, hb⟩ => ⟨_, he, hK _ _ (rs_of rfl rfl) ⟨hc.1.later hb, below_next hc.2 hb⟩ hb⟩
theorem props_ob29  : PropsOb w0 b t T c Q 29 := by
  intro o ho a w hc hf hd K hK
  obtain ⟨gv, hgv, hge⟩ := dep_of ho hd 25 30 (.val (.bool true)) (by kernel_rfl) (by kernel_rfl) rfl
  rw [if_pos (wanted_at (g := 25) (b := true) (d := 30) ho (by kernel_rfl) (by kernel_rfl) hgv hge)]
  exact ob_value (load_tab hc.1 (get_op (·.op) ho (by kernel_rfl)) (eval_tmp (hf.2.2 (2, _) (by simp)))) (hK _ _ (rs_of rfl rfl) hc (Below.refl _ _))
theorem props_ob30  : PropsOb w0 b t T c Q 30 := by
  intro o ho a w hc hf hd K hK
  obtain ⟨gv, hgv, hge⟩ := dep_of ho hd 25 30 (.val (.bool true)) (by kernel_rfl) (by kernel_rfl) rfl
  rw [if_pos (wanted_at (g := 25) (b := true) (d := 30) ho (by kernel_rfl) (by kernel_rfl) hgv hge)]
  exact ob_move (get_op (·.op) ho (by kernel_rfl)) (eval_tmp (hf.2.2 (1, _) (by simp))) (hK _ _ (rs_of rfl rfl) hc (Below.refl _ _))
theorem props_ob31 (hsh : Shape T) : PropsOb w0 b t T c Q 31 := by
  intro o ho a w hc hf hd K hK
  obtain ⟨gv, hgv, hge⟩ := dep_of ho hd 25 30 (.val (.bool true)) (by kernel_rfl) (by kernel_rfl) rfl
  rw [if_pos (wanted_at (g := 25) (b := true) (d := 30) ho (by kernel_rfl) (by kernel_rfl) hgv hge)]
  obtain ⟨v1, h1, e1⟩ := dep_of ho hd 29 34 (.val t.val) (by kernel_rfl) (by kernel_rfl) rfl
  obtain rfl : v1 = _ := e1
  obtain ⟨v2, h2, e2⟩ := dep_of ho hd 30 35 (.val (.int .i64 c)) (by kernel_rfl) (by kernel_rfl) rfl
  obtain rfl : v2 = _ := e2
  exact ob_enter (enter2 (tys := #[26, 3]) (get_op (·.op) ho (by kernel_rfl)) (eval_tmp h1) (eval_tmp h2) (fun args w => enters_of Tryd.func68 (by kernel_rfl) rfl args w)) (refBidi_any t T c w hc.1.2 hsh.c3) fun e w' ⟨he, hb⟩ => ⟨_, he, hK _ _ (rs_of rfl rfl) ⟨hc.1.later hb, below_next hc.2 hb⟩ hb⟩
theorem props_ob32  : PropsOb w0 b t T c Q 32 := by
  intro o ho a w hc hf hd K hK
  obtain ⟨gv, hgv, hge⟩ := dep_of ho hd 25 30 (.val (.bool true)) (by kernel_rfl) (by kernel_rfl) rfl
  rw [if_pos (wanted_at (g := 25) (b := true) (d := 30) ho (by kernel_rfl) (by kernel_rfl) hgv hge)]
  obtain ⟨v1, h1, e1⟩ := dep_of ho hd 28 33 (.val (.int .i64 (T.bidiOf c))) (by kernel_rfl) (by kernel_rfl) rfl
  obtain rfl : v1 = _ := e1
  obtain ⟨v2, h2, e2⟩ := dep_of ho hd 31 36 (.val (.int .i64 (T.bidiOf c))) (by kernel_rfl) (by kernel_rfl) rfl
  obtain rfl : v2 = _ := e2
  exact ob_value (eql_int (get_op (·.op) ho (by kernel_rfl)) (eval_tmp h1) (eval_tmp h2)) (hK _ _ (rs_of rfl (by show _ = _; simp)) hc (Below.refl _ _))
theorem props_ob33  : PropsOb w0 b t T c Q 33 := by
  intro o ho a w hc hf hd K hK
  rw [if_pos (wanted_none _ (get_op (·.guard) ho (by kernel_rfl)))]
  obtain ⟨v1, h1, e1⟩ := dep_of ho hd 25 30 (.val (.bool true)) (by kernel_rfl) (by kernel_rfl) rfl
  obtain rfl : v1 = _ := e1
  obtain ⟨v2, h2, e2⟩ := dep_of ho hd 32 37 (.val (.bool true)) (by kernel_rfl) (by kernel_rfl) rfl
  obtain rfl : v2 = _ := e2
  exact ob_pick (b := true) (x := .tmp 37) (y := .const (.bool false)) (get_op (·.op) ho (by kernel_rfl)) (eval_tmp h1) (eval_tmp h2) (hK _ _ (rs_of rfl rfl) hc (Below.refl _ _))
theorem props_ob34  : PropsOb w0 b t T c Q 34 := by
  intro o ho a w hc hf hd K hK
  rw [if_pos (wanted_none _ (get_op (·.guard) ho (by kernel_rfl)))]
  obtain ⟨v1, h1, e1⟩ := dep_of ho hd 33 38 (.val (.bool true)) (by kernel_rfl) (by kernel_rfl) rfl
  obtain rfl : v1 = _ := e1
  exact ob_move (get_op (·.op) ho (by kernel_rfl)) (eval_tmp h1) (hK _ _ (rs_of rfl rfl) hc (Below.refl _ _))
theorem props_ob35  : PropsOb w0 b t T c Q 35 := by
  intro o ho a w hc hf hd K hK
  obtain ⟨gv, hgv, hge⟩ := dep_of ho hd 34 39 (.val (.bool true)) (by kernel_rfl) (by kernel_rfl) rfl
  rw [if_pos (wanted_at (g := 34) (b := true) (d := 39) ho (by kernel_rfl) (by kernel_rfl) hgv hge)]
  exact ob_value (load_tab hc.1 (get_op (·.op) ho (by kernel_rfl)) (eval_tmp (hf.2.2 (2, _) (by simp)))) (hK _ _ (rs_of rfl rfl) hc (Below.refl _ _))
theorem props_ob36  : PropsOb w0 b t T c Q 36 := by
  intro o ho a w hc hf hd K hK
  obtain ⟨gv, hgv, hge⟩ := dep_of ho hd 34 39 (.val (.bool true)) (by kernel_rfl) (by kernel_rfl) rfl
  rw [if_pos (wanted_at (g := 34) (b := true) (d := 39) ho (by kernel_rfl) (by kernel_rfl) hgv hge)]
  exact ob_move (get_op (·.op) ho (by kernel_rfl)) (eval_tmp (hf.2.2 (1, _) (by simp))) (hK _ _ (rs_of rfl rfl) hc (Below.refl _ _))
theorem props_ob37 (hsh : Shape T) : PropsOb w0 b t T c Q 37 := by
  intro o ho a w hc hf hd K hK
  obtain ⟨gv, hgv, hge⟩ := dep_of ho hd 34 39 (.val (.bool true)) (by kernel_rfl) (by kernel_rfl) rfl
  rw [if_pos (wanted_at (g := 34) (b := true) (d := 39) ho (by kernel_rfl) (by kernel_rfl) hgv hge)]
  obtain ⟨v1, h1, e1⟩ := dep_of ho hd 35 40 (.val t.val) (by kernel_rfl) (by kernel_rfl) rfl
  obtain rfl : v1 = _ := e1
  obtain ⟨v2, h2, e2⟩ := dep_of ho hd 36 41 (.val (.int .i64 c)) (by kernel_rfl) (by kernel_rfl) rfl
  obtain rfl : v2 = _ := e2
  exact ob_enter (enter2 (tys := #[26, 3]) (get_op (·.op) ho (by kernel_rfl)) (eval_tmp h1) (eval_tmp h2) (fun args w => enters_of Tryd.func24 (by kernel_rfl) rfl args w)) (script_any t T c 0 1114111 w hc.1.2 hsh.c4.1 hsh.c4.2.1) fun e w' ⟨he, hb⟩ => ⟨_, he, hK _ _ (rs_of rfl rfl) ⟨hc.1.later hb, below_next hc.2 hb⟩ hb⟩
theorem props_ob38  : PropsOb w0 b t T c Q 38 := by
  intro o ho a w hc hf hd K hK
  obtain ⟨gv, hgv, hge⟩ := dep_of ho hd 34 39 (.val (.bool true)) (by kernel_rfl) (by kernel_rfl) rfl
  rw [if_pos (wanted_at (g := 34) (b := true) (d := 39) ho (by kernel_rfl) (by kernel_rfl) hgv hge)]
  exact ob_value (load_tab hc.1 (get_op (·.op) ho (by kernel_rfl)) (eval_tmp (hf.2.2 (2, _) (by simp)))) (hK _ _ (rs_of rfl rfl) hc (Below.refl _ _))
theorem props_ob39  : PropsOb w0 b t T c Q 39 := by
  intro o ho a w hc hf hd K hK
  obtain ⟨gv, hgv, hge⟩ := dep_of ho hd 34 39 (.val (.bool true)) (by kernel_rfl) (by kernel_rfl) rfl
  rw [if_pos (wanted_at (g := 34) (b := true) (d := 39) ho (by kernel_rfl) (by kernel_rfl) hgv hge)]
  exact ob_move (get_op (·.op) ho (by kernel_rfl)) (eval_tmp (hf.2.2 (1, _) (by simp))) (hK _ _ (rs_of rfl rfl) hc (Below.refl _ _))
theorem props_ob40 (hsh : Shape T) : PropsOb w0 b t T c Q 40 := by
  intro o ho a w hc hf hd K hK
  obtain ⟨gv, hgv, hge⟩ := dep_of ho hd 34 39 (.val (.bool true)) (by kernel_rfl) (by kernel_rfl) rfl
  rw [if_pos (wanted_at (g := 34) (b := true) (d := 39) ho (by kernel_rfl) (by kernel_rfl) hgv hge)]
  obtain ⟨v1, h1, e1⟩ := dep_of ho hd 38 43 (.val t.val) (by kernel_rfl) (by kernel_rfl) rfl
  obtain rfl : v1 = _ := e1
  obtain ⟨v2, h2, e2⟩ := dep_of ho hd 39 44 (.val (.int .i64 c)) (by kernel_rfl) (by kernel_rfl) rfl
  obtain rfl : v2 = _ := e2
  exact ob_enter (enter2 (tys := #[26, 3]) (get_op (·.op) ho (by kernel_rfl)) (eval_tmp h1) (eval_tmp h2) (fun args w => enters_of Tryd.func69 (by kernel_rfl) rfl args w)) (refScript_any t T c w hc.1.2 hsh.c4) fun e w' ⟨he, hb⟩ => ⟨_, he, hK _ _ (rs_of rfl rfl) ⟨hc.1.later hb, below_next hc.2 hb⟩ hb⟩
theorem props_ob41  : PropsOb w0 b t T c Q 41 := by
  intro o ho a w hc hf hd K hK
  obtain ⟨gv, hgv, hge⟩ := dep_of ho hd 34 39 (.val (.bool true)) (by kernel_rfl) (by kernel_rfl) rfl
  rw [if_pos (wanted_at (g := 34) (b := true) (d := 39) ho (by kernel_rfl) (by kernel_rfl) hgv hge)]
  obtain ⟨v1, h1, e1⟩ := dep_of ho hd 37 42 (.val (.int .i64 (T.scriptOf c))) (by kernel_rfl) (by kernel_rfl) rfl
  obtain rfl : v1 = _ := e1
  obtain ⟨v2, h2, e2⟩ := dep_of ho hd 40 45 (.val (.int .i64 (T.scriptOf c))) (by kernel_rfl) (by kernel_rfl) rfl
  obtain rfl : v2 = _ := e2
  exact ob_value (eql_int (get_op (·.op) ho (by kernel_rfl)) (eval_tmp h1) (eval_tmp h2)) (hK _ _ (rs_of rfl (by show _ = _; simp)) hc (Below.refl _ _))
theorem props_ob42  : PropsOb w0 b t T c Q 42 := by
  intro o ho a w hc hf hd K hK
  rw [if_pos (wanted_none _ (get_op (·.guard) ho (by kernel_rfl)))]
  obtain ⟨v1, h1, e1⟩ := dep_of ho hd 34 39 (.val (.bool true)) (by kernel_rfl) (by kernel_rfl) rfl
  obtain rfl : v1 = _ := e1
  obtain ⟨v2, h2, e2⟩ := dep_of ho hd 41 46 (.val (.bool true)) (by kernel_rfl) (by kernel_rfl) rfl
  obtain rfl : v2 = _ := e2
  exact ob_pick (b := true) (x := .tmp 46) (y := .const (.bool false)) (get_op (·.op) ho (by kernel_rfl)) (eval_tmp h1) (eval_tmp h2) (hK _ _ (rs_of rfl rfl) hc (Below.refl _ _))
theorem props_ob43  : PropsOb w0 b t T c Q 43 := by
  intro o ho a w hc hf hd K hK
  rw [if_pos (wanted_none _ (get_op (·.guard) ho (by kernel_rfl)))]
  obtain ⟨v1, h1, e1⟩ := dep_of ho hd 42 47 (.val (.bool true)) (by kernel_rfl) (by kernel_rfl) rfl
  obtain rfl : v1 = _ := e1
  exact ob_move (get_op (·.op) ho (by kernel_rfl)) (eval_tmp h1) (hK _ _ (rs_of rfl rfl) hc (Below.refl _ _))
theorem props_ob44  : PropsOb w0 b t T c Q 44 := by
  intro o ho a w hc hf hd K hK
  obtain ⟨gv, hgv, hge⟩ := dep_of ho hd 43 48 (.val (.bool true)) (by kernel_rfl) (by kernel_rfl) rfl
  rw [if_pos (wanted_at (g := 43) (b := true) (d := 48) ho (by kernel_rfl) (by kernel_rfl) hgv hge)]
  exact ob_value (load_tab hc.1 (get_op (·.op) ho (by kernel_rfl)) (eval_tmp (hf.2.2 (2, _) (by simp)))) (hK _ _ (rs_of rfl rfl) hc (Below.refl _ _))
theorem props_ob45  : PropsOb w0 b t T c Q 45 := by
  intro o ho a w hc hf hd K hK
  obtain ⟨gv, hgv, hge⟩ := dep_of ho hd 43 48 (.val (.bool true)) (by kernel_rfl) (by kernel_rfl) rfl
  rw [if_pos (wanted_at (g := 43) (b := true) (d := 48) ho (by kernel_rfl) (by kernel_rfl) hgv hge)]
  exact ob_move (get_op (·.op) ho (by kernel_rfl)) (eval_tmp (hf.2.2 (1, _) (by simp))) (hK _ _ (rs_of rfl rfl) hc (Below.refl _ _))
theorem props_ob46 (hsh : Shape T) : PropsOb w0 b t T c Q 46 := by
  intro o ho a w hc hf hd K hK
  obtain ⟨gv, hgv, hge⟩ := dep_of ho hd 43 48 (.val (.bool true)) (by kernel_rfl) (by kernel_rfl) rfl
  rw [if_pos (wanted_at (g := 43) (b := true) (d := 48) ho (by kernel_rfl) (by kernel_rfl) hgv hge)]
  obtain ⟨v1, h1, e1⟩ := dep_of ho hd 44 49 (.val t.val) (by kernel_rfl) (by kernel_rfl) rfl
  obtain rfl : v1 = _ := e1
  obtain ⟨v2, h2, e2⟩ := dep_of ho hd 45 50 (.val (.int .i64 c)) (by kernel_rfl) (by kernel_rfl) rfl
  obtain rfl : v2 = _ := e2
  exact ob_enter (enter2 (tys := #[26, 3]) (get_op (·.op) ho (by kernel_rfl)) (eval_tmp h1) (eval_tmp h2) (fun args w => enters_of Tryd.func18 (by kernel_rfl) rfl args w)) (status_any t T c 0 1114111 w hc.1.2 hsh.c5.1 hsh.c5.2.1) fun e w' ⟨he, hb⟩ => ⟨_, he, hK _ _ (rs_of rfl rfl) ⟨hc.1.later hb, below_next hc.2 hb⟩ hb⟩
theorem props_ob47  : PropsOb w0 b t T c Q 47 := by
  intro o ho a w hc hf hd K hK
  obtain ⟨gv, hgv, hge⟩ := dep_of ho hd 43 48 (.val (.bool true)) (by kernel_rfl) (by kernel_rfl) rfl
  rw [if_pos (wanted_at (g := 43) (b := true) (d := 48) ho (by kernel_rfl) (by kernel_rfl) hgv hge)]
  exact ob_value (load_tab hc.1 (get_op (·.op) ho (by kernel_rfl)) (eval_tmp (hf.2.2 (2, _) (by simp)))) (hK _ _ (rs_of rfl rfl) hc (Below.refl _ _))
theorem props_ob48  : PropsOb w0 b t T c Q 48 := by
  intro o ho a w hc hf hd K hK
  obtain ⟨gv, hgv, hge⟩ := dep_of ho hd 43 48 (.val (.bool true)) (by kernel_rfl) (by kernel_rfl) rfl
  rw [if_pos (wanted_at (g := 43) (b := true) (d := 48) ho (by kernel_rfl) (by kernel_rfl) hgv hge)]
  exact ob_move (get_op (·.op) ho (by kernel_rfl)) (eval_tmp (hf.2.2 (1, _) (by simp))) (hK _ _ (rs_of rfl rfl) hc (Below.refl _ _))
theorem props_ob49 (hsh : Shape T) : PropsOb w0 b t T c Q 49 := by
  intro o ho a w hc hf hd K hK
  obtain ⟨gv, hgv, hge⟩ := dep_of ho hd 43 48 (.val (.bool true)) (by kernel_rfl) (by kernel_rfl) rfl
  rw [if_pos (wanted_at (g := 43) (b := true) (d := 48) ho (by kernel_rfl) (by kernel_rfl) hgv hge)]
  obtain ⟨v1, h1, e1⟩ := dep_of ho hd 47 52 (.val t.val) (by kernel_rfl) (by kernel_rfl) rfl
  obtain rfl : v1 = _ := e1
  obtain ⟨v2, h2, e2⟩ := dep_of ho hd 48 53 (.val (.int .i64 c)) (by kernel_rfl) (by kernel_rfl) rfl
  obtain rfl : v2 = _ := e2
  exact ob_enter (enter2 (tys := #[26, 3]) (get_op (·.op) ho (by kernel_rfl)) (eval_tmp h1) (eval_tmp h2) (fun args w => enters_of Tryd.func70 (by kernel_rfl) rfl args w)) (refStatus_any t T c w hc.1.2 hsh.c5) fun e w' ⟨he, hb⟩ => ⟨_, he, hK _ _ (rs_of rfl rfl) ⟨hc.1.later hb, below_next hc.2 hb⟩ hb⟩
theorem props_ob50  : PropsOb w0 b t T c Q 50 := by
  intro o ho a w hc hf hd K hK
  obtain ⟨gv, hgv, hge⟩ := dep_of ho hd 43 48 (.val (.bool true)) (by kernel_rfl) (by kernel_rfl) rfl
  rw [if_pos (wanted_at (g := 43) (b := true) (d := 48) ho (by kernel_rfl) (by kernel_rfl) hgv hge)]
  obtain ⟨v1, h1, e1⟩ := dep_of ho hd 46 51 (.val (.int .i64 (T.statusOf c))) (by kernel_rfl) (by kernel_rfl) rfl
  obtain rfl : v1 = _ := e1
  obtain ⟨v2, h2, e2⟩ := dep_of ho hd 49 54 (.val (.int .i64 (T.statusOf c))) (by kernel_rfl) (by kernel_rfl) rfl
  obtain rfl : v2 = _ := e2
  exact ob_value (eql_int (get_op (·.op) ho (by kernel_rfl)) (eval_tmp h1) (eval_tmp h2)) (hK _ _ (rs_of rfl (by show _ = _; simp)) hc (Below.refl _ _))
theorem props_ob51  : PropsOb w0 b t T c Q 51 := by
  intro o ho a w hc hf hd K hK
  rw [if_pos (wanted_none _ (get_op (·.guard) ho (by kernel_rfl)))]
  obtain ⟨v1, h1, e1⟩ := dep_of ho hd 43 48 (.val (.bool true)) (by kernel_rfl) (by kernel_rfl) rfl
  obtain rfl : v1 = _ := e1
  obtain ⟨v2, h2, e2⟩ := dep_of ho hd 50 55 (.val (.bool true)) (by kernel_rfl) (by kernel_rfl) rfl
  obtain rfl : v2 = _ := e2
  exact ob_pick (b := true) (x := .tmp 55) (y := .const (.bool false)) (get_op (·.op) ho (by kernel_rfl)) (eval_tmp h1) (eval_tmp h2) (hK _ _ (rs_of rfl rfl) hc (Below.refl _ _))
theorem props_ob52  : PropsOb w0 b t T c Q 52 := by
  intro o ho a w hc hf hd K hK
  rw [if_pos (wanted_none _ (get_op (·.guard) ho (by kernel_rfl)))]
  obtain ⟨v1, h1, e1⟩ := dep_of ho hd 51 56 (.val (.bool true)) (by kernel_rfl) (by kernel_rfl) rfl
  obtain rfl : v1 = _ := e1
  exact ob_move (get_op (·.op) ho (by kernel_rfl)) (eval_tmp h1) (hK _ _ (rs_of rfl rfl) hc (Below.refl _ _))
theorem props_ob53  : PropsOb w0 b t T c Q 53 := by
  intro o ho a w hc hf hd K hK
  obtain ⟨gv, hgv, hge⟩ := dep_of ho hd 52 57 (.val (.bool true)) (by kernel_rfl) (by kernel_rfl) rfl
  rw [if_pos (wanted_at (g := 52) (b := true) (d := 57) ho (by kernel_rfl) (by kernel_rfl) hgv hge)]
  exact ob_value (load_tab hc.1 (get_op (·.op) ho (by kernel_rfl)) (eval_tmp (hf.2.2 (2, _) (by simp)))) (hK _ _ (rs_of rfl rfl) hc (Below.refl _ _))
theorem props_ob54  : PropsOb w0 b t T c Q 54 := by
  intro o ho a w hc hf hd K hK
  obtain ⟨gv, hgv, hge⟩ := dep_of ho hd 52 57 (.val (.bool true)) (by kernel_rfl) (by kernel_rfl) rfl
  rw [if_pos (wanted_at (g := 52) (b := true) (d := 57) ho (by kernel_rfl) (by kernel_rfl) hgv hge)]
  exact ob_move (get_op (·.op) ho (by kernel_rfl)) (eval_tmp (hf.2.2 (1, _) (by simp))) (hK _ _ (rs_of rfl rfl) hc (Below.refl _ _))
theorem props_ob55 (hsh : Shape T) : PropsOb w0 b t T c Q 55 := by
  intro o ho a w hc hf hd K hK
  obtain ⟨gv, hgv, hge⟩ := dep_of ho hd 52 57 (.val (.bool true)) (by kernel_rfl) (by kernel_rfl) rfl
  rw [if_pos (wanted_at (g := 52) (b := true) (d := 57) ho (by kernel_rfl) (by kernel_rfl) hgv hge)]
  obtain ⟨v1, h1, e1⟩ := dep_of ho hd 53 58 (.val t.val) (by kernel_rfl) (by kernel_rfl) rfl
  obtain rfl : v1 = _ := e1
  obtain ⟨v2, h2, e2⟩ := dep_of ho hd 54 59 (.val (.int .i64 c)) (by kernel_rfl) (by kernel_rfl) rfl
  obtain rfl : v2 = _ := e2
  exact ob_enter (enter2 (tys := #[26, 3]) (get_op (·.op) ho (by kernel_rfl)) (eval_tmp h1) (eval_tmp h2) (fun args w => enters_of Tryd.func25 (by kernel_rfl) rfl args w)) (ignorable_any t T c 0 1114111 w hc.1.2 hsh.c6.1 hsh.c6.2.1) fun e w' ⟨he, hb⟩ => ⟨_, he, hK _ _ (rs_of rfl rfl) ⟨hc.1.later hb, below_next hc.2 hb⟩ hb⟩
theorem props_ob56  : PropsOb w0 b t T c Q 56 := by
  intro o ho a w hc hf hd K hK
  obtain ⟨gv, hgv, hge⟩ := dep_of ho hd 52 57 (.val (.bool true)) (by kernel_rfl) (by kernel_rfl) rfl
  rw [if_pos (wanted_at (g := 52) (b := true) (d := 57) ho (by kernel_rfl) (by kernel_rfl) hgv hge)]
  exact ob_value (load_tab hc.1 (get_op (·.op) ho (by kernel_rfl)) (eval_tmp (hf.2.2 (2, _) (by simp)))) (hK _ _ (rs_of rfl rfl) hc (Below.refl _ _))
theorem props_ob57  : PropsOb w0 b t T c Q 57 := by
  intro o ho a w hc hf hd K hK
  obtain ⟨gv, hgv, hge⟩ := dep_of ho hd 52 57 (.val (.bool true)) (by kernel_rfl) (by kernel_rfl) rfl
  rw [if_pos (wanted_at (g := 52) (b := true) (d := 57) ho (by kernel_rfl) (by kernel_rfl) hgv hge)]
  exact ob_move (get_op (·.op) ho (by kernel_rfl)) (eval_tmp (hf.2.2 (1, _) (by simp))) (hK _ _ (rs_of rfl rfl) hc (Below.refl _ _))
theorem props_ob58  : PropsOb w0 b t T c Q 58 := by
  intro o ho a w hc hf hd K hK
  obtain ⟨gv, hgv, hge⟩ := dep_of ho hd 52 57 (.val (.bool true)) (by kernel_rfl) (by kernel_rfl) rfl
  rw [if_pos (wanted_at (g := 52) (b := true) (d := 57) ho (by kernel_rfl) (by kernel_rfl) hgv hge)]
  obtain ⟨v1, h1, e1⟩ := dep_of ho hd 56 61 (.val t.val) (by kernel_rfl) (by kernel_rfl) rfl
  obtain rfl : v1 = _ := e1
  obtain ⟨v2, h2, e2⟩ := dep_of ho hd 57 62 (.val (.int .i64 c)) (by kernel_rfl) (by kernel_rfl) rfl
  obtain rfl : v2 = _ := e2
  exact ob_enter (enter2 (tys := #[26, 3]) (get_op (·.op) ho (by kernel_rfl)) (eval_tmp h1) (eval_tmp h2) (fun args w => enters_of Tryd.func49 (by kernel_rfl) rfl args w)) (refIgnorable_any t T c w hc.1.2) fun e w' ⟨he, hb⟩ => ⟨_, he, hK _ _ (rs_of rfl rfl) ⟨hc.1.later hb, below_next hc.2 hb⟩ hb⟩
theorem props_ob59  : PropsOb w0 b t T c Q 59 := by
  intro o ho a w hc hf hd K hK
  obtain ⟨gv, hgv, hge⟩ := dep_of ho hd 52 57 (.val (.bool true)) (by kernel_rfl) (by kernel_rfl) rfl
  rw [if_pos (wanted_at (g := 52) (b := true) (d := 57) ho (by kernel_rfl) (by kernel_rfl) hgv hge)]
  obtain ⟨v1, h1, e1⟩ := dep_of ho hd 55 60 (.val (.bool (T.ignB c))) (by kernel_rfl) (by kernel_rfl) rfl
  obtain rfl : v1 = _ := e1
  obtain ⟨v2, h2, e2⟩ := dep_of ho hd 58 63 (.val (.bool (T.ignB c))) (by kernel_rfl) (by kernel_rfl) rfl
  obtain rfl : v2 = _ := e2
  exact ob_value (eql_bool (get_op (·.op) ho (by kernel_rfl)) (eval_tmp h1) (eval_tmp h2)) (hK _ _ (rs_of rfl (by show _ = _; simp)) hc (Below.refl _ _))
theorem props_ob60  : PropsOb w0 b t T c Q 60 := by
  intro o ho a w hc hf hd K hK
  rw [if_pos (wanted_none _ (get_op (·.guard) ho (by kernel_rfl)))]
  obtain ⟨v1, h1, e1⟩ := dep_of ho hd 52 57 (.val (.bool true)) (by kernel_rfl) (by kernel_rfl) rfl
  obtain rfl : v1 = _ := e1
  obtain ⟨v2, h2, e2⟩ := dep_of ho hd 59 64 (.val (.bool true)) (by kernel_rfl) (by kernel_rfl) rfl
  obtain rfl : v2 = _ := e2
  exact ob_pick (b := true) (x := .tmp 64) (y := .const (.bool false)) (get_op (·.op) ho (by kernel_rfl)) (eval_tmp h1) (eval_tmp h2) (hK _ _ (rs_of rfl rfl) hc (Below.refl _ _))
theorem props_ob61  : PropsOb w0 b t T c Q 61 := by
  intro o ho a w hc hf hd K hK
  rw [if_pos (wanted_none _ (get_op (·.guard) ho (by kernel_rfl)))]
  obtain ⟨v1, h1, e1⟩ := dep_of ho hd 60 65 (.val (.bool true)) (by kernel_rfl) (by kernel_rfl) rfl
  obtain rfl : v1 = _ := e1
  exact ob_move (get_op (·.op) ho (by kernel_rfl)) (eval_tmp h1) (hK _ _ (rs_of rfl rfl) hc (Below.refl _ _))
theorem props_ob62  : PropsOb w0 b t T c Q 62 := by
  intro o ho a w hc hf hd K hK
  obtain ⟨gv, hgv, hge⟩ := dep_of ho hd 61 66 (.val (.bool true)) (by kernel_rfl) (by kernel_rfl) rfl
  rw [if_pos (wanted_at (g := 61) (b := true) (d := 66) ho (by kernel_rfl) (by kernel_rfl) hgv hge)]
  exact ob_value (load_tab hc.1 (get_op (·.op) ho (by kernel_rfl)) (eval_tmp (hf.2.2 (2, _) (by simp)))) (hK _ _ (rs_of rfl rfl) hc (Below.refl _ _))
theorem props_ob63  : PropsOb w0 b t T c Q 63 := by
  intro o ho a w hc hf hd K hK
  obtain ⟨gv, hgv, hge⟩ := dep_of ho hd 61 66 (.val (.bool true)) (by kernel_rfl) (by kernel_rfl) rfl
  rw [if_pos (wanted_at (g := 61) (b := true) (d := 66) ho (by kernel_rfl) (by kernel_rfl) hgv hge)]
  exact ob_move (get_op (·.op) ho (by kernel_rfl)) (eval_tmp (hf.2.2 (1, _) (by simp))) (hK _ _ (rs_of rfl rfl) hc (Below.refl _ _))
theorem props_ob64 (hsh : Shape T) : PropsOb w0 b t T c Q 64 := by
  intro o ho a w hc hf hd K hK
  obtain ⟨gv, hgv, hge⟩ := dep_of ho hd 61 66 (.val (.bool true)) (by kernel_rfl) (by kernel_rfl) rfl
  rw [if_pos (wanted_at (g := 61) (b := true) (d := 66) ho (by kernel_rfl) (by kernel_rfl) hgv hge)]
  obtain ⟨v1, h1, e1⟩ := dep_of ho hd 62 67 (.val t.val) (by kernel_rfl) (by kernel_rfl) rfl
  obtain rfl : v1 = _ := e1
  obtain ⟨v2, h2, e2⟩ := dep_of ho hd 63 68 (.val (.int .i64 c)) (by kernel_rfl) (by kernel_rfl) rfl
  obtain rfl : v2 = _ := e2
  exact ob_enter (enter2 (tys := #[26, 3]) (get_op (·.op) ho (by kernel_rfl)) (eval_tmp h1) (eval_tmp h2) (fun args w => enters_of Tryd.func71 (by kernel_rfl) rfl args w)) (excluded_any t T c w hc.1.2 (keysB_asc hsh.ke) hsh.lenX) fun e w' ⟨he, hb⟩ => ⟨_, he, hK _ _ (rs_of rfl rfl) ⟨hc.1.later hb, below_next hc.2 hb⟩ hb⟩
theorem props_ob65  : PropsOb w0 b t T c Q 65 := by
  intro o ho a w hc hf hd K hK
  obtain ⟨gv, hgv, hge⟩ := dep_of ho hd 61 66 (.val (.bool true)) (by kernel_rfl) (by kernel_rfl) rfl
  rw [if_pos (wanted_at (g := 61) (b := true) (d := 66) ho (by kernel_rfl) (by kernel_rfl) hgv hge)]
  exact ob_value (load_tab hc.1 (get_op (·.op) ho (by kernel_rfl)) (eval_tmp (hf.2.2 (2, _) (by simp)))) (hK _ _ (rs_of rfl rfl) hc (Below.refl _ _))
theorem props_ob66  : PropsOb w0 b t T c Q 66 := by
  intro o ho a w hc hf hd K hK
  obtain ⟨gv, hgv, hge⟩ := dep_of ho hd 61 66 (.val (.bool true)) (by kernel_rfl) (by kernel_rfl) rfl
  rw [if_pos (wanted_at (g := 61) (b := true) (d := 66) ho (by kernel_rfl) (by kernel_rfl) hgv hge)]
  exact ob_move (get_op (·.op) ho (by kernel_rfl)) (eval_tmp (hf.2.2 (1, _) (by simp))) (hK _ _ (rs_of rfl rfl) hc (Below.refl _ _))
theorem props_ob67  : PropsOb w0 b t T c Q 67 := by
  intro o ho a w hc hf hd K hK
  obtain ⟨gv, hgv, hge⟩ := dep_of ho hd 61 66 (.val (.bool true)) (by kernel_rfl) (by kernel_rfl) rfl
  rw [if_pos (wanted_at (g := 61) (b := true) (d := 66) ho (by kernel_rfl) (by kernel_rfl) hgv hge)]
  obtain ⟨v1, h1, e1⟩ := dep_of ho hd 65 70 (.val t.val) (by kernel_rfl) (by kernel_rfl) rfl
  obtain rfl : v1 = _ := e1
  obtain ⟨v2, h2, e2⟩ := dep_of ho hd 66 71 (.val (.int .i64 c)) (by kernel_rfl) (by kernel_rfl) rfl
  obtain rfl : v2 = _ := e2
  exact ob_enter (enter2 (tys := #[26, 3]) (get_op (·.op) ho (by kernel_rfl)) (eval_tmp h1) (eval_tmp h2) (fun args w => enters_of Tryd.func72 (by kernel_rfl) rfl args w)) (refExcluded_any t T c w hc.1.2) fun e w' ⟨he, hb⟩ => ⟨_, he, hK _ _ (rs_of rfl rfl) ⟨hc.1.later hb, below_next hc.2 hb⟩ hb⟩
theorem props_ob68  : PropsOb w0 b t T c Q 68 := by
  intro o ho a w hc hf hd K hK
  obtain ⟨gv, hgv, hge⟩ := dep_of ho hd 61 66 (.val (.bool true)) (by kernel_rfl) (by kernel_rfl) rfl
  rw [if_pos (wanted_at (g := 61) (b := true) (d := 66) ho (by kernel_rfl) (by kernel_rfl) hgv hge)]
  obtain ⟨v1, h1, e1⟩ := dep_of ho hd 64 69 (.val (.bool (T.excB c))) (by kernel_rfl) (by kernel_rfl) rfl
  obtain rfl : v1 = _ := e1
  obtain ⟨v2, h2, e2⟩ := dep_of ho hd 67 72 (.val (.bool (T.excB c))) (by kernel_rfl) (by kernel_rfl) rfl
  obtain rfl : v2 = _ := e2
  exact ob_value (eql_bool (get_op (·.op) ho (by kernel_rfl)) (eval_tmp h1) (eval_tmp h2)) (hK _ _ (rs_of rfl (by show _ = _; simp)) hc (Below.refl _ _))
theorem props_ob69  : PropsOb w0 b t T c Q 69 := by
  intro o ho a w hc hf hd K hK
  rw [if_pos (wanted_none _ (get_op (·.guard) ho (by kernel_rfl)))]
  obtain ⟨v1, h1, e1⟩ := dep_of ho hd 61 66 (.val (.bool true)) (by kernel_rfl) (by kernel_rfl) rfl
  obtain rfl : v1 = _ := e1
  obtain ⟨v2, h2, e2⟩ := dep_of ho hd 68 73 (.val (.bool true)) (by kernel_rfl) (by kernel_rfl) rfl
  obtain rfl : v2 = _ := e2
  exact ob_pick (b := true) (x := .tmp 73) (y := .const (.bool false)) (get_op (·.op) ho (by kernel_rfl)) (eval_tmp h1) (eval_tmp h2) (hK _ _ (rs_of rfl rfl) hc (Below.refl _ _))
theorem props_ob70  : PropsOb w0 b t T c Q 70 := by
  intro o ho a w hc hf hd K hK
  rw [if_pos (wanted_none _ (get_op (·.guard) ho (by kernel_rfl)))]
  obtain ⟨v1, h1, e1⟩ := dep_of ho hd 69 74 (.val (.bool true)) (by kernel_rfl) (by kernel_rfl) rfl
  obtain rfl : v1 = _ := e1
  exact ob_move (get_op (·.op) ho (by kernel_rfl)) (eval_tmp h1) (hK _ _ (rs_of rfl rfl) hc (Below.refl _ _))
theorem props_ob71  : PropsOb w0 b t T c Q 71 := by
  intro o ho a w hc hf hd K hK
  obtain ⟨gv, hgv, hge⟩ := dep_of ho hd 70 75 (.val (.bool true)) (by kernel_rfl) (by kernel_rfl) rfl
  rw [if_pos (wanted_at (g := 70) (b := true) (d := 75) ho (by kernel_rfl) (by kernel_rfl) hgv hge)]
  exact ob_value (load_tab hc.1 (get_op (·.op) ho (by kernel_rfl)) (eval_tmp (hf.2.2 (2, _) (by simp)))) (hK _ _ (rs_of rfl rfl) hc (Below.refl _ _))
theorem props_ob72  : PropsOb w0 b t T c Q 72 := by
  intro o ho a w hc hf hd K hK
  obtain ⟨gv, hgv, hge⟩ := dep_of ho hd 70 75 (.val (.bool true)) (by kernel_rfl) (by kernel_rfl) rfl
  rw [if_pos (wanted_at (g := 70) (b := true) (d := 75) ho (by kernel_rfl) (by kernel_rfl) hgv hge)]
  exact ob_move (get_op (·.op) ho (by kernel_rfl)) (eval_tmp (hf.2.2 (1, _) (by simp))) (hK _ _ (rs_of rfl rfl) hc (Below.refl _ _))
theorem props_ob73 (hsh : Shape T) (hsz : Sized T) : PropsOb w0 b t T c Q 73 := by
  intro o ho a w hc hf hd K hK
  obtain ⟨gv, hgv, hge⟩ := dep_of ho hd 70 75 (.val (.bool true)) (by kernel_rfl) (by kernel_rfl) rfl
  rw [if_pos (wanted_at (g := 70) (b := true) (d := 75) ho (by kernel_rfl) (by kernel_rfl) hgv hge)]
  obtain ⟨v1, h1, e1⟩ := dep_of ho hd 71 76 (.val t.val) (by kernel_rfl) (by kernel_rfl) rfl
  obtain rfl : v1 = _ := e1
  obtain ⟨v2, h2, e2⟩ := dep_of ho hd 72 77 (.val (.int .i64 c)) (by kernel_rfl) (by kernel_rfl) rfl
  obtain rfl : v2 = _ := e2
  exact ob_enter (enter2 (tys := #[26, 3]) (get_op (·.op) ho (by kernel_rfl)) (eval_tmp h1) (eval_tmp h2) (fun args w => enters_of Tryd.func73 (by kernel_rfl) rfl args w)) (scripts_any t T c w hc.1.2 (keysB_sort hsh.kx) hsz.nx hsh.lx) fun e w' ⟨v, he, hv, _, hb⟩ => ⟨v, he, hK _ _ (rs_of rfl hv) ⟨hc.1.later hb, below_next hc.2 hb⟩ hb⟩
theorem props_ob74  : PropsOb w0 b t T c Q 74 := by
  intro o ho a w hc hf hd K hK
  obtain ⟨gv, hgv, hge⟩ := dep_of ho hd 70 75 (.val (.bool true)) (by kernel_rfl) (by kernel_rfl) rfl
  rw [if_pos (wanted_at (g := 70) (b := true) (d := 75) ho (by kernel_rfl) (by kernel_rfl) hgv hge)]
  exact ob_value (load_tab hc.1 (get_op (·.op) ho (by kernel_rfl)) (eval_tmp (hf.2.2 (2, _) (by simp)))) (hK _ _ (rs_of rfl rfl) hc (Below.refl _ _))
theorem props_ob75  : PropsOb w0 b t T c Q 75 := by
  intro o ho a w hc hf hd K hK
  obtain ⟨gv, hgv, hge⟩ := dep_of ho hd 70 75 (.val (.bool true)) (by kernel_rfl) (by kernel_rfl) rfl
  rw [if_pos (wanted_at (g := 70) (b := true) (d := 75) ho (by kernel_rfl) (by kernel_rfl) hgv hge)]
  exact ob_move (get_op (·.op) ho (by kernel_rfl)) (eval_tmp (hf.2.2 (1, _) (by simp))) (hK _ _ (rs_of rfl rfl) hc (Below.refl _ _))
theorem props_ob76  : PropsOb w0 b t T c Q 76 := by
  intro o ho a w hc hf hd K hK
  obtain ⟨gv, hgv, hge⟩ := dep_of ho hd 70 75 (.val (.bool true)) (by kernel_rfl) (by kernel_rfl) rfl
  rw [if_pos (wanted_at (g := 70) (b := true) (d := 75) ho (by kernel_rfl) (by kernel_rfl) hgv hge)]
  obtain ⟨v1, h1, e1⟩ := dep_of ho hd 74 79 (.val t.val) (by kernel_rfl) (by kernel_rfl) rfl
  obtain rfl : v1 = _ := e1
  obtain ⟨v2, h2, e2⟩ := dep_of ho hd 75 80 (.val (.int .i64 c)) (by kernel_rfl) (by kernel_rfl) rfl
  obtain rfl : v2 = _ := e2
  exact ob_enter (enter2 (tys := #[26, 3]) (get_op (·.op) ho (by kernel_rfl)) (eval_tmp h1) (eval_tmp h2) (fun args w => enters_of Tryd.func74 (by kernel_rfl) rfl args w)) (refScripts_any t T c w hc.1.2) fun e w' ⟨v, he, hv, hb⟩ => ⟨v, he, hK _ _ (rs_of rfl hv) ⟨hc.1.later hb, below_next hc.2 hb⟩ hb⟩
theorem props_ob77  : PropsOb w0 b t T c Q 77 := by
  intro o ho a w hc hf hd K hK
  obtain ⟨gv, hgv, hge⟩ := dep_of ho hd 70 75 (.val (.bool true)) (by kernel_rfl) (by kernel_rfl) rfl
  rw [if_pos (wanted_at (g := 70) (b := true) (d := 75) ho (by kernel_rfl) (by kernel_rfl) hgv hge)]
  obtain ⟨v1, h1, e1⟩ := dep_of ho hd 73 78 (.seq (findL T.extensions c)) (by kernel_rfl) (by kernel_rfl) rfl
  obtain ⟨v2, h2, e2⟩ := dep_of ho hd 76 81 (.seq (findL T.extensions c)) (by kernel_rfl) (by kernel_rfl) rfl
  exact ob_enter (enter2 (tys := #[24, 24]) (get_op (·.op) ho (by kernel_rfl)) (eval_tmp h1) (eval_tmp h2) (fun args w => enters_of Tryd.func31 (by kernel_rfl) rfl args w)) (same_any v1 v2 (findL T.extensions c) (findL T.extensions c) w e1 e2) fun e w' ⟨he, hb⟩ => ⟨_, he, hK _ _ (rs_of rfl (by show _ = _; simp)) ⟨hc.1.later hb, below_next hc.2 hb⟩ hb⟩
theorem props_ob78  : PropsOb w0 b t T c Q 78 := by
  intro o ho a w hc hf hd K hK
  rw [if_pos (wanted_none _ (get_op (·.guard) ho (by kernel_rfl)))]
  obtain ⟨v1, h1, e1⟩ := dep_of ho hd 70 75 (.val (.bool true)) (by kernel_rfl) (by kernel_rfl) rfl
  obtain rfl : v1 = _ := e1
  obtain ⟨v2, h2, e2⟩ := dep_of ho hd 77 82 (.val (.bool true)) (by kernel_rfl) (by kernel_rfl) rfl
  obtain rfl : v2 = _ := e2
  exact ob_pick (b := true) (x := .tmp 82) (y := .const (.bool false)) (get_op (·.op) ho (by kernel_rfl)) (eval_tmp h1) (eval_tmp h2) (hK _ _ (rs_of rfl rfl) hc (Below.refl _ _))
theorem props_ob79  : PropsOb w0 b t T c Q 79 := by
  intro o ho a w hc hf hd K hK
  rw [if_pos (wanted_none _ (get_op (·.guard) ho (by kernel_rfl)))]
  obtain ⟨v1, h1, e1⟩ := dep_of ho hd 78 83 (.val (.bool true)) (by kernel_rfl) (by kernel_rfl) rfl
  obtain rfl : v1 = _ := e1
  exact ob_move (get_op (·.op) ho (by kernel_rfl)) (eval_tmp h1) (hK _ _ (rs_of rfl rfl) hc (Below.refl _ _))
theorem props_ob80  : PropsOb w0 b t T c Q 80 := by
  intro o ho a w hc hf hd K hK
  obtain ⟨gv, hgv, hge⟩ := dep_of ho hd 79 84 (.val (.bool true)) (by kernel_rfl) (by kernel_rfl) rfl
  rw [if_pos (wanted_at (g := 79) (b := true) (d := 84) ho (by kernel_rfl) (by kernel_rfl) hgv hge)]
  exact ob_value (load_tab hc.1 (get_op (·.op) ho (by kernel_rfl)) (eval_tmp (hf.2.2 (2, _) (by simp)))) (hK _ _ (rs_of rfl rfl) hc (Below.refl _ _))
theorem props_ob81  : PropsOb w0 b t T c Q 81 := by
  intro o ho a w hc hf hd K hK
  obtain ⟨gv, hgv, hge⟩ := dep_of ho hd 79 84 (.val (.bool true)) (by kernel_rfl) (by kernel_rfl) rfl
  rw [if_pos (wanted_at (g := 79) (b := true) (d := 84) ho (by kernel_rfl) (by kernel_rfl) hgv hge)]
  exact ob_move (get_op (·.op) ho (by kernel_rfl)) (eval_tmp (hf.2.2 (1, _) (by simp))) (hK _ _ (rs_of rfl rfl) hc (Below.refl _ _))
theorem props_ob82 (hsh : Shape T) (hsz : Sized T) : PropsOb w0 b t T c Q 82 := by
  intro o ho a w hc hf hd K hK
  obtain ⟨gv, hgv, hge⟩ := dep_of ho hd 79 84 (.val (.bool true)) (by kernel_rfl) (by kernel_rfl) rfl
  rw [if_pos (wanted_at (g := 79) (b := true) (d := 84) ho (by kernel_rfl) (by kernel_rfl) hgv hge)]
  obtain ⟨v1, h1, e1⟩ := dep_of ho hd 80 85 (.val t.val) (by kernel_rfl) (by kernel_rfl) rfl
  obtain rfl : v1 = _ := e1
  obtain ⟨v2, h2, e2⟩ := dep_of ho hd 81 86 (.val (.int .i64 c)) (by kernel_rfl) (by kernel_rfl) rfl
  obtain rfl : v2 = _ := e2
  exact ob_enter (enter2 (tys := #[26, 3]) (get_op (·.op) ho (by kernel_rfl)) (eval_tmp h1) (eval_tmp h2) (fun args w => enters_of Tryd.func17 (by kernel_rfl) rfl args w)) (maps_any t T c w hc.1.2 (keysB_sort hsh.km) hsz.nm hsh.lm) fun e w' ⟨v, he, hv, _, hb⟩ => ⟨v, he, hK _ _ (rs_of rfl hv) ⟨hc.1.later hb, below_next hc.2 hb⟩ hb⟩
theorem props_ob83  : PropsOb w0 b t T c Q 83 := by
  intro o ho a w hc hf hd K hK
  obtain ⟨gv, hgv, hge⟩ := dep_of ho hd 79 84 (.val (.bool true)) (by kernel_rfl) (by kernel_rfl) rfl
  rw [if_pos (wanted_at (g := 79) (b := true) (d := 84) ho (by kernel_rfl) (by kernel_rfl) hgv hge)]
  exact ob_value (load_tab hc.1 (get_op (·.op) ho (by kernel_rfl)) (eval_tmp (hf.2.2 (2, _) (by simp)))) (hK _ _ (rs_of rfl rfl) hc (Below.refl _ _))
theorem props_ob84  : PropsOb w0 b t T c Q 84 := by
  intro o ho a w hc hf hd K hK
  obtain ⟨gv, hgv, hge⟩ := dep_of ho hd 79 84 (.val (.bool true)) (by kernel_rfl) (by kernel_rfl) rfl
  rw [if_pos (wanted_at (g := 79) (b := true) (d := 84) ho (by kernel_rfl) (by kernel_rfl) hgv hge)]
  exact ob_move (get_op (·.op) ho (by kernel_rfl)) (eval_tmp (hf.2.2 (1, _) (by simp))) (hK _ _ (rs_of rfl rfl) hc (Below.refl _ _))
theorem props_ob85  : PropsOb w0 b t T c Q 85 := by
  intro o ho a w hc hf hd K hK
  obtain ⟨gv, hgv, hge⟩ := dep_of ho hd 79 84 (.val (.bool true)) (by kernel_rfl) (by kernel_rfl) rfl
  rw [if_pos (wanted_at (g := 79) (b := true) (d := 84) ho (by kernel_rfl) (by kernel_rfl) hgv hge)]
  obtain ⟨v1, h1, e1⟩ := dep_of ho hd 83 88 (.val t.val) (by kernel_rfl) (by kernel_rfl) rfl
  obtain rfl : v1 = _ := e1
  obtain ⟨v2, h2, e2⟩ := dep_of ho hd 84 89 (.val (.int .i64 c)) (by kernel_rfl) (by kernel_rfl) rfl
  obtain rfl : v2 = _ := e2
  exact ob_enter (enter2 (tys := #[26, 3]) (get_op (·.op) ho (by kernel_rfl)) (eval_tmp h1) (eval_tmp h2) (fun args w => enters_of Tryd.func75 (by kernel_rfl) rfl args w)) (refMaps_any t T c w hc.1.2) fun e w' ⟨v, he, hv, hb⟩ => ⟨v, he, hK _ _ (rs_of rfl hv) ⟨hc.1.later hb, below_next hc.2 hb⟩ hb⟩
theorem props_ob86  : PropsOb w0 b t T c Q 86 := by
  intro o ho a w hc hf hd K hK
  obtain ⟨gv, hgv, hge⟩ := dep_of ho hd 79 84 (.val (.bool true)) (by kernel_rfl) (by kernel_rfl) rfl
  rw [if_pos (wanted_at (g := 79) (b := true) (d := 84) ho (by kernel_rfl) (by kernel_rfl) hgv hge)]
  obtain ⟨v1, h1, e1⟩ := dep_of ho hd 82 87 (.seq (T.mapsOf c)) (by kernel_rfl) (by kernel_rfl) rfl
  obtain ⟨v2, h2, e2⟩ := dep_of ho hd 85 90 (.seq (T.mapsOf c)) (by kernel_rfl) (by kernel_rfl) rfl
  exact ob_enter (enter2 (tys := #[24, 24]) (get_op (·.op) ho (by kernel_rfl)) (eval_tmp h1) (eval_tmp h2) (fun args w => enters_of Tryd.func31 (by kernel_rfl) rfl args w)) (same_any v1 v2 (T.mapsOf c) (T.mapsOf c) w e1 e2) fun e w' ⟨he, hb⟩ => ⟨_, he, hK _ _ (rs_of rfl (by show _ = _; simp)) ⟨hc.1.later hb, below_next hc.2 hb⟩ hb⟩
theorem props_ob87  : PropsOb w0 b t T c Q 87 := by
  intro o ho a w hc hf hd K hK
  rw [if_pos (wanted_none _ (get_op (·.guard) ho (by kernel_rfl)))]
  obtain ⟨v1, h1, e1⟩ := dep_of ho hd 79 84 (.val (.bool true)) (by kernel_rfl) (by kernel_rfl) rfl
  obtain rfl : v1 = _ := e1
  obtain ⟨v2, h2, e2⟩ := dep_of ho hd 86 91 (.val (.bool true)) (by kernel_rfl) (by kernel_rfl) rfl
  obtain rfl : v2 = _ := e2
  exact ob_pick (b := true) (x := .tmp 91) (y := .const (.bool false)) (get_op (·.op) ho (by kernel_rfl)) (eval_tmp h1) (eval_tmp h2) (hK _ _ (rs_of rfl rfl) hc (Below.refl _ _))
theorem props_ob88  : PropsOb w0 b t T c Q 88 := by
  intro o ho a w hc hf hd K hK
  rw [if_pos (wanted_none _ (get_op (·.guard) ho (by kernel_rfl)))]
  obtain ⟨v1, h1, e1⟩ := dep_of ho hd 87 92 (.val (.bool true)) (by kernel_rfl) (by kernel_rfl) rfl
  obtain rfl : v1 = _ := e1
  exact ob_move (get_op (·.op) ho (by kernel_rfl)) (eval_tmp h1) (hK _ _ (rs_of rfl rfl) hc (Below.refl _ _))
theorem props_ob89  : PropsOb w0 b t T c Q 89 := by
  intro o ho a w hc hf hd K hK
  obtain ⟨gv, hgv, hge⟩ := dep_of ho hd 88 93 (.val (.bool true)) (by kernel_rfl) (by kernel_rfl) rfl
  rw [if_pos (wanted_at (g := 88) (b := true) (d := 93) ho (by kernel_rfl) (by kernel_rfl) hgv hge)]
  exact ob_value (load_tab hc.1 (get_op (·.op) ho (by kernel_rfl)) (eval_tmp (hf.2.2 (2, _) (by simp)))) (hK _ _ (rs_of rfl rfl) hc (Below.refl _ _))
theorem props_ob90  : PropsOb w0 b t T c Q 90 := by
  intro o ho a w hc hf hd K hK
  obtain ⟨gv, hgv, hge⟩ := dep_of ho hd 88 93 (.val (.bool true)) (by kernel_rfl) (by kernel_rfl) rfl
  rw [if_pos (wanted_at (g := 88) (b := true) (d := 93) ho (by kernel_rfl) (by kernel_rfl) hgv hge)]
  exact ob_move (get_op (·.op) ho (by kernel_rfl)) (eval_tmp (hf.2.2 (1, _) (by simp))) (hK _ _ (rs_of rfl rfl) hc (Below.refl _ _))
theorem props_ob91 (hsh : Shape T) (hsz : Sized T) : PropsOb w0 b t T c Q 91 := by
  intro o ho a w hc hf hd K hK
  obtain ⟨gv, hgv, hge⟩ := dep_of ho hd 88 93 (.val (.bool true)) (by kernel_rfl) (by kernel_rfl) rfl
  rw [if_pos (wanted_at (g := 88) (b := true) (d := 93) ho (by kernel_rfl) (by kernel_rfl) hgv hge)]
  obtain ⟨v1, h1, e1⟩ := dep_of ho hd 89 94 (.val t.val) (by kernel_rfl) (by kernel_rfl) rfl
  obtain rfl : v1 = _ := e1
  obtain ⟨v2, h2, e2⟩ := dep_of ho hd 90 95 (.val (.int .i64 c)) (by kernel_rfl) (by kernel_rfl) rfl
  obtain rfl : v2 = _ := e2
  exact ob_enter (enter2 (tys := #[26, 3]) (get_op (·.op) ho (by kernel_rfl)) (eval_tmp h1) (eval_tmp h2) (fun args w => enters_of Tryd.func26 (by kernel_rfl) rfl args w)) (decomp_any t T c w hc.1.2 (keysB_sort hsh.kd) hsz.nd hsh.ld) fun e w' ⟨v, he, hv, _, hb⟩ => ⟨v, he, hK _ _ (rs_of rfl hv) ⟨hc.1.later hb, below_next hc.2 hb⟩ hb⟩
theorem props_ob92  : PropsOb w0 b t T c Q 92 := by
  intro o ho a w hc hf hd K hK
  obtain ⟨gv, hgv, hge⟩ := dep_of ho hd 88 93 (.val (.bool true)) (by kernel_rfl) (by kernel_rfl) rfl
  rw [if_pos (wanted_at (g := 88) (b := true) (d := 93) ho (by kernel_rfl) (by kernel_rfl) hgv hge)]
  exact ob_value (load_tab hc.1 (get_op (·.op) ho (by kernel_rfl)) (eval_tmp (hf.2.2 (2, _) (by simp)))) (hK _ _ (rs_of rfl rfl) hc (Below.refl _ _))
theorem props_ob93  : PropsOb w0 b t T c Q 93 := by
  intro o ho a w hc hf hd K hK
  obtain ⟨gv, hgv, hge⟩ := dep_of ho hd 88 93 (.val (.bool true)) (by kernel_rfl) (by kernel_rfl) rfl
  rw [if_pos (wanted_at (g := 88) (b := true) (d := 93) ho (by kernel_rfl) (by kernel_rfl) hgv hge)]
  exact ob_move (get_op (·.op) ho (by kernel_rfl)) (eval_tmp (hf.2.2 (1, _) (by simp))) (hK _ _ (rs_of rfl rfl) hc (Below.refl _ _))
theorem props_ob94  : PropsOb w0 b t T c Q 94 := by
  intro o ho a w hc hf hd K hK
  obtain ⟨gv, hgv, hge⟩ := dep_of ho hd 88 93 (.val (.bool true)) (by kernel_rfl) (by kernel_rfl) rfl
  rw [if_pos (wanted_at (g := 88) (b := true) (d := 93) ho (by kernel_rfl) (by kernel_rfl) hgv hge)]
  obtain ⟨v1, h1, e1⟩ := dep_of ho hd 92 97 (.val t.val) (by kernel_rfl) (by kernel_rfl) rfl
  obtain rfl : v1 = _ := e1
  obtain ⟨v2, h2, e2⟩ := dep_of ho hd 93 98 (.val (.int .i64 c)) (by kernel_rfl) (by kernel_rfl) rfl
  obtain rfl : v2 = _ := e2
  exact ob_enter (enter2 (tys := #[26, 3]) (get_op (·.op) ho (by kernel_rfl)) (eval_tmp h1) (eval_tmp h2) (fun args w => enters_of Tryd.func76 (by kernel_rfl) rfl args w)) (refDecomp_any t T c w hc.1.2) fun e w' ⟨v, he, hv, hb⟩ => ⟨v, he, hK _ _ (rs_of rfl hv) ⟨hc.1.later hb, below_next hc.2 hb⟩ hb⟩
theorem props_ob95  : PropsOb w0 b t T c Q 95 := by
  intro o ho a w hc hf hd K hK
  obtain ⟨gv, hgv, hge⟩ := dep_of ho hd 88 93 (.val (.bool true)) (by kernel_rfl) (by kernel_rfl) rfl
  rw [if_pos (wanted_at (g := 88) (b := true) (d := 93) ho (by kernel_rfl) (by kernel_rfl) hgv hge)]
  obtain ⟨v1, h1, e1⟩ := dep_of ho hd 91 96 (.seq (findL T.decomps c)) (by kernel_rfl) (by kernel_rfl) rfl
  obtain ⟨v2, h2, e2⟩ := dep_of ho hd 94 99 (.seq (findL T.decomps c)) (by kernel_rfl) (by kernel_rfl) rfl
  exact ob_enter (enter2 (tys := #[24, 24]) (get_op (·.op) ho (by kernel_rfl)) (eval_tmp h1) (eval_tmp h2) (fun args w => enters_of Tryd.func31 (by kernel_rfl) rfl args w)) (same_any v1 v2 (findL T.decomps c) (findL T.decomps c) w e1 e2) fun e w' ⟨he, hb⟩ => ⟨_, he, hK _ _ (rs_of rfl (by show _ = _; simp)) ⟨hc.1.later hb, below_next hc.2 hb⟩ hb⟩
theorem props_ob96  : PropsOb w0 b t T c Q 96 := by
  intro o ho a w hc hf hd K hK
  rw [if_pos (wanted_none _ (get_op (·.guard) ho (by kernel_rfl)))]
  obtain ⟨v1, h1, e1⟩ := dep_of ho hd 88 93 (.val (.bool true)) (by kernel_rfl) (by kernel_rfl) rfl
  obtain rfl : v1 = _ := e1
  obtain ⟨v2, h2, e2⟩ := dep_of ho hd 95 100 (.val (.bool true)) (by kernel_rfl) (by kernel_rfl) rfl
  obtain rfl : v2 = _ := e2
  exact ob_pick (b := true) (x := .tmp 100) (y := .const (.bool false)) (get_op (·.op) ho (by kernel_rfl)) (eval_tmp h1) (eval_tmp h2) (hK _ _ (rs_of rfl rfl) hc (Below.refl _ _))
theorem props_ob97  : PropsOb w0 b t T c Q 97 := by
  intro o ho a w hc hf hd K hK
  rw [if_pos (wanted_none _ (get_op (·.guard) ho (by kernel_rfl)))]
  obtain ⟨v1, h1, e1⟩ := dep_of ho hd 96 101 (.val (.bool true)) (by kernel_rfl) (by kernel_rfl) rfl
  obtain rfl : v1 = _ := e1
  exact ob_move (get_op (·.op) ho (by kernel_rfl)) (eval_tmp h1) (hK _ _ (rs_of rfl rfl) hc (Below.refl _ _))
theorem props_ob98  : PropsOb w0 b t T c Q 98 := by
  intro o ho a w hc hf hd K hK
  obtain ⟨gv, hgv, hge⟩ := dep_of ho hd 97 102 (.val (.bool true)) (by kernel_rfl) (by kernel_rfl) rfl
  rw [if_pos (wanted_at (g := 97) (b := true) (d := 102) ho (by kernel_rfl) (by kernel_rfl) hgv hge)]
  exact ob_value (load_tab hc.1 (get_op (·.op) ho (by kernel_rfl)) (eval_tmp (hf.2.2 (2, _) (by simp)))) (hK _ _ (rs_of rfl rfl) hc (Below.refl _ _))
theorem props_ob99  : PropsOb w0 b t T c Q 99 := by
  intro o ho a w hc hf hd K hK
  obtain ⟨gv, hgv, hge⟩ := dep_of ho hd 97 102 (.val (.bool true)) (by kernel_rfl) (by kernel_rfl) rfl
  rw [if_pos (wanted_at (g := 97) (b := true) (d := 102) ho (by kernel_rfl) (by kernel_rfl) hgv hge)]
  exact ob_move (get_op (·.op) ho (by kernel_rfl)) (eval_tmp (hf.2.2 (1, _) (by simp))) (hK _ _ (rs_of rfl rfl) hc (Below.refl _ _))
theorem props_ob100 (hsh : Shape T) (hsz : Sized T) : PropsOb w0 b t T c Q 100 := by
  intro o ho a w hc hf hd K hK
  obtain ⟨gv, hgv, hge⟩ := dep_of ho hd 97 102 (.val (.bool true)) (by kernel_rfl) (by kernel_rfl) rfl
  rw [if_pos (wanted_at (g := 97) (b := true) (d := 102) ho (by kernel_rfl) (by kernel_rfl) hgv hge)]
  obtain ⟨v1, h1, e1⟩ := dep_of ho hd 98 103 (.val t.val) (by kernel_rfl) (by kernel_rfl) rfl
  obtain rfl : v1 = _ := e1
  obtain ⟨v2, h2, e2⟩ := dep_of ho hd 99 104 (.val (.int .i64 c)) (by kernel_rfl) (by kernel_rfl) rfl
  obtain rfl : v2 = _ := e2
  exact ob_enter (enter2 (tys := #[26, 3]) (get_op (·.op) ho (by kernel_rfl)) (eval_tmp h1) (eval_tmp h2) (fun args w => enters_of Tryd.func77 (by kernel_rfl) rfl args w)) (prototype_any t T c w hc.1.2 (keysB_sort hsh.kp) hsz.np hsh.lp) fun e w' ⟨v, he, hv, _, hb⟩ => ⟨v, he, hK _ _ (rs_of rfl hv) ⟨hc.1.later hb, below_next hc.2 hb⟩ hb⟩
theorem props_ob101  : PropsOb w0 b t T c Q 101 := by
  intro o ho a w hc hf hd K hK
  obtain ⟨gv, hgv, hge⟩ := dep_of ho hd 97 102 (.val (.bool true)) (by kernel_rfl) (by kernel_rfl) rfl
  rw [if_pos (wanted_at (g := 97) (b := true) (d := 102) ho (by kernel_rfl) (by kernel_rfl) hgv hge)]
  exact ob_value (load_tab hc.1 (get_op (·.op) ho (by kernel_rfl)) (eval_tmp (hf.2.2 (2, _) (by simp)))) (hK _ _ (rs_of rfl rfl) hc (Below.refl _ _))
theorem props_ob102  : PropsOb w0 b t T c Q 102 := by
  intro o ho a w hc hf hd K hK
  obtain ⟨gv, hgv, hge⟩ := dep_of ho hd 97 102 (.val (.bool true)) (by kernel_rfl) (by kernel_rfl) rfl
  rw [if_pos (wanted_at (g := 97) (b := true) (d := 102) ho (by kernel_rfl) (by kernel_rfl) hgv hge)]
  exact ob_move (get_op (·.op) ho (by kernel_rfl)) (eval_tmp (hf.2.2 (1, _) (by simp))) (hK _ _ (rs_of rfl rfl) hc (Below.refl _ _))
theorem props_ob103  : PropsOb w0 b t T c Q 103 := by
  intro o ho a w hc hf hd K hK
  obtain ⟨gv, hgv, hge⟩ := dep_of ho hd 97 102 (.val (.bool true)) (by kernel_rfl) (by kernel_rfl) rfl
  rw [if_pos (wanted_at (g := 97) (b := true) (d := 102) ho (by kernel_rfl) (by kernel_rfl) hgv hge)]
  obtain ⟨v1, h1, e1⟩ := dep_of ho hd 101 106 (.val t.val) (by kernel_rfl) (by kernel_rfl) rfl
  obtain rfl : v1 = _ := e1
  obtain ⟨v2, h2, e2⟩ := dep_of ho hd 102 107 (.val (.int .i64 c)) (by kernel_rfl) (by kernel_rfl) rfl
  obtain rfl : v2 = _ := e2
  exact ob_enter (enter2 (tys := #[26, 3]) (get_op (·.op) ho (by kernel_rfl)) (eval_tmp h1) (eval_tmp h2) (fun args w => enters_of Tryd.func78 (by kernel_rfl) rfl args w)) (refPrototype_any t T c w hc.1.2) fun e w' ⟨v, he, hv, hb⟩ => ⟨v, he, hK _ _ (rs_of rfl hv) ⟨hc.1.later hb, below_next hc.2 hb⟩ hb⟩
theorem props_ob104  : PropsOb w0 b t T c Q 104 := by
  intro o ho a w hc hf hd K hK
  obtain ⟨gv, hgv, hge⟩ := dep_of ho hd 97 102 (.val (.bool true)) (by kernel_rfl) (by kernel_rfl) rfl
  rw [if_pos (wanted_at (g := 97) (b := true) (d := 102) ho (by kernel_rfl) (by kernel_rfl) hgv hge)]
  obtain ⟨v1, h1, e1⟩ := dep_of ho hd 100 105 (.seq (findL T.prototypes c)) (by kernel_rfl) (by kernel_rfl) rfl
  obtain ⟨v2, h2, e2⟩ := dep_of ho hd 103 108 (.seq (findL T.prototypes c)) (by kernel_rfl) (by kernel_rfl) rfl
  exact ob_enter (enter2 (tys := #[24, 24]) (get_op (·.op) ho (by kernel_rfl)) (eval_tmp h1) (eval_tmp h2) (fun args w => enters_of Tryd.func31 (by kernel_rfl) rfl args w)) (same_any v1 v2 (findL T.prototypes c) (findL T.prototypes c) w e1 e2) fun e w' ⟨he, hb⟩ => ⟨_, he, hK _ _ (rs_of rfl (by show _ = _; simp)) ⟨hc.1.later hb, below_next hc.2 hb⟩ hb⟩
theorem props_ob105  : PropsOb w0 b t T c Q 105 := by
  intro o ho a w hc hf hd K hK
  rw [if_pos (wanted_none _ (get_op (·.guard) ho (by kernel_rfl)))]
  obtain ⟨v1, h1, e1⟩ := dep_of ho hd 97 102 (.val (.bool true)) (by kernel_rfl) (by kernel_rfl) rfl
  obtain rfl : v1 = _ := e1
  obtain ⟨v2, h2, e2⟩ := dep_of ho hd 104 109 (.val (.bool true)) (by kernel_rfl) (by kernel_rfl) rfl
  obtain rfl : v2 = _ := e2
  exact ob_pick (b := true) (x := .tmp 109) (y := .const (.bool false)) (get_op (·.op) ho (by kernel_rfl)) (eval_tmp h1) (eval_tmp h2) (hK _ _ (rs_of rfl rfl) hc (Below.refl _ _))
theorem props_ob106  : PropsOb w0 b t T c Q 106 := by
  intro o ho a w hc hf hd K hK
  rw [if_pos (wanted_none _ (get_op (·.guard) ho (by kernel_rfl)))]
  obtain ⟨v1, h1, e1⟩ := dep_of ho hd 105 110 (.val (.bool true)) (by kernel_rfl) (by kernel_rfl) rfl
  obtain rfl : v1 = _ := e1
  exact ob_assign (get_op (·.op) ho (by kernel_rfl)) (eval_tmp h1) (hK _ _ (rs_of rfl rfl) hc (Below.refl _ _))
end

theorem props_obs {w0 : World} {b : Nat} {t : Tv} {T : Tab} {c : Int} {Q : Exit → Act → World → Prop} (hsh : Shape T) (hsz : Sized T) : ∀ k, k < 107 → PropsOb w0 b t T c Q k
  | 0, _ => props_ob0 
  | 1, _ => props_ob1 
  | 2, _ => props_ob2 hsh
  | 3, _ => props_ob3 
  | 4, _ => props_ob4 
  | 5, _ => props_ob5 hsh
  | 6, _ => props_ob6 
  | 7, _ => props_ob7 
  | 8, _ => props_ob8 
  | 9, _ => props_ob9 
  | 10, _ => props_ob10 hsh
  | 11, _ => props_ob11 
  | 12, _ => props_ob12 
  | 13, _ => props_ob13 
  | 14, _ => props_ob14 
  | 15, _ => props_ob15 
  | 16, _ => props_ob16 
  | 17, _ => props_ob17 
  | 18, _ => props_ob18 
  | 19, _ => props_ob19 hsh
  | 20, _ => props_ob20 
  | 21, _ => props_ob21 
  | 22, _ => props_ob22 
  | 23, _ => props_ob23 
  | 24, _ => props_ob24 
  | 25, _ => props_ob25 
  | 26, _ => props_ob26 
  | 27, _ => props_ob27 
  | 28, _ => props_ob28 hsh
  | 29, _ => props_ob29 
  | 30, _ => props_ob30 
  | 31, _ => props_ob31 hsh
  | 32, _ => props_ob32 
  | 33, _ => props_ob33 
  | 34, _ => props_ob34 
  | 35, _ => props_ob35 
  | 36, _ => props_ob36 
  | 37, _ => props_ob37 hsh
  | 38, _ => props_ob38 
  | 39, _ => props_ob39 
  | 40, _ => props_ob40 hsh
  | 41, _ => props_ob41 
  | 42, _ => props_ob42 
  | 43, _ => props_ob43 
  | 44, _ => props_ob44 
  | 45, _ => props_ob45 
  | 46, _ => props_ob46 hsh
  | 47, _ => props_ob47 
  | 48, _ => props_ob48 
  | 49, _ => props_ob49 hsh
  | 50, _ => props_ob50 
  | 51, _ => props_ob51 
  | 52, _ => props_ob52 
  | 53, _ => props_ob53 
  | 54, _ => props_ob54 
  | 55, _ => props_ob55 hsh
  | 56, _ => props_ob56 
  | 57, _ => props_ob57 
  | 58, _ => props_ob58 
  | 59, _ => props_ob59 
  | 60, _ => props_ob60 
  | 61, _ => props_ob61 
  | 62, _ => props_ob62 
  | 63, _ => props_ob63 
  | 64, _ => props_ob64 hsh
  | 65, _ => props_ob65 
  | 66, _ => props_ob66 
  | 67, _ => props_ob67 
  | 68, _ => props_ob68 
  | 69, _ => props_ob69 
  | 70, _ => props_ob70 
  | 71, _ => props_ob71 
  | 72, _ => props_ob72 
  | 73, _ => props_ob73 hsh hsz
  | 74, _ => props_ob74 
  | 75, _ => props_ob75 
  | 76, _ => props_ob76 
  | 77, _ => props_ob77 
  | 78, _ => props_ob78 
  | 79, _ => props_ob79 
  | 80, _ => props_ob80 
  | 81, _ => props_ob81 
  | 82, _ => props_ob82 hsh hsz
  | 83, _ => props_ob83 
  | 84, _ => props_ob84 
  | 85, _ => props_ob85 
  | 86, _ => props_ob86 
  | 87, _ => props_ob87 
  | 88, _ => props_ob88 
  | 89, _ => props_ob89 
  | 90, _ => props_ob90 
  | 91, _ => props_ob91 hsh hsz
  | 92, _ => props_ob92 
  | 93, _ => props_ob93 
  | 94, _ => props_ob94 
  | 95, _ => props_ob95 
  | 96, _ => props_ob96 
  | 97, _ => props_ob97 
  | 98, _ => props_ob98 
  | 99, _ => props_ob99 
  | 100, _ => props_ob100 hsh hsz
  | 101, _ => props_ob101 
  | 102, _ => props_ob102 
  | 103, _ => props_ob103 
  | 104, _ => props_ob104 
  | 105, _ => props_ob105 
  | 106, _ => props_ob106 
  | k + 107, h => absurd h (by omega)


set_option maxRecDepth 100000 in
set_option maxHeartbeats 4000000 in
theorem properties_any (t : Tv) (T : Tab) (c : Int) (w : World) (ht : TabR w w.heap.size t T) (hsh : Shape T) (hsz : Sized T) :
    Calls Tryd.prog 19 #[t.val, .int .i64 c] w fun e w' => e = .returned (.bool true) ∧ Below w.heap.size w w' := by
  have HT0 : Hid (Tbl (w.alloc (.cells #[t.c0, t.c1, t.c2, t.c3, t.c4, t.c5, t.c6, t.c7, t.c8, t.c9, t.c10, t.c11] 26)) w.heap.size t T) :=
    Lib.hid ⟨Blk.new _ _ _, ht.later ((Below.refl _ _).alloc (Nat.le_refl _) _)⟩
  have HB : Hid (Below w.heap.size w (w.alloc (.cells #[t.c0, t.c1, t.c2, t.c3, t.c4, t.c5, t.c6, t.c7, t.c8, t.c9, t.c10, t.c11] 26))) := Lib.hid ((Below.refl _ _).alloc (Nat.le_refl _) _)
  clear ht
  go_enter Tryd.func19, Tryd.ntmps19
  go_upto_region 1 with fail
  generalize w.alloc (.cells #[t.c0, t.c1, t.c2, t.c3, t.c4, t.c5, t.c6, t.c7, t.c8, t.c9, t.c10, t.c11] 26) = w1 at *
  refine wp_region_as (ops := (opsAt Tryd.f19 1)) (by kernel_rfl) ?_
  refine wp_region_spec (n := 111) (ds := []) (fixed := [(1, .int .i64 c), (2, .pointer (some ⟨w.heap.size, 0, none⟩))]) (C := PropsC w w.heap.size t T) (specs := propsSpec t T c) (by kernel_rfl) (by kernel_rfl) ⟨rfl, rfl, by intro p hp; simp at hp; rcases hp with rfl | rfl <;> rfl⟩ ?_ (fun i o ho => props_obs hsh hsz i ?_ o ho) ?_
  · exact ⟨HT0.out.later ((Below.refl _ _).drew), HB.out.trans ((Below.refl _ _).drew)⟩
  · have := (Array.getElem?_eq_some_iff.1 ho).1
    have hn : (opsAt Tryd.f19 1).size = 107 := by kernel_rfl
    omega
  · intro a w' hc hf hr
    obtain ⟨v, hv, hs⟩ := end_at hr 106 4 (.val (.bool true)) (by kernel_rfl) rfl
    obtain rfl : v = .bool true := hs
    rename_i K hK
    refine hK a w' ?_
    go_wp2
    exact bodyPost_ret (v := .bool true) (by simp [results, Tryd.results19, hv]) hf.2.1 ⟨rfl, hc.2⟩
end Go.Proofs.YtkdhldhbjomiaaaDoor
/-
  The walk through the law TableProperties.
-/
namespace Go.Proofs.YtkdhldhbjomiaaaDoor
open Go.RowKit ND

set_option maxRecDepth 100000 in
set_option maxHeartbeats 1000000 in
theorem TableProperties_go (W : World) (hg : Glob W) (v : Value) (xs : List Int) (hv : Ints W W.heap.size .i64 v xs) (cc sh : Int) :
    Calls Tryd.prog 6 #[v, .int .i64 cc, .int .i64 sh] W fun e W' => e = .returned (.bool true) ∧ Below W.heap.size W W' := by
  have HG := Lib.hid (fun V (h : Below W.heap.size W V) => awake4 V (hg.later h))
  have HV := Lib.hid hv
  obtain ⟨A, c, rfl, _⟩ := id hv
  have HT := Lib.hid (keepTables_any W _ xs hv)
  clear hv hg
  go_enter Tryd.func6, Tryd.ntmps6
  go_upto_region 2 with (go_at_call 13; refine HT.out.mono ?_; rintro e w1 ⟨t, T, rfl, ht1, hm1, hb1⟩; obtain ⟨A0, A1, A2, A3, A4, A5, A6, A7, A8, A9, A10, A11, k0, k1, k2, k3, k4, k5, k6, k7, k8, k9, k10, k11, rfl⟩ := ht1.shape; have HT1 := Lib.hid ht1; have HM1 := Lib.hid hm1; have HB1 := Lib.hid hb1; clear ht1 hm1 hb1)
  obtain ⟨t, ht, htb⟩ := Tbl.new HT1.out
  have HT2 := Lib.hid htb
  have hb2 := HB1.out.alloc HB1.out.size (.cells #[.slice A0 T.category.length k0, .slice A1 T.cls.length k1, .slice A2 T.joining.length k2, .slice A3 T.bidi.length k3, .slice A4 T.script.length k4, .slice A5 T.status.length k5, .slice A6 T.ignorable.length k6, .slice A7 T.extensions.length k7, .slice A8 T.maps.length k8, .slice A9 T.decomps.length k9, .slice A10 T.excluded.length k10, .slice A11 T.prototypes.length k11] 26)
  have HB2 := Lib.hid hb2
  have HSH := Lib.hid HM1.out.shape
  have HSZ := Lib.hid (Sized.of HM1.out.rule4)
  clear htb hb2 HT1 HB1 HT HM1
  generalize w1.alloc (.cells #[.slice A0 T.category.length k0, .slice A1 T.cls.length k1, .slice A2 T.joining.length k2, .slice A3 T.bidi.length k3, .slice A4 T.script.length k4, .slice A5 T.status.length k5, .slice A6 T.ignorable.length k6, .slice A7 T.extensions.length k7, .slice A8 T.maps.length k8, .slice A9 T.decomps.length k9, .slice A10 T.excluded.length k10, .slice A11 T.prototypes.length k11] 26) = w2 at *
  generalize w1.heap.size = tb at *
  clear ht
  have HP := Lib.hid (points_any w2 _ xs (HV.out.later HB2.out))
  have HPR := Lib.hid (fun z V (h : Tbl V tb t T) => properties_any t T z V h.2 HSH.out HSZ.out)
  go_wp2_with (go_at_call 15; refine HP.out.mono ?_; rintro e w5 ⟨pv, ps, rfl, ho3, hyl, hys, hb3⟩; obtain ⟨A5, c5, rfl, _⟩ := id ho3; have HPS := Lib.hid ho3; have HSC := Lib.hid hys; have HT5 := Lib.hid (HT2.out.later hb3); have HB5 := Lib.hid (below_next HB2.out hb3); clear ho3 hys hb3)
  clear HP HT2 HB2
  go_loopg [17] ps.length (fun gk iv wr => ∃ k : Nat, iv = .int .i64 k ∧ k + gk = ps.length ∧ Below w5.heap.size w5 wr)
  case atStart => exact ⟨0, rfl, by omega, Below.refl _ _⟩
  case round =>
    obtain ⟨k, rfl, hk, hbr⟩ := hrel
    by_cases hlt : k < ps.length
    · obtain ⟨x, hx, hxm⟩ := get_el hlt
      obtain ⟨_, _, hv5, _, _, _, hcl⟩ := HPS.out
      cases hv5
      obtain ⟨ad, rfl, had, hxc⟩ := hcl k x hx
      have e0 := (hbr.cell (p := ad.add k) (by rw [block_of_add]; exact had)).trans hxc
      have HTr := Lib.hid (HT5.out.later hbr)
      have HBR := Lib.hid hbr
      have hs := HSC.out x hxm
      obtain ⟨s0, s1⟩ : 0 ≤ x ∧ x ≤ 1114111 := by unfold scalarB at hs; simp at hs; omega
      clear hcl hxc hx had hbr hs hxm
      obtain ⟨x0, x1, x2, x3, x4, x5, x6, x7, x8, x9, x10, x11⟩ := HTr.out.1.tab
      have HP1 := Lib.hid (HPR.out x wr HTr.out)
      go_wp2_with (first
        | (go_at_call 19; (with_reducible refine HP1.out.mono ?_); rintro e w6 ⟨rfl, b6⟩; have HT6 := Lib.hid (HTr.out.later b6); have HB6 := Lib.hid (below_next HBR.out b6); have HP2 := Lib.hid (HPR.out (x + 1) w6 HT6.out); clear b6 x0 x1 x2 x3 x4 x5 x6 x7 x8 x9 x10 x11; obtain ⟨x0, x1, x2, x3, x4, x5, x6, x7, x8, x9, x10, x11⟩ := HT6.out.1.tab)
        | (go_at_call 19; refine HP2.out.mono ?_; rintro e w7 ⟨rfl, b7⟩; have HB7 := Lib.hid (below_next HB6.out b7); clear b7))
      go_roundg (ps.length - (k + 1))
      case measure => omega
      case rel => exact ⟨k + 1, by go_num, by omega, HB7.out⟩
    · go_wp2_with fail
      have HTr := Lib.hid (HT5.out.later hbr)
      have HBW := Lib.hid (HB5.out.trans (hbr.mono HB5.out.size))
      obtain ⟨x0, x1, x2, x3, x4, x5, x6, x7, x8, x9, x10, x11⟩ := HTr.out.1.tabG
      clear hbr
      have HA := Lib.hid (fun V (h : Below wr.heap.size wr V) => HG.out V (below_next HBW.out h))
      have HPQ := Lib.hid (fun z V (h : Below wr.heap.size wr V) => HPR.out z V (HTr.out.later h))
      refine wp_region_quiet_below (by kernel_rfl) (by kernel_rfl) ?_
      repeat (go_big_quiet_step (first | (go_at_call 10; exact quiet_t HA.out) | (go_at_call 19; exact quiet_t (HPQ.out _)) | (go_at_call 16; exact quiet_s (fun V => pick_any _ _ V (by decide) (by decide)))))
      refine wpQuiet_nil ?_
      rintro _ ⟨⟨dq, osq⟩, rfl⟩
      clear x0 x1 x2 x3 x4 x5 x6 x7 x8 x9 x10 x11
      go_wp2_with fail
      go_ret
      exact ⟨by simp, below_next HBW.out (below_regrown _ dq osq)⟩
theorem TableProperties_walk (W : World) (hg : Glob W) (v : Value) (xs : List Int) (hv : Ints W W.heap.size .i64 v xs) (_ : ∀ x ∈ xs, -9223372036854775808 ≤ x ∧ x ≤ 9223372036854775807) (_ : xs.length * 8 ≤ 140737488351232) (cc : Int) (_ : -9223372036854775808 ≤ cc ∧ cc ≤ 9223372036854775807) (sh : Int) (_ : -9223372036854775808 ≤ sh ∧ sh ≤ 9223372036854775807) :
    Calls Tryd.prog 6 #[v, .int .i64 cc, .int .i64 sh] W fun e W' => e = .returned (.bool true) ∧ Below W.heap.size W W' := TableProperties_go W hg v xs hv cc sh
end Go.Proofs.YtkdhldhbjomiaaaDoor
/-
  The walk through the law TableFixed.
-/
namespace Go.Proofs.YtkdhldhbjomiaaaDoor
open Go.RowKit ND

section
variable {T : Tab} {x : Int}
theorem ownR_res (h : ownR x) : resB x = true := by
  rw [resB_iff]; unfold ownR at h; omega
theorem fixed_class (hsh : Shape T) (h : ownR x) : T.classOf x = 0 := value_res hsh.c1.2.2 (ownR_res h)
theorem fixed_joining (hsh : Shape T) (h : ownR x) : T.joiningOf x = 0 := value_res hsh.c2.2.2 (ownR_res h)
theorem fixed_ign (hsh : Shape T) (h : ownR x) : T.ignB x = false := by
  unfold Tab.ignB; rw [value_res hsh.c6.2.2 (ownR_res h)]; rfl
theorem fixed_decomp (hsh : Shape T) (h : ownR x) : findL T.decomps x = [] := by
  refine findL_no fun i a hi e => ?_
  have := keysB_at hsh.kd a.1 (List.mem_map_of_mem (List.mem_of_getElem? hi))
  rw [e, ownR_res h] at this
  rcases this.2.2 with h | h
  · cases h
  · cases h.1
end
theorem goodNil : GoodS [] := ⟨rfl, by decide, by simp⟩

set_option maxRecDepth 100000 in
set_option maxHeartbeats 4000000 in
theorem TableFixed_go (W : World) (hg : Glob W) (v : Value) (xs : List Int) (hv : Ints W W.heap.size .i64 v xs) (cc : Int) :
    Calls Tryd.prog 7 #[v, .int .i64 cc] W fun e W' => e = .returned (.bool true) ∧ Below W.heap.size W W' := by
  have HG := Lib.hid (fun V (h : Below W.heap.size W V) => awake4 V (hg.later h))
  have HV := Lib.hid hv
  obtain ⟨A, c, rfl, _⟩ := id hv
  have HT := Lib.hid (keepTables_any W _ xs hv)
  clear hv hg
  go_enter Tryd.func7, Tryd.ntmps7
  go_upto_region 2 with (go_at_call 13; refine HT.out.mono ?_; rintro e w1 ⟨t, T, rfl, ht1, hm1, hb1⟩; obtain ⟨A0, A1, A2, A3, A4, A5, A6, A7, A8, A9, A10, A11, k0, k1, k2, k3, k4, k5, k6, k7, k8, k9, k10, k11, rfl⟩ := ht1.shape; have HT1 := Lib.hid ht1; have HM1 := Lib.hid hm1; have HB1 := Lib.hid hb1; clear ht1 hm1 hb1)
  obtain ⟨t, ht, htb⟩ := Tbl.new HT1.out
  have HT2 := Lib.hid htb
  have hb2 := HB1.out.alloc HB1.out.size (.cells #[.slice A0 T.category.length k0, .slice A1 T.cls.length k1, .slice A2 T.joining.length k2, .slice A3 T.bidi.length k3, .slice A4 T.script.length k4, .slice A5 T.status.length k5, .slice A6 T.ignorable.length k6, .slice A7 T.extensions.length k7, .slice A8 T.maps.length k8, .slice A9 T.decomps.length k9, .slice A10 T.excluded.length k10, .slice A11 T.prototypes.length k11] 26)
  have HB2 := Lib.hid hb2
  have HSH := Lib.hid HM1.out.shape
  have HSZ := Lib.hid (Sized.of HM1.out.rule4)
  clear htb hb2 HT1 HB1 HT HM1
  generalize w1.alloc (.cells #[.slice A0 T.category.length k0, .slice A1 T.cls.length k1, .slice A2 T.joining.length k2, .slice A3 T.bidi.length k3, .slice A4 T.script.length k4, .slice A5 T.status.length k5, .slice A6 T.ignorable.length k6, .slice A7 T.extensions.length k7, .slice A8 T.maps.length k8, .slice A9 T.decomps.length k9, .slice A10 T.excluded.length k10, .slice A11 T.prototypes.length k11] 26) = w2 at *
  generalize w1.heap.size = tb at *
  clear ht
  obtain ⟨a0, a1⟩ := pick_in cc (n := 128) (by decide)
  obtain ⟨b0, b1⟩ := pick_in cc (n := 11172) (by decide)
  obtain ⟨c0, c1⟩ := pick_in cc (n := 19) (by decide)
  obtain ⟨d0, d1⟩ := pick_in cc (n := 21) (by decide)
  obtain ⟨e0, e1⟩ := pick_in cc (n := 27) (by decide)
  go_wp2_with (go_at_call 16; refine (pick_any _ _ _ (by decide) (by decide)).mono ?_; rintro e w4 ⟨rfl, rfl⟩)
  have HX : Hid (∀ k : Nat, k < 5 → ∃ x, ownR x ∧ ∀ w : World, (Instr.index 41 (.agg #[.int .i64 (pick cc 128), .int .i64 (44032 + pick cc 11172), .int .i64 (4352 + pick cc 19), .int .i64 (4449 + pick cc 21), .int .i64 (4520 + pick cc 27)]) (.int .i64 k)).run Tryd.prog w = .ok (.int .i64 x) w) := by
    refine Lib.hid fun k hk => ?_
    match k, hk with
    | 0, _ => exact ⟨_, (by unfold ownR; omega : ownR (pick cc 128)), fun w => by kernel_rfl⟩
    | 1, _ => exact ⟨_, (by unfold ownR; omega : ownR (44032 + pick cc 11172)), fun w => by kernel_rfl⟩
    | 2, _ => exact ⟨_, (by unfold ownR; omega : ownR (4352 + pick cc 19)), fun w => by kernel_rfl⟩
    | 3, _ => exact ⟨_, (by unfold ownR; omega : ownR (4449 + pick cc 21)), fun w => by kernel_rfl⟩
    | 4, _ => exact ⟨_, (by unfold ownR; omega : ownR (4520 + pick cc 27)), fun w => by kernel_rfl⟩
  clear a0 a1 b0 b1 c0 c1 d0 d1 e0 e1
  go_loopg [26] 5 (fun gk iv wr => ∃ k : Nat, iv = .int .i64 k ∧ k + gk = 5 ∧ Below w2.heap.size w2 wr)
  case atStart => exact ⟨0, rfl, rfl, Below.refl _ _⟩
  case round =>
    obtain ⟨k, rfl, hk, hbr⟩ := hrel
    by_cases hlt : k < 5
    · obtain ⟨x, hx, hi⟩ := HX.out k hlt
      have HXO := Lib.hid hx
      have HTr := Lib.hid (HT2.out.later hbr)
      have HBR := Lib.hid hbr
      clear hx hbr
      go_upto_region 6 with fail
      have HT3 := Lib.hid (HTr.out.later ((Below.refl _ _).alloc (Nat.le_refl _) (.cells #[.slice none 0 0, .slice none 0 0, .slice none 0 0, .slice none 0 0, .slice none 0 0, .slice none 0 0, .slice none 0 0, .slice none 0 0, .slice none 0 0, .slice none 0 0, .slice none 0 0, .slice none 0 0] 26)))
      have HNIL : Hid (Tbl (wr.alloc (.cells #[.slice none 0 0, .slice none 0 0, .slice none 0 0, .slice none 0 0, .slice none 0 0, .slice none 0 0, .slice none 0 0, .slice none 0 0, .slice none 0 0, .slice none 0 0, .slice none 0 0, .slice none 0 0] 26)) wr.heap.size nilTv nilTab) := Lib.hid ⟨Blk.new _ _ _, nilTabR _ _⟩
      have HB3 := Lib.hid (HBR.out.alloc HBR.out.size (.cells #[.slice none 0 0, .slice none 0 0, .slice none 0 0, .slice none 0 0, .slice none 0 0, .slice none 0 0, .slice none 0 0, .slice none 0 0, .slice none 0 0, .slice none 0 0, .slice none 0 0, .slice none 0 0] 26))
      clear HTr HBR
      generalize (wr.alloc (.cells #[.slice none 0 0, .slice none 0 0, .slice none 0 0, .slice none 0 0, .slice none 0 0, .slice none 0 0, .slice none 0 0, .slice none 0 0, .slice none 0 0, .slice none 0 0, .slice none 0 0, .slice none 0 0] 26)) = w3 at *
      generalize wr.heap.size = eb at *
      have HTt := Lib.hid (fun V (h : Below w3.heap.size w3 V) => HT3.out.later h)
      have HTe := Lib.hid (fun V (h : Below w3.heap.size w3 V) => HNIL.out.later h)
      obtain ⟨q0, hq0⟩ : ∃ q, (fixC x).1 = q := ⟨_, rfl⟩
      obtain ⟨q1, hq1⟩ : ∃ q, (fixC x).2.1 = q := ⟨_, rfl⟩
      obtain ⟨q2, hq2⟩ : ∃ q, (fixC x).2.2.1 = q := ⟨_, rfl⟩
      obtain ⟨q3, hq3⟩ : ∃ q, (fixC x).2.2.2 = q := ⟨_, rfl⟩
      have HA0 : Hid (∀ V, Below w3.heap.size w3 V → Calls Tryd.prog 20 #[(.agg #[t.c0, t.c1, t.c2, t.c3, t.c4, t.c5, t.c6, t.c7, t.c8, t.c9, t.c10, t.c11]), .int .i64 x] V fun e V' => e = .returned (.int .i64 q0) ∧ Below V.heap.size V V') := Lib.hid fun V hV => by have h := category_any t T x 0 1114111 V (HTt.out V hV).2 HSH.out.c0.1 HSH.out.c0.2.1; rw [show T.categoryOf x = q0 from (propL_res HSH.out.c0 HXO.out).trans hq0] at h; exact h
      have HE0 : Hid (∀ V, Below w3.heap.size w3 V → Calls Tryd.prog 20 #[(.agg #[.slice none 0 0, .slice none 0 0, .slice none 0 0, .slice none 0 0, .slice none 0 0, .slice none 0 0, .slice none 0 0, .slice none 0 0, .slice none 0 0, .slice none 0 0, .slice none 0 0, .slice none 0 0]), .int .i64 x] V fun e V' => e = .returned (.int .i64 q0) ∧ Below V.heap.size V V') := Lib.hid fun V hV => by have h := category_any nilTv nilTab x 0 1114111 V (HTe.out V hV).2 rfl (by decide); rw [show nilTab.categoryOf x = q0 from (propL_res goodNil HXO.out).trans hq0] at h; exact h
      have HA3 : Hid (∀ V, Below w3.heap.size w3 V → Calls Tryd.prog 23 #[(.agg #[t.c0, t.c1, t.c2, t.c3, t.c4, t.c5, t.c6, t.c7, t.c8, t.c9, t.c10, t.c11]), .int .i64 x] V fun e V' => e = .returned (.int .i64 q1) ∧ Below V.heap.size V V') := Lib.hid fun V hV => by have h := bidi_any t T x 0 1114111 V (HTt.out V hV).2 HSH.out.c3.1 HSH.out.c3.2.1; rw [show T.bidiOf x = q1 from (propL_res HSH.out.c3 HXO.out).trans hq1] at h; exact h
      have HE3 : Hid (∀ V, Below w3.heap.size w3 V → Calls Tryd.prog 23 #[(.agg #[.slice none 0 0, .slice none 0 0, .slice none 0 0, .slice none 0 0, .slice none 0 0, .slice none 0 0, .slice none 0 0, .slice none 0 0, .slice none 0 0, .slice none 0 0, .slice none 0 0, .slice none 0 0]), .int .i64 x] V fun e V' => e = .returned (.int .i64 q1) ∧ Below V.heap.size V V') := Lib.hid fun V hV => by have h := bidi_any nilTv nilTab x 0 1114111 V (HTe.out V hV).2 rfl (by decide); rw [show nilTab.bidiOf x = q1 from (propL_res goodNil HXO.out).trans hq1] at h; exact h
      have HA4 : Hid (∀ V, Below w3.heap.size w3 V → Calls Tryd.prog 24 #[(.agg #[t.c0, t.c1, t.c2, t.c3, t.c4, t.c5, t.c6, t.c7, t.c8, t.c9, t.c10, t.c11]), .int .i64 x] V fun e V' => e = .returned (.int .i64 q2) ∧ Below V.heap.size V V') := Lib.hid fun V hV => by have h := script_any t T x 0 1114111 V (HTt.out V hV).2 HSH.out.c4.1 HSH.out.c4.2.1; rw [show T.scriptOf x = q2 from (propL_res HSH.out.c4 HXO.out).trans hq2] at h; exact h
      have HE4 : Hid (∀ V, Below w3.heap.size w3 V → Calls Tryd.prog 24 #[(.agg #[.slice none 0 0, .slice none 0 0, .slice none 0 0, .slice none 0 0, .slice none 0 0, .slice none 0 0, .slice none 0 0, .slice none 0 0, .slice none 0 0, .slice none 0 0, .slice none 0 0, .slice none 0 0]), .int .i64 x] V fun e V' => e = .returned (.int .i64 q2) ∧ Below V.heap.size V V') := Lib.hid fun V hV => by have h := script_any nilTv nilTab x 0 1114111 V (HTe.out V hV).2 rfl (by decide); rw [show nilTab.scriptOf x = q2 from (propL_res goodNil HXO.out).trans hq2] at h; exact h
      have HA5 : Hid (∀ V, Below w3.heap.size w3 V → Calls Tryd.prog 18 #[(.agg #[t.c0, t.c1, t.c2, t.c3, t.c4, t.c5, t.c6, t.c7, t.c8, t.c9, t.c10, t.c11]), .int .i64 x] V fun e V' => e = .returned (.int .i64 q3) ∧ Below V.heap.size V V') := Lib.hid fun V hV => by have h := status_any t T x 0 1114111 V (HTt.out V hV).2 HSH.out.c5.1 HSH.out.c5.2.1; rw [show T.statusOf x = q3 from (propL_res HSH.out.c5 HXO.out).trans hq3] at h; exact h
      have HE5 : Hid (∀ V, Below w3.heap.size w3 V → Calls Tryd.prog 18 #[(.agg #[.slice none 0 0, .slice none 0 0, .slice none 0 0, .slice none 0 0, .slice none 0 0, .slice none 0 0, .slice none 0 0, .slice none 0 0, .slice none 0 0, .slice none 0 0, .slice none 0 0, .slice none 0 0]), .int .i64 x] V fun e V' => e = .returned (.int .i64 q3) ∧ Below V.heap.size V V') := Lib.hid fun V hV => by have h := status_any nilTv nilTab x 0 1114111 V (HTe.out V hV).2 rfl (by decide); rw [show nilTab.statusOf x = q3 from (propL_res goodNil HXO.out).trans hq3] at h; exact h
      have HA1 : Hid (∀ V, Below w3.heap.size w3 V → Calls Tryd.prog 21 #[(.agg #[t.c0, t.c1, t.c2, t.c3, t.c4, t.c5, t.c6, t.c7, t.c8, t.c9, t.c10, t.c11]), .int .i64 x] V fun e V' => e = .returned (.int .i64 0) ∧ Below V.heap.size V V') := Lib.hid fun V hV => by have h := class_any t T x 0 1114111 V (HTt.out V hV).2 HSH.out.c1.1 HSH.out.c1.2.1; rw [fixed_class HSH.out HXO.out] at h; exact h
      have HA2 : Hid (∀ V, Below w3.heap.size w3 V → Calls Tryd.prog 22 #[(.agg #[t.c0, t.c1, t.c2, t.c3, t.c4, t.c5, t.c6, t.c7, t.c8, t.c9, t.c10, t.c11]), .int .i64 x] V fun e V' => e = .returned (.int .i64 0) ∧ Below V.heap.size V V') := Lib.hid fun V hV => by have h := joining_any t T x 0 1114111 V (HTt.out V hV).2 HSH.out.c2.1 HSH.out.c2.2.1; rw [fixed_joining HSH.out HXO.out] at h; exact h
      have HA6 : Hid (∀ V, Below w3.heap.size w3 V → Calls Tryd.prog 25 #[(.agg #[t.c0, t.c1, t.c2, t.c3, t.c4, t.c5, t.c6, t.c7, t.c8, t.c9, t.c10, t.c11]), .int .i64 x] V fun e V' => e = .returned (.bool false) ∧ Below V.heap.size V V') := Lib.hid fun V hV => by have h := ignorable_any t T x 0 1114111 V (HTt.out V hV).2 HSH.out.c6.1 HSH.out.c6.2.1; rw [fixed_ign HSH.out HXO.out] at h; exact h
      have HA9 : Hid (∀ V, Below w3.heap.size w3 V → Calls Tryd.prog 26 #[(.agg #[t.c0, t.c1, t.c2, t.c3, t.c4, t.c5, t.c6, t.c7, t.c8, t.c9, t.c10, t.c11]), .int .i64 x] V fun e V' => e = .returned (.slice none 0 0) ∧ Below V.heap.size V V') := Lib.hid fun V hV => by have h := decomp_any t T x V (HTt.out V hV).2 (keysB_sort HSH.out.kd) HSZ.out.nd HSH.out.ld; rw [fixed_decomp HSH.out HXO.out] at h; exact h.mono fun e V' ⟨u, he, _, hn, hb⟩ => ⟨by rw [he, hn rfl], hb⟩
      have HPE : Hid (∀ V, Below w3.heap.size w3 V → Calls Tryd.prog 19 #[(.agg #[.slice none 0 0, .slice none 0 0, .slice none 0 0, .slice none 0 0, .slice none 0 0, .slice none 0 0, .slice none 0 0, .slice none 0 0, .slice none 0 0, .slice none 0 0, .slice none 0 0, .slice none 0 0]), .int .i64 x] V fun e V' => e = .returned (.bool true) ∧ Below V.heap.size V V') := Lib.hid fun V hV => properties_any nilTv nilTab x V (HTe.out V hV).2 (Shape.of (by decide +kernel) (by decide +kernel)) (Sized.of (by decide +kernel))
      clear hq0 hq1 hq2 hq3 hi
      obtain ⟨x0, x1, x2, x3, x4, x5, x6, x7, x8, x9, x10, x11⟩ := HT3.out.1.tabG
      obtain ⟨y0, y1, y2, y3, y4, y5, y6, y7, y8, y9, y10, y11⟩ := (show Blk w3 eb 26 #[.slice none 0 0, .slice none 0 0, .slice none 0 0, .slice none 0 0, .slice none 0 0, .slice none 0 0, .slice none 0 0, .slice none 0 0, .slice none 0 0, .slice none 0 0, .slice none 0 0, .slice none 0 0] from HNIL.out.1).tabG
      refine wp_region_quiet_below (by kernel_rfl) (by kernel_rfl) ?_
      repeat (go_big_quiet_step (first | (go_at_call 20; with_reducible exact quiet_t HA0.out) | (go_at_call 20; with_reducible exact quiet_t HE0.out) | (go_at_call 23; with_reducible exact quiet_t HA3.out) | (go_at_call 23; with_reducible exact quiet_t HE3.out) | (go_at_call 24; with_reducible exact quiet_t HA4.out) | (go_at_call 24; with_reducible exact quiet_t HE4.out) | (go_at_call 18; with_reducible exact quiet_t HA5.out) | (go_at_call 18; with_reducible exact quiet_t HE5.out) | (go_at_call 21; with_reducible exact quiet_t HA1.out) | (go_at_call 22; with_reducible exact quiet_t HA2.out) | (go_at_call 25; with_reducible exact quiet_t HA6.out) | (go_at_call 26; with_reducible exact quiet_t HA9.out) | (go_at_call 19; with_reducible exact quiet_t HPE.out)))
      refine wpQuiet_nil ?_
      rintro _ ⟨⟨dq, osq⟩, rfl⟩
      clear x0 x1 x2 x3 x4 x5 x6 x7 x8 x9 x10 x11 y0 y1 y2 y3 y4 y5 y6 y7 y8 y9 y10 y11
      go_wp2
      go_roundg (4 - k)
      case measure => omega
      case rel => exact ⟨k + 1, by go_num, by omega, below_next HB3.out (below_regrown _ dq osq)⟩
    · go_wp2_with (go_at_call 10; refine (HG.out _ (HB2.out.trans (hbr.mono HB2.out.size))).mono ?_; rintro e w9 ⟨rfl, b9⟩)
      go_ret
      exact ⟨rfl, below_next (HB2.out.trans (hbr.mono HB2.out.size)) b9⟩
theorem TableFixed_walk (W : World) (hg : Glob W) (v : Value) (xs : List Int) (hv : Ints W W.heap.size .i64 v xs) (_ : ∀ x ∈ xs, -9223372036854775808 ≤ x ∧ x ≤ 9223372036854775807) (_ : xs.length * 8 ≤ 140737488351232) (cc : Int) (_ : -9223372036854775808 ≤ cc ∧ cc ≤ 9223372036854775807) :
    Calls Tryd.prog 7 #[v, .int .i64 cc] W fun e W' => e = .returned (.bool true) ∧ Below W.heap.size W W' := TableFixed_go W hg v xs hv cc
end Go.Proofs.YtkdhldhbjomiaaaDoor
/-
  Laws for keep.Other: a copy of a list of mappings; mappings appended to an own row; spans likewise.
-/
namespace Go.Proofs.YtkdhldhbjomiaaaDoor
open Go.RowKit ND

theorem mpCells_len (ps : List (Int × Value)) : (mpCells ps).length = ps.length * 2 := by
  induction ps with
  | nil => rfl
  | cons a r ih => simp only [mpCells, List.flatMap_cons, List.length_append] at ih ⊢; rw [ih]; simp; omega
theorem mpCells_app (ps qs : List (Int × Value)) : mpCells (ps ++ qs) = mpCells ps ++ mpCells qs := by simp [mpCells]
/-- What a list of mappings reads as, cell by cell. -/
theorem mapps_cells {X : World} {B : Nat} {u : Value} {D : List Mp} (hu : Mapps X B u D) : ∃ ps : List (Int × Value), ps.map (·.1) = D.map (·.1) ∧ ps.length = D.length ∧
    (∀ ad, (∃ n c, u = .slice (some ad) n c) → ∀ j y, (mpCells ps)[j]? = some y → X.cell? (ad.add j) = some y) ∧ ∀ (i : Nat) (p : Int × Value) (d : Mp), ps[i]? = some p → D[i]? = some d → Ints X B .i64 p.2 d.2 := by
  obtain ⟨A, c, rfl, _, _, _, h4⟩ := hu
  have key : ∀ i : Nat, ∃ p : Int × Value, ∀ d, D[i]? = some d → ∃ ad, A = some ad ∧ p.1 = d.1 ∧ X.cell? (ad.add (i * 2)) = some (.int .i64 p.1) ∧ X.cell? (ad.add (i * 2 + 1)) = some p.2 ∧ Ints X B .i64 p.2 d.2 := by
    intro i
    cases hd : D[i]? with
    | none => exact ⟨(0, undef), fun d h => by cases h⟩
    | some d =>
      obtain ⟨ad, sv, e, _, c0, c1, hI⟩ := h4 i d hd
      exact ⟨(d.1, sv), fun d' h => by cases h; exact ⟨ad, e, rfl, c0, c1, hI⟩⟩
  let f : Nat → Int × Value := fun i => (key i).choose
  have hf := fun i => (key i).choose_spec
  have hget : ∀ i, i < D.length → ((List.range D.length).map f)[i]? = some (f i) := fun i hi => by simp [hi]
  refine ⟨(List.range D.length).map f, ?_, by simp, ?_, ?_⟩
  · refine List.ext_getElem? fun i => ?_
    by_cases hi : i < D.length
    · obtain ⟨d, hd⟩ : ∃ d, D[i]? = some d := ⟨_, List.getElem?_eq_getElem hi⟩
      obtain ⟨_, _, e, _⟩ := hf i d hd
      rw [List.getElem?_map, hget i hi, List.getElem?_map, hd]
      exact congrArg some e
    · rw [List.getElem?_eq_none (by simpa using hi), List.getElem?_eq_none (by simpa using hi)]
  · rintro ad ⟨n, c', e⟩ j y hj
    cases e
    have hlt := (List.getElem?_eq_some_iff.1 hj).1
    rw [mpCells_len, List.length_map, List.length_range] at hlt
    have hi : j / 2 < D.length := by omega
    obtain ⟨d, hd⟩ : ∃ d, D[j / 2]? = some d := ⟨_, List.getElem?_eq_getElem hi⟩
    obtain ⟨ad', e, _, c0, c1, _⟩ := hf (j / 2) d hd
    cases e
    obtain ⟨a0, a1⟩ := mpCells_at (hget (j / 2) hi)
    have hc : j = j / 2 * 2 ∨ j = j / 2 * 2 + 1 := by omega
    rcases hc with e | e
    · rw [e] at hj ⊢; rw [a0] at hj; cases hj; exact c0
    · rw [e] at hj ⊢; rw [a1] at hj; cases hj; exact c1
  · intro i p d hp hd
    have hi := (List.getElem?_eq_some_iff.1 hd).1
    rw [hget i hi] at hp
    cases hp
    obtain ⟨_, _, _, _, _, hI⟩ := hf i d hd
    exact hI

section
variable {P : Program} {ops : Array Oper} {o : Oper} {a : Act} {X : World} {K : Act → World → Prop} {Q : Exit → Act → World → Prop} {E : Prop} {T : TypeId} {i0 : TypeInfo}
/-- append(nil, u): a copy in a row of the call's own. -/
theorem step_copy_map (hgd : o.guard = none) (s x : Operand)
    (ho : o.op = .call { callee := .builtin .append, args := #[s, x], argTypes := #[T, T] }) (ht : P.underlying T = some (.slice 54)) (hi : P.info? 54 = some i0) (z : Value) (hz : i0.zero = some z) (h1 : i0.size = 2) (h2 : i0.bytes = 32) (hzs : z.cells.size = 2)
    (S : List Nat) (base B : Nat) (u : Value) (D : List Mp) (hS : ∀ x ∈ S, B ≤ x) (hs : a.eval s = .slice none 0 0) (hx : a.eval x = u) (hu : Mapps X B u D) (hB : B ≤ X.heap.size) (hn : D.length ≤ 1000000) (hb : base ≤ X.heap.size)
    (h : ∀ v' w', OwnM S w' base v' D → X.grownBy w' none → K (a.put o.dst v') w') :
    if Region.wanted o (yielded ops a.tmps) = true then Oper.wp P o a X K Q else E := by
  have hw : Region.wanted o (yielded ops a.tmps) = true := by simp [Region.wanted, hgd]
  obtain ⟨ps, hm, hlen, hcl, hI⟩ := mapps_cells hu
  obtain ⟨A, c, rfl, hc1, hc2, hA, h4⟩ := id hu
  by_cases h0 : D = []
  · subst h0
    rw [if_pos hw]
    have hown : X.ownsRow base 54 2 (.slice none 0 0) 0 [] := World.ownsRow_nil _ _ _ _
    cases A with
    | none =>
      obtain rfl : c = 0 := hA rfl
      have hr := run_append_none (P := P) (ty := o.type) ht hi hown
      have h3 := h (.slice none 0 0) X (OwnM.nil _ _ _) (grown_refl X none)
      unfold Oper.wp execOp
      simp only [ho, resolve, invoke, builtin, Sem.run_bind, Sem.run_pure, Result.andThen_ok, List.map_toArray, List.map_cons, List.map_nil, hs, hx, List.length_nil, hr]
      exact h3
    | some ad =>
      refine wp_append_own X s x T ho base 54 i0 z 2 32 ht hi hz h1 h2 hzs (by omega) (.slice none 0 0) 0 [] hs hown ad 0 c [] hx rfl (by simp) (by simp) (by unfold maxLen; omega) (by omega) hb ?_
      intro v' w' p q r
      refine h v' w' ⟨[], rfl, rfl, by simpa [mpCells] using p, fun i p d hp => by simp at hp⟩ q
  · have hpos : 0 < D.length := List.length_pos_iff.2 h0
    obtain ⟨d0, hd0⟩ : ∃ d, D[0]? = some d := ⟨_, List.getElem?_eq_getElem hpos⟩
    obtain ⟨ad, sv0, rfl, _⟩ := h4 0 d0 hd0
    have hown : X.ownsRow base 54 2 (.slice none 0 0) 0 [] := World.ownsRow_nil _ _ _ _
    refine step_append_lies _ hgd s x T ho base 54 i0 z 2 32 ht hi hz h1 h2 hzs (by omega) (.slice none 0 0) 0 [] hs hown ad D.length c (mpCells ps) hx (by rw [mpCells_len, hlen]) (hcl ad ⟨_, _, rfl⟩) ?_ hpos (by unfold maxLen; omega) (by omega) hb X.heap.size rfl ?_
    · intro y hy
      obtain ⟨p, hp, hy⟩ := List.mem_flatMap.1 hy
      obtain ⟨i, hi⟩ := List.mem_iff_getElem?.1 hp
      have hil := (List.getElem?_eq_some_iff.1 hi).1
      obtain ⟨d, hd⟩ : ∃ d, D[i]? = some d := ⟨_, List.getElem?_eq_getElem (by omega)⟩
      obtain ⟨A', c', e, _⟩ := hI i p d hi hd
      simp at hy
      rcases hy with rfl | rfl
      · rfl
      · rw [e]; rfl
    · intro g cap w' p q r _
      rcases r with r | r
      · cases r
      · subst r
        refine h _ w' ⟨ps, hm, hlen, by rw [hlen]; simpa using p, fun i p' d hp hd => ?_⟩ q
        refine (Ints.reveil (S := []) (w := X) (S' := S ++ [X.heap.size]) (w' := w') (B := B) ?_ fun pp xx hpb _ hpc => ⟨fun hx => (List.mem_append.1 hx).elim (fun hx => by have := hS _ hx; omega) (fun hx => by simp at hx; omega), ?_⟩).more (Nat.le_trans hB q.size)
        · obtain ⟨A', c', e, f1, f2, f3, f4⟩ := hI i p' d hp hd
          exact ⟨A', c', e, f1, f2, f3, fun i x hi => by
            obtain ⟨a1, e1, e2, e3⟩ := f4 i x hi
            exact ⟨a1, e1, e2, by rw [cell_veil (by simp)]; exact e3⟩⟩
        · have e := q.block pp.block (by omega) (by intro e; cases e)
          unfold World.cell? at hpc ⊢
          rw [e]; exact hpc
/-- append(v, E..): mappings behind an own row. -/
theorem step_app_maps (hgd : o.guard = none) (s x : Operand)
    (ho : o.op = .call { callee := .builtin .append, args := #[s, x], argTypes := #[T, T] }) (ht : P.underlying T = some (.slice 54)) (hi : P.info? 54 = some i0) (z : Value) (hz : i0.zero = some z) (h1 : i0.size = 2) (h2 : i0.bytes = 32) (hzs : z.cells.size = 2)
    (S : List Nat) (base : Nat) (v : Value) (D F : List Mp) (k : Nat) (qs : List (Int × Value)) (hs : a.eval s = v) (hx : a.eval x = .slice (some ⟨k, 0, none⟩) F.length F.length) (hown : OwnM S X base v D) (hk : Blk X k 54 (mpCells qs).toArray) (hqm : qs.map (·.1) = F.map (·.1))
    (hq : ∀ (i : Nat) (p : Int × Value) (d : Mp), qs[i]? = some p → F[i]? = some d → Ints (veil (S ++ v.ownBlock.toList) X) X.heap.size .i64 p.2 d.2)
    (hF : 0 < F.length) (hn : D.length + F.length ≤ 1000000) (hb : base ≤ X.heap.size)
    (h : ∀ v' w', OwnM S w' base v' (D ++ F) → X.grownBy w' v.ownBlock → (∀ g, v'.ownBlock = some g → v.ownBlock = some g ∨ g = X.heap.size) → (∃ A m c, v' = .slice A m c) → K (a.put o.dst v') w') :
    if Region.wanted o (yielded ops a.tmps) = true then Oper.wp P o a X K Q else E := by
  obtain ⟨ps, hm, hlen, ho', hr⟩ := hown
  have hql : qs.length = F.length := by have := congrArg List.length hqm; simpa using this
  refine step_append_lies _ hgd s x T ho base 54 i0 z 2 32 ht hi hz h1 h2 hzs (by omega) v ps.length (mpCells ps) hs ho' ⟨k, 0, none⟩ F.length F.length (mpCells qs) hx (by rw [mpCells_len, hql]) (fun j u hj => ?_) ?_ hF (by unfold maxLen; omega) (by omega) hb X.heap.size rfl ?_
  · have e : Addr.add ⟨k, 0, none⟩ j = ⟨k, j, none⟩ := by cases j <;> simp [Addr.add]
    rw [e]; exact hk.at_ (by simpa using hj)
  · intro y hy
    obtain ⟨p, hp, hy⟩ := List.mem_flatMap.1 hy
    obtain ⟨i, hi⟩ := List.mem_iff_getElem?.1 hp
    have hil := (List.getElem?_eq_some_iff.1 hi).1
    obtain ⟨d, hd⟩ : ∃ d, F[i]? = some d := ⟨_, List.getElem?_eq_getElem (by omega)⟩
    obtain ⟨A', c', e, _⟩ := hq i p d hi hd
    simp at hy
    rcases hy with rfl | rfl
    · rfl
    · rw [e]; rfl
  · intro g cap w' p q r _
    have hr' : ∀ g', (Value.slice (some ⟨g, 0, none⟩) (ps.length + F.length) cap).ownBlock = some g' → v.ownBlock = some g' ∨ g' = X.heap.size := fun g' hg' => by
      simp only [Value.ownBlock, Option.some.injEq] at hg'
      subst hg'; exact r
    refine h _ w' ⟨ps ++ qs, by simp [hm, hqm], by simp [hlen, hql], by rw [mpCells_app]; simpa [hql] using p, ?_⟩ q hr' ⟨_, _, _, rfl⟩
    intro i p' d hp hd
    have key : ∀ sv l, Ints (veil (S ++ v.ownBlock.toList) X) X.heap.size .i64 sv l → Ints (veil (S ++ (Value.slice (some ⟨g, 0, none⟩) (ps.length + F.length) cap).ownBlock.toList) w') w'.heap.size .i64 sv l :=
      fun sv l hI => Ints.more (hI.reveil (grown_reveil q hr')) q.size
    by_cases hil : i < ps.length
    · rw [List.getElem?_append_left hil] at hp
      rw [List.getElem?_append_left (by omega)] at hd
      exact key _ _ (hr i p' d hp hd)
    · rw [List.getElem?_append_right (by omega)] at hp
      rw [List.getElem?_append_right (by omega), ← hlen] at hd
      exact key _ _ (hq _ p' d hp hd)
theorem wpList_copy_map {rest : List Oper} (hgd : o.guard = none) (s x : Operand)
    (ho : o.op = .call { callee := .builtin .append, args := #[s, x], argTypes := #[T, T] }) (ht : P.underlying T = some (.slice 54)) (hi : P.info? 54 = some i0) (z : Value) (hz : i0.zero = some z) (h1 : i0.size = 2) (h2 : i0.bytes = 32) (hzs : z.cells.size = 2)
    (S : List Nat) (base B : Nat) (u : Value) (D : List Mp) (hS : ∀ x ∈ S, B ≤ x) (hs : a.eval s = .slice none 0 0) (hx : a.eval x = u) (hu : Mapps X B u D) (hB : B ≤ X.heap.size) (hn : D.length ≤ 1000000) (hb : base ≤ X.heap.size)
    (h : ∀ v' w', OwnM S w' base v' D → X.grownBy w' none → wpList P ops Q rest (a.put o.dst v') w') : wpList P ops Q (o :: rest) a X :=
  wpList_step fun _ hK => step_copy_map hgd s x ho ht hi z hz h1 h2 hzs S base B u D hS hs hx hu hB hn hb fun v' w' p q => hK _ _ (h v' w' p q)
theorem wpList_app_maps {rest : List Oper} (hgd : o.guard = none) (s x : Operand)
    (ho : o.op = .call { callee := .builtin .append, args := #[s, x], argTypes := #[T, T] }) (ht : P.underlying T = some (.slice 54)) (hi : P.info? 54 = some i0) (z : Value) (hz : i0.zero = some z) (h1 : i0.size = 2) (h2 : i0.bytes = 32) (hzs : z.cells.size = 2)
    (S : List Nat) (base : Nat) (v : Value) (D F : List Mp) (k : Nat) (qs : List (Int × Value)) (hs : a.eval s = v) (hx : a.eval x = .slice (some ⟨k, 0, none⟩) F.length F.length) (hown : OwnM S X base v D) (hk : Blk X k 54 (mpCells qs).toArray) (hqm : qs.map (·.1) = F.map (·.1))
    (hq : ∀ (i : Nat) (p : Int × Value) (d : Mp), qs[i]? = some p → F[i]? = some d → Ints (veil (S ++ v.ownBlock.toList) X) X.heap.size .i64 p.2 d.2)
    (hF : 0 < F.length) (hn : D.length + F.length ≤ 1000000) (hb : base ≤ X.heap.size)
    (h : ∀ v' w', OwnM S w' base v' (D ++ F) → X.grownBy w' v.ownBlock → (∃ A m c, v' = .slice A m c) → wpList P ops Q rest (a.put o.dst v') w') : wpList P ops Q (o :: rest) a X :=
  wpList_step fun _ hK => step_app_maps hgd s x ho ht hi z hz h1 h2 hzs S base v D F k qs hs hx hown hk hqm hq hF hn hb fun v' w' p q _ sl => hK _ _ (h v' w' p q sl)
end
theorem OwnM.later {S : List Nat} {w w' : World} {base : Nat} {v : Value} {D : List Mp} (h : OwnM S w base v D) (hb : Below w.heap.size w w') (hS : ∀ x ∈ S, x < base) : OwnM S w' base v D :=
  h.kept (onlyIn.of_below hb) fun q hq hx => by
    obtain ⟨ps, _, _, ho, _⟩ := h
    have h1 := (ho.lt q hq).1
    have h2 := hS q hx
    omega
/-- A new block of integers, read where an own row of mappings and the blocks S are not looked at. -/
theorem new_ints {S : List Nat} {w : World} {base : Nat} {v : Value} {D : List Mp} (h : OwnM S w base v D) (hS : ∀ x ∈ S, x < w.heap.size) (ys : List Int) (hl : ys.length ≤ 1000000) {w' : World} (hb : Below (w.alloc (.cells (ys.map (Value.int .i64)).toArray 3)).heap.size (w.alloc (.cells (ys.map (Value.int .i64)).toArray 3)) w') :
    Ints (veil (S ++ v.ownBlock.toList) w') w'.heap.size .i64 (.slice (some ⟨w.heap.size, 0, none⟩) ys.length ys.length) ys := by
  refine Ints.veil_own' (own_later (own_new w 3 ys hl) hb) fun q hq hx => ?_
  simp only [Value.ownBlock, Option.some.injEq] at hq
  subst hq
  rcases List.mem_append.1 hx with hx | hx
  · have := hS _ hx; omega
  · rw [Option.mem_toList] at hx
    obtain ⟨ps, _, _, ho, _⟩ := h
    have := (ho.lt _ hx).2; omega
/-- A part of a new block of integers. -/
theorem new_ints_off {S : List Nat} {w : World} {base : Nat} {v : Value} {D : List Mp} (h : OwnM S w base v D) (hS : ∀ x ∈ S, x < w.heap.size) (ys : List Int) (off n c : Nat) (_ : ys.length ≤ 1000000) (hn : off + n ≤ ys.length) (hc : n ≤ c) (hc2 : c ≤ 1000000) {w' : World} (hb : Below (w.alloc (.cells (ys.map (Value.int .i64)).toArray 3)).heap.size (w.alloc (.cells (ys.map (Value.int .i64)).toArray 3)) w') :
    Ints (veil (S ++ v.ownBlock.toList) w') w'.heap.size .i64 (.slice (some ⟨w.heap.size, off, none⟩) n c) ((ys.drop off).take n) := by
  have hk := (Blk.new w 3 (ys.map (Value.int .i64)).toArray).later hb
  have hlen : ((ys.drop off).take n).length = n := by simp; omega
  refine ⟨some ⟨w.heap.size, off, none⟩, c, by rw [hlen], by omega, by unfold maxLen; omega, (by intro h; cases h), fun i x hi => ⟨_, rfl, by have := hk.lt; simpa using this, ?_⟩⟩
  have hn' : w.heap.size ∉ S ++ v.ownBlock.toList := fun hx => by
    rcases List.mem_append.1 hx with hx | hx
    · have := hS _ hx; omega
    · rw [Option.mem_toList] at hx
      obtain ⟨ps, _, _, ho, _⟩ := h
      have := (ho.lt _ hx).2; omega
  have e : Addr.add ⟨w.heap.size, off, none⟩ i = ⟨w.heap.size, off + i, none⟩ := by cases i <;> simp [Addr.add]
  rw [e, cell_veil (by exact hn')]
  have hil := (List.getElem?_eq_some_iff.1 hi).1
  rw [List.getElem?_take, if_pos (by omega), List.getElem?_drop] at hi
  exact hk.at_ (by simp [hi])
end Go.Proofs.YtkdhldhbjomiaaaDoor
