/-
  Merged texts: lemmas and walks that the last text of this claim leans on.
-/
import Derived.Test.YtecpbicfiaifdaaGreatDoorMgB735
import Derived.Test.YtecpbicfiaifdaaGreatDoorMgB729
import Derived.Test.YtecpbicfiaifdaaGreatDoorMgB722
import Derived.Test.YtecpbicfiaifdaaGreatDoorMgB723
/-
  The walk through the reference's Key.
-/
namespace Go.Proofs.YtecpbicfiaifdaaGreatDoor
open Go.RowKit ND

set_option maxRecDepth 100000 in
set_option maxHeartbeats 2000000 in
theorem refKey_any (t : Tv) (T : Tab) (v : Value) (xs : List Int) (w : World) (ht : TabR w w.heap.size t T) (hv : Ints w w.heap.size .i64 v xs) :
    Calls Tryz.prog 63 #[t.val, v] w (RetKey w (keyR T xs)) := by
  obtain ⟨A, c, rfl, _⟩ := id hv
  have HB0 : Hid (Below w.heap.size w (w.alloc (.cells t.cells 26))) := Lib.hid ((Below.refl _ _).alloc (Nat.le_refl _) _)
  have HT : Hid (Tbl (w.alloc (.cells t.cells 26)) w.heap.size t T) := Lib.hid ⟨Blk.new _ _ _, ht.later HB0.out⟩
  have HV := Lib.hid (hv.later HB0.out)
  clear ht hv
  have H1 := Lib.hid (refOf_any t T _ xs _ HT.out.2 HV.out)
  obtain ⟨dl, e1, hd⟩ : ∃ dl e1, skelR T xs = (dl, e1) := ⟨_, _, rfl⟩
  rw [hd] at H1
  by_cases h1 : e1 = 0
  · subst h1
    have HR := Lib.hid (keyR_ok hd)
    clear hd
    generalize keyR T xs = R at *
    go_enter Tryz.func63, Tryz.ntmps63
    go_upto_region 1 with fail
    generalize w.alloc (.cells t.cells 26) = w1 at *
    obtain ⟨x0, x1, x2, x3, x4, x5, x6, x7, x8, x9, x10, x11⟩ := HT.out.1.tab
    go_upto_region 2 with (go_at_call 26; refine H1.out.mono ?_; rintro e w2 ⟨u2, rfl, ho2, b2⟩; obtain ⟨A2, c2, rfl, _⟩ := id (Ints.of_own ho2); have HU2 := Lib.hid (Ints.of_own ho2); clear ho2)
    clear x0 x1 x2 x3 x4 x5 x6 x7 x8 x9 x10 x11
    go_wp2_with (go_at_call 85; refine (refEnc_any _ dl _ HU2.out).mono ?_; rintro e w3 ⟨rfl, b3⟩)
    go_ret2
    rw [HR.out]
    exact ⟨rfl, below_next (below_next HB0.out b2) b3⟩
  · have HR := Lib.hid (keyR_err hd h1)
    have hb : (e1 != 0) = true := by simpa using h1
    clear hd h1
    generalize keyR T xs = R at *
    go_enter Tryz.func63, Tryz.ntmps63
    go_upto_region 1 with fail
    generalize w.alloc (.cells t.cells 26) = w1 at *
    obtain ⟨x0, x1, x2, x3, x4, x5, x6, x7, x8, x9, x10, x11⟩ := HT.out.1.tab
    go_wp2_with (go_at_call 26; refine H1.out.mono ?_; rintro e w2 ⟨u2, rfl, ho2, b2⟩; obtain ⟨A2, c2, rfl, _⟩ := id (Ints.of_own ho2); have HU2 := Lib.hid (Ints.of_own ho2); clear ho2)
    go_ret2
    rw [HR.out]
    exact ⟨rfl, below_next HB0.out b2⟩
end Go.Proofs.YtecpbicfiaifdaaGreatDoor
/-
  The walk through agrees of the laws of layer 20: for whatever tables and sequences.
-/
namespace Go.Proofs.YtecpbicfiaifdaaGreatDoor
open Go.RowKit ND

/-- What holds ahead of region 7. -/
structure ag20Ctx (w0 : World) (b : Nat) (t : Tv) (T : Tab) (va : Value) (xs : List Int) (v1 : Value) (v2 : Value) (y1 : List Int) (n1 : Int) (v3 : Value) (v4 : Value) (y2 : List Int) (n2 : Int) (ks : ByteArray) (n3 : Int) : Prop where
  tb : Tbl w0 b t T
  g : Glob w0
  v : Ints w0 w0.heap.size .i64 va xs
  i1 : Ints w0 w0.heap.size .i64 v1 y1
  i2 : Ints w0 w0.heap.size .i64 v2 y1
  i3 : Ints w0 w0.heap.size .i64 v3 y2
  i4 : Ints w0 w0.heap.size .i64 v4 y2
def ag20Specs (t : Tv) (T : Tab) (va : Value) (xs : List Int) (v1 : Value) (v2 : Value) (n1 : Int) (v3 : Value) (v4 : Value) (n2 : Int) (ks : ByteArray) (n3 : Int) : List SpecK := [.val v1, .val v2, .val (.bool true), .val (.bool true), .val (.int .i64 n1), .val (.int .i64 n1), .val (.bool true), .val (.bool true), .val (.bool true), .val v3, .val v4, .val (.bool true), .val (.bool true), .val (.bool true), .val (.int .i64 n2), .val (.int .i64 n2), .val (.bool true), .val (.bool true), .val (.bool true), .val (.string ks), .val (.string ks), .val (.bool true), .val (.bool true), .val (.bool true), .val (.int .i64 n3), .val (.int .i64 n3), .val (.bool true), .val (.bool true), .val (.bool true), .val t.val, .val va, .val (.bool (isSkB T xs)), .val t.val, .val va, .val (.bool (isSkB T xs)), .val (.bool true), .val (.bool true), .val (.bool true)]
def ag20Fixed (b : Nat) (va : Value) (v1 : Value) (v2 : Value) (n1 : Int) (v3 : Value) (v4 : Value) (n2 : Int) (ks : ByteArray) (n3 : Int) : List (Tmp × Value) := [(1, va), (2, .pointer (some ⟨b, 0, none⟩)), (5, v1), (6, .int .i64 n1), (7, v2), (8, .int .i64 n1), (9, v3), (10, .int .i64 n2), (11, v4), (12, .int .i64 n2), (13, .string ks), (14, .int .i64 n3), (15, .string ks), (16, .int .i64 n3)]
def ag20Ob (w0 : World) (b : Nat) (t : Tv) (T : Tab) (va : Value) (xs : List Int) (v1 : Value) (v2 : Value) (n1 : Int) (v3 : Value) (v4 : Value) (n2 : Int) (ks : ByteArray) (n3 : Int) (Q : Exit → Act → World → Prop) (k : Nat) : Prop := ObR 24 Tryz.prog (opsAt Tryz.f32 7) 90 [] (ag20Fixed b va v1 v2 n1 v3 v4 n2 ks n3) w0 (ag20Specs t T va xs v1 v2 n1 v3 v4 n2 ks n3) [] Q k
section
variable {w0 : World} {b : Nat} {t : Tv} {T : Tab} {va : Value} {xs : List Int} {v1 : Value} {v2 : Value} {y1 : List Int} {n1 : Int} {v3 : Value} {v4 : Value} {y2 : List Int} {n2 : Int} {ks : ByteArray} {n3 : Int} {Q : Exit → Act → World → Prop}
theorem ag20_ob0 : ag20Ob w0 b t T va xs v1 v2 n1 v3 v4 n2 ks n3 Q 0 := by
  intro o ho a w hb hf hd K hK
  rw [if_pos (wanted_none _ (get_op (·.guard) ho (by kernel_rfl)))]
  exact ob_move (get_op (·.op) ho (by kernel_rfl)) (eval_tmp (hf.2.2 (5, _) (by simp [ag20Fixed]))) (hK _ _ (rk_of rfl rfl) (.inl (Below.refl _ _)))
theorem ag20_ob1 : ag20Ob w0 b t T va xs v1 v2 n1 v3 v4 n2 ks n3 Q 1 := by
  intro o ho a w hb hf hd K hK
  rw [if_pos (wanted_none _ (get_op (·.guard) ho (by kernel_rfl)))]
  exact ob_move (get_op (·.op) ho (by kernel_rfl)) (eval_tmp (hf.2.2 (7, _) (by simp [ag20Fixed]))) (hK _ _ (rk_of rfl rfl) (.inl (Below.refl _ _)))
theorem ag20_ob2 (H : ag20Ctx w0 b t T va xs v1 v2 y1 n1 v3 v4 y2 n2 ks n3) : ag20Ob w0 b t T va xs v1 v2 n1 v3 v4 n2 ks n3 Q 2 := by
  intro o ho a w hb hf hd K hK
  rw [if_pos (wanted_none _ (get_op (·.guard) ho (by kernel_rfl)))]
  obtain ⟨v0, h0, e0⟩ := dep_k (F := 24) ho hd 0 53 (.val v1) (by kernel_rfl) (by kernel_rfl) rfl (by kernel_rfl)
  obtain rfl : _ = v0 := Eq.symm e0
  obtain ⟨v1, h1, e1⟩ := dep_k (F := 24) ho hd 1 54 (.val v2) (by kernel_rfl) (by kernel_rfl) rfl (by kernel_rfl)
  obtain rfl : _ = v1 := Eq.symm e1
  refine ob_enter (enter2 (tys := #[22, 22]) (x := .tmp 53) (y := .tmp 54) (get_op (·.op) ho (by kernel_rfl)) (eval_tmp h0) (eval_tmp h1) (fun args w => enters_of Tryz.func17 (by kernel_rfl) rfl args w)) (same_of _ _ _ _ w (H.i1.later hb) (H.i2.later hb) rfl) fun e w' ⟨he, h1⟩ => ⟨_, he, ?_⟩
  exact hK _ _ (rk_of rfl rfl) (.inl h1)
theorem ag20_ob3 : ag20Ob w0 b t T va xs v1 v2 n1 v3 v4 n2 ks n3 Q 3 := by
  intro o ho a w hb hf hd K hK
  rw [if_pos (wanted_none _ (get_op (·.guard) ho (by kernel_rfl)))]
  obtain ⟨v2, h2, e2⟩ := dep_k (F := 24) ho hd 2 55 (.val (.bool true)) (by kernel_rfl) (by kernel_rfl) rfl (by kernel_rfl)
  obtain rfl : _ = v2 := Eq.symm e2
  exact ob_move (get_op (·.op) ho (by kernel_rfl)) (eval_tmp h2) (hK _ _ (rk_of rfl rfl) (.inl (Below.refl _ _)))
theorem ag20_ob4 : ag20Ob w0 b t T va xs v1 v2 n1 v3 v4 n2 ks n3 Q 4 := by
  intro o ho a w hb hf hd K hK
  obtain ⟨v3, h3, e3⟩ := dep_k (F := 24) ho hd 3 56 (.val (.bool true)) (by kernel_rfl) (by kernel_rfl) rfl (by kernel_rfl)
  obtain rfl : _ = v3 := Eq.symm e3
  rw [if_pos (wanted_at (g := 3) (b := true) ho (by kernel_rfl) (by kernel_rfl) h3 rfl)]
  exact ob_move (get_op (·.op) ho (by kernel_rfl)) (eval_tmp (hf.2.2 (6, _) (by simp [ag20Fixed]))) (hK _ _ (rk_of rfl rfl) (.inl (Below.refl _ _)))
theorem ag20_ob5 : ag20Ob w0 b t T va xs v1 v2 n1 v3 v4 n2 ks n3 Q 5 := by
  intro o ho a w hb hf hd K hK
  obtain ⟨v3, h3, e3⟩ := dep_k (F := 24) ho hd 3 56 (.val (.bool true)) (by kernel_rfl) (by kernel_rfl) rfl (by kernel_rfl)
  obtain rfl : _ = v3 := Eq.symm e3
  rw [if_pos (wanted_at (g := 3) (b := true) ho (by kernel_rfl) (by kernel_rfl) h3 rfl)]
  exact ob_move (get_op (·.op) ho (by kernel_rfl)) (eval_tmp (hf.2.2 (8, _) (by simp [ag20Fixed]))) (hK _ _ (rk_of rfl rfl) (.inl (Below.refl _ _)))
theorem ag20_ob6 : ag20Ob w0 b t T va xs v1 v2 n1 v3 v4 n2 ks n3 Q 6 := by
  intro o ho a w hb hf hd K hK
  obtain ⟨v3, h3, e3⟩ := dep_k (F := 24) ho hd 3 56 (.val (.bool true)) (by kernel_rfl) (by kernel_rfl) rfl (by kernel_rfl)
  obtain rfl : _ = v3 := Eq.symm e3
  rw [if_pos (wanted_at (g := 3) (b := true) ho (by kernel_rfl) (by kernel_rfl) h3 rfl)]
  obtain ⟨v4, h4, e4⟩ := dep_k (F := 24) ho hd 4 57 (.val (.int .i64 n1)) (by kernel_rfl) (by kernel_rfl) rfl (by kernel_rfl)
  obtain rfl : _ = v4 := Eq.symm e4
  obtain ⟨v5, h5, e5⟩ := dep_k (F := 24) ho hd 5 58 (.val (.int .i64 n1)) (by kernel_rfl) (by kernel_rfl) rfl (by kernel_rfl)
  obtain rfl : _ = v5 := Eq.symm e5
  have hr : (execOp a.eval o).run Tryz.prog w = .ok (.value (.bool true)) w := by
    have hop : o.op = .binOp .eql 29 (.tmp 57) (.tmp 58) 29 := get_op (·.op) ho (by kernel_rfl)
    unfold execOp
    rw [hop]
    go_simp
  exact ob_run5 hr (hK _ _ (rk_of rfl rfl) (.inl (Below.refl _ _)))
theorem ag20_ob7 : ag20Ob w0 b t T va xs v1 v2 n1 v3 v4 n2 ks n3 Q 7 := by
  intro o ho a w hb hf hd K hK
  rw [if_pos (wanted_none _ (get_op (·.guard) ho (by kernel_rfl)))]
  obtain ⟨v3, h3, e3⟩ := dep_k (F := 24) ho hd 3 56 (.val (.bool true)) (by kernel_rfl) (by kernel_rfl) rfl (by kernel_rfl)
  obtain rfl : _ = v3 := Eq.symm e3
  obtain ⟨v6, h6, e6⟩ := dep_k (F := 24) ho hd 6 59 (.val (.bool true)) (by kernel_rfl) (by kernel_rfl) rfl (by kernel_rfl)
  obtain rfl : _ = v6 := Eq.symm e6
  exact ob_pick (c := .tmp 56) (x := .tmp 59) (y := .const (.bool false)) (b := true) (get_op (·.op) ho (by kernel_rfl)) (eval_tmp h3) (eval_tmp h6) (hK _ _ (rk_of rfl rfl) (.inl (Below.refl _ _)))
theorem ag20_ob8 : ag20Ob w0 b t T va xs v1 v2 n1 v3 v4 n2 ks n3 Q 8 := by
  intro o ho a w hb hf hd K hK
  rw [if_pos (wanted_none _ (get_op (·.guard) ho (by kernel_rfl)))]
  obtain ⟨v7, h7, e7⟩ := dep_k (F := 24) ho hd 7 60 (.val (.bool true)) (by kernel_rfl) (by kernel_rfl) rfl (by kernel_rfl)
  obtain rfl : _ = v7 := Eq.symm e7
  exact ob_move (get_op (·.op) ho (by kernel_rfl)) (eval_tmp h7) (hK _ _ (rk_of rfl rfl) (.inl (Below.refl _ _)))
theorem ag20_ob9 : ag20Ob w0 b t T va xs v1 v2 n1 v3 v4 n2 ks n3 Q 9 := by
  intro o ho a w hb hf hd K hK
  obtain ⟨v8, h8, e8⟩ := dep_k (F := 24) ho hd 8 61 (.val (.bool true)) (by kernel_rfl) (by kernel_rfl) rfl (by kernel_rfl)
  obtain rfl : _ = v8 := Eq.symm e8
  rw [if_pos (wanted_at (g := 8) (b := true) ho (by kernel_rfl) (by kernel_rfl) h8 rfl)]
  exact ob_move (get_op (·.op) ho (by kernel_rfl)) (eval_tmp (hf.2.2 (9, _) (by simp [ag20Fixed]))) (hK _ _ (rk_of rfl rfl) (.inl (Below.refl _ _)))
theorem ag20_ob10 : ag20Ob w0 b t T va xs v1 v2 n1 v3 v4 n2 ks n3 Q 10 := by
  intro o ho a w hb hf hd K hK
  obtain ⟨v8, h8, e8⟩ := dep_k (F := 24) ho hd 8 61 (.val (.bool true)) (by kernel_rfl) (by kernel_rfl) rfl (by kernel_rfl)
  obtain rfl : _ = v8 := Eq.symm e8
  rw [if_pos (wanted_at (g := 8) (b := true) ho (by kernel_rfl) (by kernel_rfl) h8 rfl)]
  exact ob_move (get_op (·.op) ho (by kernel_rfl)) (eval_tmp (hf.2.2 (11, _) (by simp [ag20Fixed]))) (hK _ _ (rk_of rfl rfl) (.inl (Below.refl _ _)))
theorem ag20_ob11 (H : ag20Ctx w0 b t T va xs v1 v2 y1 n1 v3 v4 y2 n2 ks n3) : ag20Ob w0 b t T va xs v1 v2 n1 v3 v4 n2 ks n3 Q 11 := by
  intro o ho a w hb hf hd K hK
  obtain ⟨v8, h8, e8⟩ := dep_k (F := 24) ho hd 8 61 (.val (.bool true)) (by kernel_rfl) (by kernel_rfl) rfl (by kernel_rfl)
  obtain rfl : _ = v8 := Eq.symm e8
  rw [if_pos (wanted_at (g := 8) (b := true) ho (by kernel_rfl) (by kernel_rfl) h8 rfl)]
  obtain ⟨v9, h9, e9⟩ := dep_k (F := 24) ho hd 9 62 (.val v3) (by kernel_rfl) (by kernel_rfl) rfl (by kernel_rfl)
  obtain rfl : _ = v9 := Eq.symm e9
  obtain ⟨v10, h10, e10⟩ := dep_k (F := 24) ho hd 10 63 (.val v4) (by kernel_rfl) (by kernel_rfl) rfl (by kernel_rfl)
  obtain rfl : _ = v10 := Eq.symm e10
  refine ob_enter (enter2 (tys := #[22, 22]) (x := .tmp 62) (y := .tmp 63) (get_op (·.op) ho (by kernel_rfl)) (eval_tmp h9) (eval_tmp h10) (fun args w => enters_of Tryz.func17 (by kernel_rfl) rfl args w)) (same_of _ _ _ _ w (H.i3.later hb) (H.i4.later hb) rfl) fun e w' ⟨he, h1⟩ => ⟨_, he, ?_⟩
  exact hK _ _ (rk_of rfl rfl) (.inl h1)
theorem ag20_ob12 : ag20Ob w0 b t T va xs v1 v2 n1 v3 v4 n2 ks n3 Q 12 := by
  intro o ho a w hb hf hd K hK
  rw [if_pos (wanted_none _ (get_op (·.guard) ho (by kernel_rfl)))]
  obtain ⟨v8, h8, e8⟩ := dep_k (F := 24) ho hd 8 61 (.val (.bool true)) (by kernel_rfl) (by kernel_rfl) rfl (by kernel_rfl)
  obtain rfl : _ = v8 := Eq.symm e8
  obtain ⟨v11, h11, e11⟩ := dep_k (F := 24) ho hd 11 64 (.val (.bool true)) (by kernel_rfl) (by kernel_rfl) rfl (by kernel_rfl)
  obtain rfl : _ = v11 := Eq.symm e11
  exact ob_pick (c := .tmp 61) (x := .tmp 64) (y := .const (.bool false)) (b := true) (get_op (·.op) ho (by kernel_rfl)) (eval_tmp h8) (eval_tmp h11) (hK _ _ (rk_of rfl rfl) (.inl (Below.refl _ _)))
theorem ag20_ob13 : ag20Ob w0 b t T va xs v1 v2 n1 v3 v4 n2 ks n3 Q 13 := by
  intro o ho a w hb hf hd K hK
  rw [if_pos (wanted_none _ (get_op (·.guard) ho (by kernel_rfl)))]
  obtain ⟨v12, h12, e12⟩ := dep_k (F := 24) ho hd 12 65 (.val (.bool true)) (by kernel_rfl) (by kernel_rfl) rfl (by kernel_rfl)
  obtain rfl : _ = v12 := Eq.symm e12
  exact ob_move (get_op (·.op) ho (by kernel_rfl)) (eval_tmp h12) (hK _ _ (rk_of rfl rfl) (.inl (Below.refl _ _)))
theorem ag20_ob14 : ag20Ob w0 b t T va xs v1 v2 n1 v3 v4 n2 ks n3 Q 14 := by
  intro o ho a w hb hf hd K hK
  obtain ⟨v13, h13, e13⟩ := dep_k (F := 24) ho hd 13 66 (.val (.bool true)) (by kernel_rfl) (by kernel_rfl) rfl (by kernel_rfl)
  obtain rfl : _ = v13 := Eq.symm e13
  rw [if_pos (wanted_at (g := 13) (b := true) ho (by kernel_rfl) (by kernel_rfl) h13 rfl)]
  exact ob_move (get_op (·.op) ho (by kernel_rfl)) (eval_tmp (hf.2.2 (10, _) (by simp [ag20Fixed]))) (hK _ _ (rk_of rfl rfl) (.inl (Below.refl _ _)))
theorem ag20_ob15 : ag20Ob w0 b t T va xs v1 v2 n1 v3 v4 n2 ks n3 Q 15 := by
  intro o ho a w hb hf hd K hK
  obtain ⟨v13, h13, e13⟩ := dep_k (F := 24) ho hd 13 66 (.val (.bool true)) (by kernel_rfl) (by kernel_rfl) rfl (by kernel_rfl)
  obtain rfl : _ = v13 := Eq.symm e13
  rw [if_pos (wanted_at (g := 13) (b := true) ho (by kernel_rfl) (by kernel_rfl) h13 rfl)]
  exact ob_move (get_op (·.op) ho (by kernel_rfl)) (eval_tmp (hf.2.2 (12, _) (by simp [ag20Fixed]))) (hK _ _ (rk_of rfl rfl) (.inl (Below.refl _ _)))
theorem ag20_ob16 : ag20Ob w0 b t T va xs v1 v2 n1 v3 v4 n2 ks n3 Q 16 := by
  intro o ho a w hb hf hd K hK
  obtain ⟨v13, h13, e13⟩ := dep_k (F := 24) ho hd 13 66 (.val (.bool true)) (by kernel_rfl) (by kernel_rfl) rfl (by kernel_rfl)
  obtain rfl : _ = v13 := Eq.symm e13
  rw [if_pos (wanted_at (g := 13) (b := true) ho (by kernel_rfl) (by kernel_rfl) h13 rfl)]
  obtain ⟨v14, h14, e14⟩ := dep_k (F := 24) ho hd 14 67 (.val (.int .i64 n2)) (by kernel_rfl) (by kernel_rfl) rfl (by kernel_rfl)
  obtain rfl : _ = v14 := Eq.symm e14
  obtain ⟨v15, h15, e15⟩ := dep_k (F := 24) ho hd 15 68 (.val (.int .i64 n2)) (by kernel_rfl) (by kernel_rfl) rfl (by kernel_rfl)
  obtain rfl : _ = v15 := Eq.symm e15
  have hr : (execOp a.eval o).run Tryz.prog w = .ok (.value (.bool true)) w := by
    have hop : o.op = .binOp .eql 29 (.tmp 67) (.tmp 68) 29 := get_op (·.op) ho (by kernel_rfl)
    unfold execOp
    rw [hop]
    go_simp
  exact ob_run5 hr (hK _ _ (rk_of rfl rfl) (.inl (Below.refl _ _)))
theorem ag20_ob17 : ag20Ob w0 b t T va xs v1 v2 n1 v3 v4 n2 ks n3 Q 17 := by
  intro o ho a w hb hf hd K hK
  rw [if_pos (wanted_none _ (get_op (·.guard) ho (by kernel_rfl)))]
  obtain ⟨v13, h13, e13⟩ := dep_k (F := 24) ho hd 13 66 (.val (.bool true)) (by kernel_rfl) (by kernel_rfl) rfl (by kernel_rfl)
  obtain rfl : _ = v13 := Eq.symm e13
  obtain ⟨v16, h16, e16⟩ := dep_k (F := 24) ho hd 16 69 (.val (.bool true)) (by kernel_rfl) (by kernel_rfl) rfl (by kernel_rfl)
  obtain rfl : _ = v16 := Eq.symm e16
  exact ob_pick (c := .tmp 66) (x := .tmp 69) (y := .const (.bool false)) (b := true) (get_op (·.op) ho (by kernel_rfl)) (eval_tmp h13) (eval_tmp h16) (hK _ _ (rk_of rfl rfl) (.inl (Below.refl _ _)))
theorem ag20_ob18 : ag20Ob w0 b t T va xs v1 v2 n1 v3 v4 n2 ks n3 Q 18 := by
  intro o ho a w hb hf hd K hK
  rw [if_pos (wanted_none _ (get_op (·.guard) ho (by kernel_rfl)))]
  obtain ⟨v17, h17, e17⟩ := dep_k (F := 24) ho hd 17 70 (.val (.bool true)) (by kernel_rfl) (by kernel_rfl) rfl (by kernel_rfl)
  obtain rfl : _ = v17 := Eq.symm e17
  exact ob_move (get_op (·.op) ho (by kernel_rfl)) (eval_tmp h17) (hK _ _ (rk_of rfl rfl) (.inl (Below.refl _ _)))
theorem ag20_ob19 : ag20Ob w0 b t T va xs v1 v2 n1 v3 v4 n2 ks n3 Q 19 := by
  intro o ho a w hb hf hd K hK
  obtain ⟨v18, h18, e18⟩ := dep_k (F := 24) ho hd 18 71 (.val (.bool true)) (by kernel_rfl) (by kernel_rfl) rfl (by kernel_rfl)
  obtain rfl : _ = v18 := Eq.symm e18
  rw [if_pos (wanted_at (g := 18) (b := true) ho (by kernel_rfl) (by kernel_rfl) h18 rfl)]
  exact ob_move (get_op (·.op) ho (by kernel_rfl)) (eval_tmp (hf.2.2 (13, _) (by simp [ag20Fixed]))) (hK _ _ (rk_of rfl rfl) (.inl (Below.refl _ _)))
theorem ag20_ob20 : ag20Ob w0 b t T va xs v1 v2 n1 v3 v4 n2 ks n3 Q 20 := by
  intro o ho a w hb hf hd K hK
  obtain ⟨v18, h18, e18⟩ := dep_k (F := 24) ho hd 18 71 (.val (.bool true)) (by kernel_rfl) (by kernel_rfl) rfl (by kernel_rfl)
  obtain rfl : _ = v18 := Eq.symm e18
  rw [if_pos (wanted_at (g := 18) (b := true) ho (by kernel_rfl) (by kernel_rfl) h18 rfl)]
  exact ob_move (get_op (·.op) ho (by kernel_rfl)) (eval_tmp (hf.2.2 (15, _) (by simp [ag20Fixed]))) (hK _ _ (rk_of rfl rfl) (.inl (Below.refl _ _)))
theorem ag20_ob21 : ag20Ob w0 b t T va xs v1 v2 n1 v3 v4 n2 ks n3 Q 21 := by
  intro o ho a w hb hf hd K hK
  obtain ⟨v18, h18, e18⟩ := dep_k (F := 24) ho hd 18 71 (.val (.bool true)) (by kernel_rfl) (by kernel_rfl) rfl (by kernel_rfl)
  obtain rfl : _ = v18 := Eq.symm e18
  rw [if_pos (wanted_at (g := 18) (b := true) ho (by kernel_rfl) (by kernel_rfl) h18 rfl)]
  obtain ⟨v19, h19, e19⟩ := dep_k (F := 24) ho hd 19 72 (.val (.string ks)) (by kernel_rfl) (by kernel_rfl) rfl (by kernel_rfl)
  obtain rfl : _ = v19 := Eq.symm e19
  obtain ⟨v20, h20, e20⟩ := dep_k (F := 24) ho hd 20 73 (.val (.string ks)) (by kernel_rfl) (by kernel_rfl) rfl (by kernel_rfl)
  obtain rfl : _ = v20 := Eq.symm e20
  have hr : (execOp a.eval o).run Tryz.prog w = .ok (.value (.bool true)) w := by
    have hop : o.op = .binOp .eql 9 (.tmp 72) (.tmp 73) 9 := get_op (·.op) ho (by kernel_rfl)
    unfold execOp
    rw [hop]
    go_simp
  exact ob_run5 hr (hK _ _ (rk_of rfl rfl) (.inl (Below.refl _ _)))
theorem ag20_ob22 : ag20Ob w0 b t T va xs v1 v2 n1 v3 v4 n2 ks n3 Q 22 := by
  intro o ho a w hb hf hd K hK
  rw [if_pos (wanted_none _ (get_op (·.guard) ho (by kernel_rfl)))]
  obtain ⟨v18, h18, e18⟩ := dep_k (F := 24) ho hd 18 71 (.val (.bool true)) (by kernel_rfl) (by kernel_rfl) rfl (by kernel_rfl)
  obtain rfl : _ = v18 := Eq.symm e18
  obtain ⟨v21, h21, e21⟩ := dep_k (F := 24) ho hd 21 74 (.val (.bool true)) (by kernel_rfl) (by kernel_rfl) rfl (by kernel_rfl)
  obtain rfl : _ = v21 := Eq.symm e21
  exact ob_pick (c := .tmp 71) (x := .tmp 74) (y := .const (.bool false)) (b := true) (get_op (·.op) ho (by kernel_rfl)) (eval_tmp h18) (eval_tmp h21) (hK _ _ (rk_of rfl rfl) (.inl (Below.refl _ _)))
theorem ag20_ob23 : ag20Ob w0 b t T va xs v1 v2 n1 v3 v4 n2 ks n3 Q 23 := by
  intro o ho a w hb hf hd K hK
  rw [if_pos (wanted_none _ (get_op (·.guard) ho (by kernel_rfl)))]
  obtain ⟨v22, h22, e22⟩ := dep_k (F := 24) ho hd 22 75 (.val (.bool true)) (by kernel_rfl) (by kernel_rfl) rfl (by kernel_rfl)
  obtain rfl : _ = v22 := Eq.symm e22
  exact ob_move (get_op (·.op) ho (by kernel_rfl)) (eval_tmp h22) (hK _ _ (rk_of rfl rfl) (.inl (Below.refl _ _)))
theorem ag20_ob24 : ag20Ob w0 b t T va xs v1 v2 n1 v3 v4 n2 ks n3 Q 24 := by
  intro o ho a w hb hf hd K hK
  obtain ⟨v23, h23, e23⟩ := dep_k (F := 24) ho hd 23 76 (.val (.bool true)) (by kernel_rfl) (by kernel_rfl) rfl (by kernel_rfl)
  obtain rfl : _ = v23 := Eq.symm e23
  rw [if_pos (wanted_at (g := 23) (b := true) ho (by kernel_rfl) (by kernel_rfl) h23 rfl)]
  exact ob_move (get_op (·.op) ho (by kernel_rfl)) (eval_tmp (hf.2.2 (14, _) (by simp [ag20Fixed]))) (hK _ _ (rk_of rfl rfl) (.inl (Below.refl _ _)))
theorem ag20_ob25 : ag20Ob w0 b t T va xs v1 v2 n1 v3 v4 n2 ks n3 Q 25 := by
  intro o ho a w hb hf hd K hK
  obtain ⟨v23, h23, e23⟩ := dep_k (F := 24) ho hd 23 76 (.val (.bool true)) (by kernel_rfl) (by kernel_rfl) rfl (by kernel_rfl)
  obtain rfl : _ = v23 := Eq.symm e23
  rw [if_pos (wanted_at (g := 23) (b := true) ho (by kernel_rfl) (by kernel_rfl) h23 rfl)]
  exact ob_move (get_op (·.op) ho (by kernel_rfl)) (eval_tmp (hf.2.2 (16, _) (by simp [ag20Fixed]))) (hK _ _ (rk_of rfl rfl) (.inl (Below.refl _ _)))
theorem ag20_ob26 : ag20Ob w0 b t T va xs v1 v2 n1 v3 v4 n2 ks n3 Q 26 := by
  intro o ho a w hb hf hd K hK
  obtain ⟨v23, h23, e23⟩ := dep_k (F := 24) ho hd 23 76 (.val (.bool true)) (by kernel_rfl) (by kernel_rfl) rfl (by kernel_rfl)
  obtain rfl : _ = v23 := Eq.symm e23
  rw [if_pos (wanted_at (g := 23) (b := true) ho (by kernel_rfl) (by kernel_rfl) h23 rfl)]
  obtain ⟨v24, h24, e24⟩ := dep_k (F := 24) ho hd 24 77 (.val (.int .i64 n3)) (by kernel_rfl) (by kernel_rfl) rfl (by kernel_rfl)
  obtain rfl : _ = v24 := Eq.symm e24
  obtain ⟨v25, h25, e25⟩ := dep_k (F := 24) ho hd 25 78 (.val (.int .i64 n3)) (by kernel_rfl) (by kernel_rfl) rfl (by kernel_rfl)
  obtain rfl : _ = v25 := Eq.symm e25
  have hr : (execOp a.eval o).run Tryz.prog w = .ok (.value (.bool true)) w := by
    have hop : o.op = .binOp .eql 29 (.tmp 77) (.tmp 78) 29 := get_op (·.op) ho (by kernel_rfl)
    unfold execOp
    rw [hop]
    go_simp
  exact ob_run5 hr (hK _ _ (rk_of rfl rfl) (.inl (Below.refl _ _)))
theorem ag20_ob27 : ag20Ob w0 b t T va xs v1 v2 n1 v3 v4 n2 ks n3 Q 27 := by
  intro o ho a w hb hf hd K hK
  rw [if_pos (wanted_none _ (get_op (·.guard) ho (by kernel_rfl)))]
  obtain ⟨v23, h23, e23⟩ := dep_k (F := 24) ho hd 23 76 (.val (.bool true)) (by kernel_rfl) (by kernel_rfl) rfl (by kernel_rfl)
  obtain rfl : _ = v23 := Eq.symm e23
  obtain ⟨v26, h26, e26⟩ := dep_k (F := 24) ho hd 26 79 (.val (.bool true)) (by kernel_rfl) (by kernel_rfl) rfl (by kernel_rfl)
  obtain rfl : _ = v26 := Eq.symm e26
  exact ob_pick (c := .tmp 76) (x := .tmp 79) (y := .const (.bool false)) (b := true) (get_op (·.op) ho (by kernel_rfl)) (eval_tmp h23) (eval_tmp h26) (hK _ _ (rk_of rfl rfl) (.inl (Below.refl _ _)))
theorem ag20_ob28 : ag20Ob w0 b t T va xs v1 v2 n1 v3 v4 n2 ks n3 Q 28 := by
  intro o ho a w hb hf hd K hK
  rw [if_pos (wanted_none _ (get_op (·.guard) ho (by kernel_rfl)))]
  obtain ⟨v27, h27, e27⟩ := dep_k (F := 24) ho hd 27 80 (.val (.bool true)) (by kernel_rfl) (by kernel_rfl) rfl (by kernel_rfl)
  obtain rfl : _ = v27 := Eq.symm e27
  exact ob_move (get_op (·.op) ho (by kernel_rfl)) (eval_tmp h27) (hK _ _ (rk_of rfl rfl) (.inl (Below.refl _ _)))
theorem ag20_ob29 (H : ag20Ctx w0 b t T va xs v1 v2 y1 n1 v3 v4 y2 n2 ks n3) : ag20Ob w0 b t T va xs v1 v2 n1 v3 v4 n2 ks n3 Q 29 := by
  intro o ho a w hb hf hd K hK
  obtain ⟨v28, h28, e28⟩ := dep_k (F := 24) ho hd 28 81 (.val (.bool true)) (by kernel_rfl) (by kernel_rfl) rfl (by kernel_rfl)
  obtain rfl : _ = v28 := Eq.symm e28
  rw [if_pos (wanted_at (g := 28) (b := true) ho (by kernel_rfl) (by kernel_rfl) h28 rfl)]
  exact ob_value (load_tab (H.tb.later hb) (get_op (·.op) ho (by kernel_rfl)) (eval_tmp (hf.2.2 (2, _) (by simp [ag20Fixed])))) (hK _ _ (rk_of rfl rfl) (.inl (Below.refl _ _)))
theorem ag20_ob30 : ag20Ob w0 b t T va xs v1 v2 n1 v3 v4 n2 ks n3 Q 30 := by
  intro o ho a w hb hf hd K hK
  obtain ⟨v28, h28, e28⟩ := dep_k (F := 24) ho hd 28 81 (.val (.bool true)) (by kernel_rfl) (by kernel_rfl) rfl (by kernel_rfl)
  obtain rfl : _ = v28 := Eq.symm e28
  rw [if_pos (wanted_at (g := 28) (b := true) ho (by kernel_rfl) (by kernel_rfl) h28 rfl)]
  exact ob_move (get_op (·.op) ho (by kernel_rfl)) (eval_tmp (hf.2.2 (1, _) (by simp [ag20Fixed]))) (hK _ _ (rk_of rfl rfl) (.inl (Below.refl _ _)))
theorem ag20_ob31 (H : ag20Ctx w0 b t T va xs v1 v2 y1 n1 v3 v4 y2 n2 ks n3) : ag20Ob w0 b t T va xs v1 v2 n1 v3 v4 n2 ks n3 Q 31 := by
  intro o ho a w hb hf hd K hK
  obtain ⟨v28, h28, e28⟩ := dep_k (F := 24) ho hd 28 81 (.val (.bool true)) (by kernel_rfl) (by kernel_rfl) rfl (by kernel_rfl)
  obtain rfl : _ = v28 := Eq.symm e28
  rw [if_pos (wanted_at (g := 28) (b := true) ho (by kernel_rfl) (by kernel_rfl) h28 rfl)]
  obtain ⟨v29, h29, e29⟩ := dep_k (F := 24) ho hd 29 82 (.val t.val) (by kernel_rfl) (by kernel_rfl) rfl (by kernel_rfl)
  obtain rfl : _ = v29 := Eq.symm e29
  obtain ⟨v30, h30, e30⟩ := dep_k (F := 24) ho hd 30 83 (.val va) (by kernel_rfl) (by kernel_rfl) rfl (by kernel_rfl)
  obtain rfl : _ = v30 := Eq.symm e30
  refine ob_enter (enter2 (tys := #[26, 22]) (x := .tmp 82) (y := .tmp 83) (get_op (·.op) ho (by kernel_rfl)) (eval_tmp h29) (eval_tmp h30) (fun args w => enters_of Tryz.func34 (by kernel_rfl) rfl args w)) (skIs_any t T _ xs w (H.tb.later hb).2 (H.g.later hb) (H.v.later hb)) fun e w' ⟨he, h1⟩ => ⟨_, he, ?_⟩
  exact hK _ _ (rk_of rfl rfl) (.inl h1)
theorem ag20_ob32 (H : ag20Ctx w0 b t T va xs v1 v2 y1 n1 v3 v4 y2 n2 ks n3) : ag20Ob w0 b t T va xs v1 v2 n1 v3 v4 n2 ks n3 Q 32 := by
  intro o ho a w hb hf hd K hK
  obtain ⟨v28, h28, e28⟩ := dep_k (F := 24) ho hd 28 81 (.val (.bool true)) (by kernel_rfl) (by kernel_rfl) rfl (by kernel_rfl)
  obtain rfl : _ = v28 := Eq.symm e28
  rw [if_pos (wanted_at (g := 28) (b := true) ho (by kernel_rfl) (by kernel_rfl) h28 rfl)]
  exact ob_value (load_tab (H.tb.later hb) (get_op (·.op) ho (by kernel_rfl)) (eval_tmp (hf.2.2 (2, _) (by simp [ag20Fixed])))) (hK _ _ (rk_of rfl rfl) (.inl (Below.refl _ _)))
theorem ag20_ob33 : ag20Ob w0 b t T va xs v1 v2 n1 v3 v4 n2 ks n3 Q 33 := by
  intro o ho a w hb hf hd K hK
  obtain ⟨v28, h28, e28⟩ := dep_k (F := 24) ho hd 28 81 (.val (.bool true)) (by kernel_rfl) (by kernel_rfl) rfl (by kernel_rfl)
  obtain rfl : _ = v28 := Eq.symm e28
  rw [if_pos (wanted_at (g := 28) (b := true) ho (by kernel_rfl) (by kernel_rfl) h28 rfl)]
  exact ob_move (get_op (·.op) ho (by kernel_rfl)) (eval_tmp (hf.2.2 (1, _) (by simp [ag20Fixed]))) (hK _ _ (rk_of rfl rfl) (.inl (Below.refl _ _)))
theorem ag20_ob34 (H : ag20Ctx w0 b t T va xs v1 v2 y1 n1 v3 v4 y2 n2 ks n3) : ag20Ob w0 b t T va xs v1 v2 n1 v3 v4 n2 ks n3 Q 34 := by
  intro o ho a w hb hf hd K hK
  obtain ⟨v28, h28, e28⟩ := dep_k (F := 24) ho hd 28 81 (.val (.bool true)) (by kernel_rfl) (by kernel_rfl) rfl (by kernel_rfl)
  obtain rfl : _ = v28 := Eq.symm e28
  rw [if_pos (wanted_at (g := 28) (b := true) ho (by kernel_rfl) (by kernel_rfl) h28 rfl)]
  obtain ⟨v32, h32, e32⟩ := dep_k (F := 24) ho hd 32 85 (.val t.val) (by kernel_rfl) (by kernel_rfl) rfl (by kernel_rfl)
  obtain rfl : _ = v32 := Eq.symm e32
  obtain ⟨v33, h33, e33⟩ := dep_k (F := 24) ho hd 33 86 (.val va) (by kernel_rfl) (by kernel_rfl) rfl (by kernel_rfl)
  obtain rfl : _ = v33 := Eq.symm e33
  refine ob_enter (enter2 (tys := #[26, 22]) (x := .tmp 85) (y := .tmp 86) (get_op (·.op) ho (by kernel_rfl)) (eval_tmp h32) (eval_tmp h33) (fun args w => enters_of Tryz.func64 (by kernel_rfl) rfl args w)) (refSkIs_any t T _ xs w (H.tb.later hb).2 (H.v.later hb)) fun e w' ⟨he, h1⟩ => ⟨_, he, ?_⟩
  exact hK _ _ (rk_of rfl rfl) (.inl h1)
theorem ag20_ob35 : ag20Ob w0 b t T va xs v1 v2 n1 v3 v4 n2 ks n3 Q 35 := by
  intro o ho a w hb hf hd K hK
  obtain ⟨v28, h28, e28⟩ := dep_k (F := 24) ho hd 28 81 (.val (.bool true)) (by kernel_rfl) (by kernel_rfl) rfl (by kernel_rfl)
  obtain rfl : _ = v28 := Eq.symm e28
  rw [if_pos (wanted_at (g := 28) (b := true) ho (by kernel_rfl) (by kernel_rfl) h28 rfl)]
  obtain ⟨v31, h31, e31⟩ := dep_k (F := 24) ho hd 31 84 (.val (.bool (isSkB T xs))) (by kernel_rfl) (by kernel_rfl) rfl (by kernel_rfl)
  obtain rfl : _ = v31 := Eq.symm e31
  obtain ⟨v34, h34, e34⟩ := dep_k (F := 24) ho hd 34 87 (.val (.bool (isSkB T xs))) (by kernel_rfl) (by kernel_rfl) rfl (by kernel_rfl)
  obtain rfl : _ = v34 := Eq.symm e34
  have hr : (execOp a.eval o).run Tryz.prog w = .ok (.value (.bool true)) w := by
    have hop : o.op = .binOp .eql 4 (.tmp 84) (.tmp 87) 4 := get_op (·.op) ho (by kernel_rfl)
    unfold execOp
    rw [hop]
    go_simp
  exact ob_run5 hr (hK _ _ (rk_of rfl rfl) (.inl (Below.refl _ _)))
theorem ag20_ob36 : ag20Ob w0 b t T va xs v1 v2 n1 v3 v4 n2 ks n3 Q 36 := by
  intro o ho a w hb hf hd K hK
  rw [if_pos (wanted_none _ (get_op (·.guard) ho (by kernel_rfl)))]
  obtain ⟨v28, h28, e28⟩ := dep_k (F := 24) ho hd 28 81 (.val (.bool true)) (by kernel_rfl) (by kernel_rfl) rfl (by kernel_rfl)
  obtain rfl : _ = v28 := Eq.symm e28
  obtain ⟨v35, h35, e35⟩ := dep_k (F := 24) ho hd 35 88 (.val (.bool true)) (by kernel_rfl) (by kernel_rfl) rfl (by kernel_rfl)
  obtain rfl : _ = v35 := Eq.symm e35
  exact ob_pick (c := .tmp 81) (x := .tmp 88) (y := .const (.bool false)) (b := true) (get_op (·.op) ho (by kernel_rfl)) (eval_tmp h28) (eval_tmp h35) (hK _ _ (rk_of rfl rfl) (.inl (Below.refl _ _)))
theorem ag20_ob37 : ag20Ob w0 b t T va xs v1 v2 n1 v3 v4 n2 ks n3 Q 37 := by
  intro o ho a w hb hf hd K hK
  rw [if_pos (wanted_none _ (get_op (·.guard) ho (by kernel_rfl)))]
  obtain ⟨v36, h36, e36⟩ := dep_k (F := 24) ho hd 36 89 (.val (.bool true)) (by kernel_rfl) (by kernel_rfl) rfl (by kernel_rfl)
  obtain rfl : _ = v36 := Eq.symm e36
  exact ob_assign (get_op (·.op) ho (by kernel_rfl)) (eval_tmp h36) (hK _ _ (rk_of rfl rfl) (.inl (Below.refl _ _)))
theorem ag20_obs (H : ag20Ctx w0 b t T va xs v1 v2 y1 n1 v3 v4 y2 n2 ks n3) (k : Nat) (hk : k < 38) : ag20Ob w0 b t T va xs v1 v2 n1 v3 v4 n2 ks n3 Q k := by
  match k, hk with
  | 0, _ => exact ag20_ob0
  | 1, _ => exact ag20_ob1
  | 2, _ => exact ag20_ob2 H
  | 3, _ => exact ag20_ob3
  | 4, _ => exact ag20_ob4
  | 5, _ => exact ag20_ob5
  | 6, _ => exact ag20_ob6
  | 7, _ => exact ag20_ob7
  | 8, _ => exact ag20_ob8
  | 9, _ => exact ag20_ob9
  | 10, _ => exact ag20_ob10
  | 11, _ => exact ag20_ob11 H
  | 12, _ => exact ag20_ob12
  | 13, _ => exact ag20_ob13
  | 14, _ => exact ag20_ob14
  | 15, _ => exact ag20_ob15
  | 16, _ => exact ag20_ob16
  | 17, _ => exact ag20_ob17
  | 18, _ => exact ag20_ob18
  | 19, _ => exact ag20_ob19
  | 20, _ => exact ag20_ob20
  | 21, _ => exact ag20_ob21
  | 22, _ => exact ag20_ob22
  | 23, _ => exact ag20_ob23
  | 24, _ => exact ag20_ob24
  | 25, _ => exact ag20_ob25
  | 26, _ => exact ag20_ob26
  | 27, _ => exact ag20_ob27
  | 28, _ => exact ag20_ob28
  | 29, _ => exact ag20_ob29 H
  | 30, _ => exact ag20_ob30
  | 31, _ => exact ag20_ob31 H
  | 32, _ => exact ag20_ob32 H
  | 33, _ => exact ag20_ob33
  | 34, _ => exact ag20_ob34 H
  | 35, _ => exact ag20_ob35
  | 36, _ => exact ag20_ob36
  | 37, _ => exact ag20_ob37
  | m + 38, h => exact absurd h (by omega)
theorem ag20_region {a : Act} (H : ag20Ctx w0 b t T va xs v1 v2 y1 n1 v3 v4 y2 n2 ks n3) (hf : FS 90 [] (ag20Fixed b va v1 v2 n1 v3 v4 n2 ks n3) a)
    (hend : ∀ a w, Below w0.heap.size w0 w → FS 90 [] (ag20Fixed b va v1 v2 n1 v3 v4 n2 ks n3) a → (∀ (i : Nat) (o : Oper) (d : Tmp), (opsAt Tryz.f32 7)[i]? = some o → (∀ j, killK (ag20Specs t T va xs v1 v2 n1 v3 v4 n2 ks n3) [] i j = false) → o.dst = some d → ∃ v, a.tmps[d]? = some v ∧ RK w0.heap.size (ag20Specs t T va xs v1 v2 n1 v3 v4 n2 ks n3) i v w) → Q .normal a w) : (Code.region 7 (opsAt Tryz.f32 7) true).wp Tryz.prog Q a w0 := by
  refine wp_region_k 24 (n := 90) (ds := []) (fixed := ag20Fixed b va v1 v2 n1 v3 v4 n2 ks n3) (specs := ag20Specs t T va xs v1 v2 n1 v3 v4 n2 ks n3) (apps := []) (by kernel_rfl) (by kernel_rfl) (by kernel_rfl) (by kernel_rfl) hf (fun i hi => ag20_obs H i ?_) hend
  have hn : (opsAt Tryz.f32 7).size = 38 := by kernel_rfl
  omega
end

set_option maxRecDepth 100000 in
set_option maxHeartbeats 2000000 in
theorem agrees20_any (t : Tv) (T : Tab) (v : Value) (xs : List Int) (w : World) (ht : TabR w w.heap.size t T) (hg : Glob w) (hv : Ints w w.heap.size .i64 v xs) :
    Calls Tryz.prog 32 #[t.val, v] w fun e w' => e = .returned (.bool true) ∧ Below w.heap.size w w' := by
  obtain ⟨A, c, rfl, _⟩ := id hv
  have HB0 : Hid (Below w.heap.size w (w.alloc (.cells t.cells 26))) := Lib.hid ((Below.refl _ _).alloc (Nat.le_refl _) _)
  have HT : Hid (Tbl (w.alloc (.cells t.cells 26)) w.heap.size t T) := Lib.hid ⟨Blk.new _ _ _, ht.later HB0.out⟩
  have HV := Lib.hid (hv.later HB0.out)
  have HG := Lib.hid (hg.later HB0.out)
  clear ht hv hg
  go_enter Tryz.func32, Tryz.ntmps32
  go_upto_region 1 with fail
  generalize w.alloc (.cells t.cells 26) = w1 at *
  obtain ⟨tb, htb⟩ : ∃ tb, w.heap.size = tb := ⟨_, rfl⟩
  rw [htb] at HT
  simp only [htb]
  have H1 := Lib.hid (fun W (h : Below w1.heap.size w1 W) => skm_any t T _ xs W (HT.out.later h).2 (HG.out.later h) (HV.out.later h))
  have H2 := Lib.hid (fun W (h : Below w1.heap.size w1 W) => refSkm_any t T _ xs W (HT.out.later h).2 (HV.out.later h))
  have H3 := Lib.hid (fun W (h : Below w1.heap.size w1 W) => skOf_any t T _ xs W (HT.out.later h).2 (HG.out.later h) (HV.out.later h))
  have H4 := Lib.hid (fun W (h : Below w1.heap.size w1 W) => refOf_any t T _ xs W (HT.out.later h).2 (HV.out.later h))
  have H5 := Lib.hid (fun W (h : Below w1.heap.size w1 W) => skKey_any t T _ xs W (HT.out.later h).2 (HG.out.later h) (HV.out.later h))
  have H6 := Lib.hid (fun W (h : Below w1.heap.size w1 W) => refKey_any t T _ xs W (HT.out.later h).2 (HV.out.later h))
  obtain ⟨y1, n1, hr1⟩ : ∃ y1 n1, skmR T (accE T xs) xs = (y1, n1) := ⟨_, _, rfl⟩
  obtain ⟨y2, n2, hr2⟩ : ∃ y2 n2, skelR T xs = (y2, n2) := ⟨_, _, rfl⟩
  obtain ⟨kl, n3, hr3⟩ : ∃ kl n3, keyR T xs = (kl, n3) := ⟨_, _, rfl⟩
  rw [hr1] at H1 H2
  rw [hr2] at H3 H4
  rw [hr3] at H5 H6
  clear hr1 hr2 hr3
  obtain ⟨x0, x1, x2, x3, x4, x5, x6, x7, x8, x9, x10, x11⟩ := HT.out.1.tab
  go_upto_region 2 with (go_at_call 53; refine (H1.out _ (Below.refl _ _)).mono ?_; rintro e w2 ⟨u2, rfl, ho2, b2⟩; obtain ⟨A2, c2, rfl, _⟩ := id (Ints.of_own ho2); have I0_2 := Lib.hid (Ints.of_own ho2); have B2 := Lib.hid b2; clear ho2 b2 H1)
  clear x0 x1 x2 x3 x4 x5 x6 x7 x8 x9 x10 x11
  obtain ⟨x0, x1, x2, x3, x4, x5, x6, x7, x8, x9, x10, x11⟩ := (HT.out.later B2.out).1.tab
  go_upto_region 3 with (go_at_call 59; refine (H2.out _ B2.out).mono ?_; rintro e w3 ⟨u3, rfl, ho3, b3⟩; obtain ⟨A3, c3, rfl, _⟩ := id (Ints.of_own ho3); have I1_3 := Lib.hid (Ints.of_own ho3); have I0_3 := Lib.hid (I0_2.out.later b3); clear I0_2; have B3 := Lib.hid (below_next B2.out b3); clear ho3 b3 H2)
  clear x0 x1 x2 x3 x4 x5 x6 x7 x8 x9 x10 x11
  obtain ⟨x0, x1, x2, x3, x4, x5, x6, x7, x8, x9, x10, x11⟩ := (HT.out.later B3.out).1.tab
  go_upto_region 4 with (go_at_call 16; refine (H3.out _ B3.out).mono ?_; rintro e w4 ⟨u4, rfl, ho4, b4⟩; obtain ⟨A4, c4, rfl, _⟩ := id (Ints.of_own ho4); have I2_4 := Lib.hid (Ints.of_own ho4); have I0_4 := Lib.hid (I0_3.out.later b4); clear I0_3; have I1_4 := Lib.hid (I1_3.out.later b4); clear I1_3; have B4 := Lib.hid (below_next B3.out b4); clear ho4 b4 H3)
  clear x0 x1 x2 x3 x4 x5 x6 x7 x8 x9 x10 x11
  obtain ⟨x0, x1, x2, x3, x4, x5, x6, x7, x8, x9, x10, x11⟩ := (HT.out.later B4.out).1.tab
  go_upto_region 5 with (go_at_call 26; refine (H4.out _ B4.out).mono ?_; rintro e w5 ⟨u5, rfl, ho5, b5⟩; obtain ⟨A5, c5, rfl, _⟩ := id (Ints.of_own ho5); have I3_5 := Lib.hid (Ints.of_own ho5); have I0_5 := Lib.hid (I0_4.out.later b5); clear I0_4; have I1_5 := Lib.hid (I1_4.out.later b5); clear I1_4; have I2_5 := Lib.hid (I2_4.out.later b5); clear I2_4; have B5 := Lib.hid (below_next B4.out b5); clear ho5 b5 H4)
  clear x0 x1 x2 x3 x4 x5 x6 x7 x8 x9 x10 x11
  obtain ⟨x0, x1, x2, x3, x4, x5, x6, x7, x8, x9, x10, x11⟩ := (HT.out.later B5.out).1.tab
  go_upto_region 6 with (go_at_call 25; refine (H5.out _ B5.out).mono ?_; rintro e w6 ⟨rfl, b6⟩; have I0_6 := Lib.hid (I0_5.out.later b6); clear I0_5; have I1_6 := Lib.hid (I1_5.out.later b6); clear I1_5; have I2_6 := Lib.hid (I2_5.out.later b6); clear I2_5; have I3_6 := Lib.hid (I3_5.out.later b6); clear I3_5; have B6 := Lib.hid (below_next B5.out b6); clear b6 H5)
  clear x0 x1 x2 x3 x4 x5 x6 x7 x8 x9 x10 x11
  obtain ⟨x0, x1, x2, x3, x4, x5, x6, x7, x8, x9, x10, x11⟩ := (HT.out.later B6.out).1.tab
  go_upto_region 7 with (go_at_call 63; refine (H6.out _ B6.out).mono ?_; rintro e w7 ⟨rfl, b7⟩; have I0_7 := Lib.hid (I0_6.out.later b7); clear I0_6; have I1_7 := Lib.hid (I1_6.out.later b7); clear I1_6; have I2_7 := Lib.hid (I2_6.out.later b7); clear I2_6; have I3_7 := Lib.hid (I3_6.out.later b7); clear I3_6; have B7 := Lib.hid (below_next B6.out b7); clear b7 H6)
  clear x0 x1 x2 x3 x4 x5 x6 x7 x8 x9 x10 x11
  refine wp_region_as (ops := (opsAt Tryz.f32 7)) (by kernel_rfl) ?_
  refine ag20_region (b := tb) (t := t) (T := T) (va := .slice A xs.length c) (xs := xs) (v1 := .slice A2 y1.length c2) (v2 := .slice A3 y1.length c3) (y1 := y1) (n1 := n1) (v3 := .slice A4 y2.length c4) (v4 := .slice A5 y2.length c5) (y2 := y2) (n2 := n2) (ks := ⟨kl.toArray⟩) (n3 := n3) ⟨HT.out.later B7.out, HG.out.later B7.out, HV.out.later B7.out, I0_7.out, I1_7.out, I2_7.out, I3_7.out⟩ ⟨rfl, rfl, by intro p hp; simp [ag20Fixed] at hp; rcases hp with rfl | rfl | rfl | rfl | rfl | rfl | rfl | rfl | rfl | rfl | rfl | rfl | rfl | rfl <;> rfl⟩ ?_
  intro a w9 hc hf hr
  obtain ⟨v9, hv9, e9⟩ := end_k hr 37 4 (.val (.bool true)) (by kernel_rfl) rfl (by kernel_rfl)
  obtain rfl : v9 = .bool true := e9
  rename_i K hK
  refine hK a w9 ?_
  go_wp2
  exact bodyPost_ret (v := .bool true) (by simp [results, Tryz.results32, hv9]) hf.2.1 ⟨rfl, below_next HB0.out (below_next B7.out hc)⟩
end Go.Proofs.YtecpbicfiaifdaaGreatDoor
