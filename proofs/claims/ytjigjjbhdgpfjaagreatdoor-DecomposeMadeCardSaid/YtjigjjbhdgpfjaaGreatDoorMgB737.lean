/-
  Merged texts: lemmas and walks that the last text of this claim leans on.
-/
import Derived.Test.YtjigjjbhdgpfjaaGreatDoorMgB736
import Derived.Test.YtjigjjbhdgpfjaaGreatDoorMgB715
import Derived.Test.YtjigjjbhdgpfjaaGreatDoorMgB716
import Derived.Test.YtjigjjbhdgpfjaaGreatDoorMgB735
/-
  The walk through the law DecomposeMade.
-/
namespace Go.Proofs.YtjigjjbhdgpfjaaGreatDoor
open Go.RowKit ND

/-- What holds ahead of region 6. -/
structure m7aCtx (w0 : World) (b : Nat) (t : Tv) (T : Tab) (x : Int) : Prop where
  tb : Tbl w0 b t T
  g : Glob w0
def m7aSpecs (t : Tv) (T : Tab) (x : Int) : List SpecK := [.val t.val, .val (.int .i64 x), .lst (· = oneL T  x), .val t.val, .val (.int .i64 x), .lst (· = oneL T  x), .val (.bool true), .val (.bool false)]
def m7aFixed (b : Nat) (x : Int) : List (Tmp × Value) := [(11, .pointer (some ⟨b, 0, none⟩)), (15, .int .i64 x)]
def m7aOb (w0 : World) (b : Nat) (t : Tv) (T : Tab) (x : Int) (Q : Exit → Act → World → Prop) (k : Nat) : Prop := ObR 24 Tryz.prog (opsAt Tryz.f6 6) 65 [] (m7aFixed b x) w0 (m7aSpecs t T x) [] Q k
section
variable {w0 : World} {b : Nat} {t : Tv} {T : Tab} {x : Int} {Q : Exit → Act → World → Prop}
theorem m7a_ob0 (H : m7aCtx w0 b t T x) : m7aOb w0 b t T x Q 0 := by
  intro o ho a w hb hf hd K hK
  rw [if_pos (wanted_none _ (get_op (·.guard) ho (by kernel_rfl)))]
  exact ob_value (load_tab (H.tb.later hb) (get_op (·.op) ho (by kernel_rfl)) (eval_tmp (hf.2.2 (11, _) (by simp [m7aFixed])))) (hK _ _ (rk_of rfl rfl) (.inl (Below.refl _ _)))
theorem m7a_ob1 : m7aOb w0 b t T x Q 1 := by
  intro o ho a w hb hf hd K hK
  rw [if_pos (wanted_none _ (get_op (·.guard) ho (by kernel_rfl)))]
  exact ob_move (get_op (·.op) ho (by kernel_rfl)) (eval_tmp (hf.2.2 (15, _) (by simp [m7aFixed]))) (hK _ _ (rk_of rfl rfl) (.inl (Below.refl _ _)))
theorem m7a_ob2 (H : m7aCtx w0 b t T x) : m7aOb w0 b t T x Q 2 := by
  intro o ho a w hb hf hd K hK
  rw [if_pos (wanted_none _ (get_op (·.guard) ho (by kernel_rfl)))]
  obtain ⟨v0, h0, e0⟩ := dep_k (F := 24) ho hd 0 28 (.val t.val) (by kernel_rfl) (by kernel_rfl) rfl (by kernel_rfl)
  obtain rfl : _ = v0 := Eq.symm e0
  obtain ⟨v1, h1, e1⟩ := dep_k (F := 24) ho hd 1 29 (.val (.int .i64 x)) (by kernel_rfl) (by kernel_rfl) rfl (by kernel_rfl)
  obtain rfl : _ = v1 := Eq.symm e1
  refine ob_enter (enter2 (tys := #[26, 3]) (x := .tmp 28) (y := .tmp 29) (get_op (·.op) ho (by kernel_rfl)) (eval_tmp h0) (eval_tmp h1) (fun args w => enters_of Tryz.func20 (by kernel_rfl) rfl args w)) (one7_any t T  x w (H.tb.later hb).2 (H.g.later hb)) fun e w' ⟨v, he, h2, h1⟩ => ⟨v, he, ?_⟩
  exact hK _ _ (rk_of rfl ⟨_, Ints.of_own h2, rfl⟩) (.inl h1)
theorem m7a_ob3 (H : m7aCtx w0 b t T x) : m7aOb w0 b t T x Q 3 := by
  intro o ho a w hb hf hd K hK
  rw [if_pos (wanted_none _ (get_op (·.guard) ho (by kernel_rfl)))]
  exact ob_value (load_tab (H.tb.later hb) (get_op (·.op) ho (by kernel_rfl)) (eval_tmp (hf.2.2 (11, _) (by simp [m7aFixed])))) (hK _ _ (rk_of rfl rfl) (.inl (Below.refl _ _)))
theorem m7a_ob4 : m7aOb w0 b t T x Q 4 := by
  intro o ho a w hb hf hd K hK
  rw [if_pos (wanted_none _ (get_op (·.guard) ho (by kernel_rfl)))]
  exact ob_move (get_op (·.op) ho (by kernel_rfl)) (eval_tmp (hf.2.2 (15, _) (by simp [m7aFixed]))) (hK _ _ (rk_of rfl rfl) (.inl (Below.refl _ _)))
theorem m7a_ob5 (H : m7aCtx w0 b t T x) : m7aOb w0 b t T x Q 5 := by
  intro o ho a w hb hf hd K hK
  rw [if_pos (wanted_none _ (get_op (·.guard) ho (by kernel_rfl)))]
  obtain ⟨v3, h3, e3⟩ := dep_k (F := 24) ho hd 3 31 (.val t.val) (by kernel_rfl) (by kernel_rfl) rfl (by kernel_rfl)
  obtain rfl : _ = v3 := Eq.symm e3
  obtain ⟨v4, h4, e4⟩ := dep_k (F := 24) ho hd 4 32 (.val (.int .i64 x)) (by kernel_rfl) (by kernel_rfl) rfl (by kernel_rfl)
  obtain rfl : _ = v4 := Eq.symm e4
  refine ob_enter (enter2 (tys := #[26, 3]) (x := .tmp 31) (y := .tmp 32) (get_op (·.op) ho (by kernel_rfl)) (eval_tmp h3) (eval_tmp h4) (fun args w => enters_of Tryz.func21 (by kernel_rfl) rfl args w)) (refOne_any t T  x w (H.tb.later hb).2) fun e w' ⟨v, he, h2, h1⟩ => ⟨v, he, ?_⟩
  exact hK _ _ (rk_of rfl ⟨_, h2, rfl⟩) (.inl h1)
theorem m7a_ob6 : m7aOb w0 b t T x Q 6 := by
  intro o ho a w hb hf hd K hK
  rw [if_pos (wanted_none _ (get_op (·.guard) ho (by kernel_rfl)))]
  obtain ⟨v2, h2, e2⟩ := dep_k (F := 24) ho hd 2 30 (.lst (· = oneL T  x)) (by kernel_rfl) (by kernel_rfl) rfl (by kernel_rfl)
  obtain ⟨v5, h5, e5⟩ := dep_k (F := 24) ho hd 5 33 (.lst (· = oneL T  x)) (by kernel_rfl) (by kernel_rfl) rfl (by kernel_rfl)
  obtain ⟨_, hi2, rfl⟩ := e2
  obtain ⟨_, hi5, rfl⟩ := e5
  refine ob_enter (enter2 (tys := #[22, 22]) (x := .tmp 30) (y := .tmp 33) (get_op (·.op) ho (by kernel_rfl)) (eval_tmp h2) (eval_tmp h5) (fun args w => enters_of Tryz.func13 (by kernel_rfl) rfl args w)) (same_of _ _ _ _ w hi2 hi5 rfl) fun e w' ⟨he, h1⟩ => ⟨_, he, ?_⟩
  exact hK _ _ (rk_of rfl rfl) (.inl h1)
theorem m7a_ob7 : m7aOb w0 b t T x Q 7 := by
  intro o ho a w hb hf hd K hK
  rw [if_pos (wanted_none _ (get_op (·.guard) ho (by kernel_rfl)))]
  obtain ⟨v6, h6, e6⟩ := dep_k (F := 24) ho hd 6 34 (.val (.bool true)) (by kernel_rfl) (by kernel_rfl) rfl (by kernel_rfl)
  obtain rfl : _ = v6 := Eq.symm e6
  exact ob_not (t := 4) (get_op (·.op) ho (by kernel_rfl)) (eval_tmp h6) (hK _ _ (rk_of rfl rfl) (.inl (Below.refl _ _)))
theorem m7a_obs (H : m7aCtx w0 b t T x) (k : Nat) (hk : k < 8) : m7aOb w0 b t T x Q k := by
  match k, hk with
  | 0, _ => exact m7a_ob0 H
  | 1, _ => exact m7a_ob1
  | 2, _ => exact m7a_ob2 H
  | 3, _ => exact m7a_ob3 H
  | 4, _ => exact m7a_ob4
  | 5, _ => exact m7a_ob5 H
  | 6, _ => exact m7a_ob6
  | 7, _ => exact m7a_ob7
  | m + 8, h => exact absurd h (by omega)
theorem m7a_region {a : Act} (H : m7aCtx w0 b t T x) (hf : FS 65 [] (m7aFixed b x) a)
    (hend : ∀ a w, Below w0.heap.size w0 w → FS 65 [] (m7aFixed b x) a → (∀ (i : Nat) (o : Oper) (d : Tmp), (opsAt Tryz.f6 6)[i]? = some o → (∀ j, killK (m7aSpecs t T x) [] i j = false) → o.dst = some d → ∃ v, a.tmps[d]? = some v ∧ RK w0.heap.size (m7aSpecs t T x) i v w) → Q .normal a w) : (Code.region 6 (opsAt Tryz.f6 6) true).wp Tryz.prog Q a w0 := by
  refine wp_region_k 24 (n := 65) (ds := []) (fixed := m7aFixed b x) (specs := m7aSpecs t T x) (apps := []) (by kernel_rfl) (by kernel_rfl) (by kernel_rfl) (by kernel_rfl) hf (fun i hi => m7a_obs H i ?_) hend
  have hn : (opsAt Tryz.f6 6).size = 8 := by kernel_rfl
  omega
theorem m7a_region2 {a : Act} (H : m7aCtx w0 b t T x) (hf : FS 65 [] (m7aFixed b x) a)
    (hend : ∀ a' w, Below w0.heap.size w0 w → FS 65 [] (m7aFixed b x) a' → (∀ i, i < 65 → freeOf (opsAt Tryz.f6 6) i = true → a'.tmps[i]? = a.tmps[i]?) → (∀ (i : Nat) (o : Oper) (d : Tmp), (opsAt Tryz.f6 6)[i]? = some o → (∀ j, killK (m7aSpecs t T x) [] i j = false) → o.dst = some d → ∃ v, a'.tmps[d]? = some v ∧ RK w0.heap.size (m7aSpecs t T x) i v w) → Q .normal a' w) : (Code.region 6 (opsAt Tryz.f6 6) true).wp Tryz.prog Q a w0 := by
  refine wp_region_k2 24 (n := 65) (ds := []) (fixed := m7aFixed b x) (specs := m7aSpecs t T x) (apps := []) (by kernel_rfl) (by kernel_rfl) (by kernel_rfl) (by kernel_rfl) hf (fun i hi => m7a_obs H i ?_) hend
  have hn : (opsAt Tryz.f6 6).size = 8 := by kernel_rfl
  omega
end

/-- What holds ahead of region 9. -/
structure m7bCtx (w0 : World) (b : Nat) (t : Tv) (T : Tab) (vp : Value) (pl : List Int) (vq : Value) (ql : List Int) (vr : Value) (rs : List Int) (c : Int) : Prop where
  tb : Tbl w0 b t T
  g : Glob w0
  p : Ints w0 w0.heap.size .i64 vp pl
  q : Ints w0 w0.heap.size .i64 vq ql
  r : Ints w0 w0.heap.size .i64 vr rs
def m7bSpecs (t : Tv) (T : Tab) (vp : Value) (vq : Value) (vr : Value) (c : Int) : List SpecK := [.val (.bool true), .val (.bool true), .val t.val, .val vp, .val vq, .val (.bool true), .val (.bool true), .val (.bool true), .val t.val, .val vr, .val vp, .val (.bool true), .val (.bool true), .val (.bool true), .val t.val, .val vq, .val vr, .val (.bool true), .val (.bool true), .val (.bool true), .val t.val, .val (.int .i64 c), .lst (· = oneL T  c), .val t.val, .val (.int .i64 c), .lst (· = oneL T  c), .val (.bool true), .val (.bool true), .val (.bool true)]
def m7bFixed (b : Nat) (vp : Value) (vq : Value) (vr : Value) (c : Int) : List (Tmp × Value) := [(3, vr), (4, .int .i64 c), (11, .pointer (some ⟨b, 0, none⟩)), (12, vp), (13, vq)]
def m7bOb (w0 : World) (b : Nat) (t : Tv) (T : Tab) (vp : Value) (vq : Value) (vr : Value) (c : Int) (Q : Exit → Act → World → Prop) (k : Nat) : Prop := ObR 24 Tryz.prog (opsAt Tryz.f6 9) 65 [] (m7bFixed b vp vq vr c) w0 (m7bSpecs t T vp vq vr c) [] Q k
section
variable {w0 : World} {b : Nat} {t : Tv} {T : Tab} {vp : Value} {pl : List Int} {vq : Value} {ql : List Int} {vr : Value} {rs : List Int} {c : Int} {Q : Exit → Act → World → Prop}
theorem m7b_ob0 (H : m7bCtx w0 b t T vp pl vq ql vr rs c) : m7bOb w0 b t T vp vq vr c Q 0 := by
  intro o ho a w hb hf hd K hK
  rw [if_pos (wanted_none _ (get_op (·.guard) ho (by kernel_rfl)))]
  refine ob_enter (enter0 (tys := #[]) (get_op (·.op) ho (by kernel_rfl)) (fun args w => enters_of Tryz.func12 (by kernel_rfl) rfl args w)) (awake7 w (H.g.later hb)) fun e w' ⟨he, h1⟩ => ⟨_, he, ?_⟩
  exact hK _ _ (rk_of rfl rfl) (.inl h1)
theorem m7b_ob1 : m7bOb w0 b t T vp vq vr c Q 1 := by
  intro o ho a w hb hf hd K hK
  rw [if_pos (wanted_none _ (get_op (·.guard) ho (by kernel_rfl)))]
  obtain ⟨v0, h0, e0⟩ := dep_k (F := 24) ho hd 0 37 (.val (.bool true)) (by kernel_rfl) (by kernel_rfl) rfl (by kernel_rfl)
  obtain rfl : _ = v0 := Eq.symm e0
  exact ob_move (get_op (·.op) ho (by kernel_rfl)) (eval_tmp h0) (hK _ _ (rk_of rfl rfl) (.inl (Below.refl _ _)))
theorem m7b_ob2 (H : m7bCtx w0 b t T vp pl vq ql vr rs c) : m7bOb w0 b t T vp vq vr c Q 2 := by
  intro o ho a w hb hf hd K hK
  obtain ⟨v1, h1, e1⟩ := dep_k (F := 24) ho hd 1 38 (.val (.bool true)) (by kernel_rfl) (by kernel_rfl) rfl (by kernel_rfl)
  obtain rfl : _ = v1 := Eq.symm e1
  rw [if_pos (wanted_at (g := 1) (b := true) ho (by kernel_rfl) (by kernel_rfl) h1 rfl)]
  exact ob_value (load_tab (H.tb.later hb) (get_op (·.op) ho (by kernel_rfl)) (eval_tmp (hf.2.2 (11, _) (by simp [m7bFixed])))) (hK _ _ (rk_of rfl rfl) (.inl (Below.refl _ _)))
theorem m7b_ob3 : m7bOb w0 b t T vp vq vr c Q 3 := by
  intro o ho a w hb hf hd K hK
  obtain ⟨v1, h1, e1⟩ := dep_k (F := 24) ho hd 1 38 (.val (.bool true)) (by kernel_rfl) (by kernel_rfl) rfl (by kernel_rfl)
  obtain rfl : _ = v1 := Eq.symm e1
  rw [if_pos (wanted_at (g := 1) (b := true) ho (by kernel_rfl) (by kernel_rfl) h1 rfl)]
  exact ob_move (get_op (·.op) ho (by kernel_rfl)) (eval_tmp (hf.2.2 (12, _) (by simp [m7bFixed]))) (hK _ _ (rk_of rfl rfl) (.inl (Below.refl _ _)))
theorem m7b_ob4 : m7bOb w0 b t T vp vq vr c Q 4 := by
  intro o ho a w hb hf hd K hK
  obtain ⟨v1, h1, e1⟩ := dep_k (F := 24) ho hd 1 38 (.val (.bool true)) (by kernel_rfl) (by kernel_rfl) rfl (by kernel_rfl)
  obtain rfl : _ = v1 := Eq.symm e1
  rw [if_pos (wanted_at (g := 1) (b := true) ho (by kernel_rfl) (by kernel_rfl) h1 rfl)]
  exact ob_move (get_op (·.op) ho (by kernel_rfl)) (eval_tmp (hf.2.2 (13, _) (by simp [m7bFixed]))) (hK _ _ (rk_of rfl rfl) (.inl (Below.refl _ _)))
theorem m7b_ob5 (H : m7bCtx w0 b t T vp pl vq ql vr rs c) : m7bOb w0 b t T vp vq vr c Q 5 := by
  intro o ho a w hb hf hd K hK
  obtain ⟨v1, h1, e1⟩ := dep_k (F := 24) ho hd 1 38 (.val (.bool true)) (by kernel_rfl) (by kernel_rfl) rfl (by kernel_rfl)
  obtain rfl : _ = v1 := Eq.symm e1
  rw [if_pos (wanted_at (g := 1) (b := true) ho (by kernel_rfl) (by kernel_rfl) h1 rfl)]
  obtain ⟨v2, h2, e2⟩ := dep_k (F := 24) ho hd 2 39 (.val t.val) (by kernel_rfl) (by kernel_rfl) rfl (by kernel_rfl)
  obtain rfl : _ = v2 := Eq.symm e2
  obtain ⟨v3, h3, e3⟩ := dep_k (F := 24) ho hd 3 40 (.val vp) (by kernel_rfl) (by kernel_rfl) rfl (by kernel_rfl)
  obtain rfl : _ = v3 := Eq.symm e3
  obtain ⟨v4, h4, e4⟩ := dep_k (F := 24) ho hd 4 41 (.val vq) (by kernel_rfl) (by kernel_rfl) rfl (by kernel_rfl)
  obtain rfl : _ = v4 := Eq.symm e4
  refine ob_enter (enter3 (tys := #[26, 22, 22]) (x := .tmp 39) (y := .tmp 40) (z := .tmp 41) (get_op (·.op) ho (by kernel_rfl)) (eval_tmp h2) (eval_tmp h3) (eval_tmp h4) (fun args w => enters_of Tryz.func22 (by kernel_rfl) rfl args w)) (agrees7_any t T _ _ _ _ w (H.tb.later hb).2 (H.g.later hb) (H.p.later hb) (H.q.later hb)) fun e w' ⟨he, h1⟩ => ⟨_, he, ?_⟩
  exact hK _ _ (rk_of rfl rfl) (.inl h1)
theorem m7b_ob6 : m7bOb w0 b t T vp vq vr c Q 6 := by
  intro o ho a w hb hf hd K hK
  rw [if_pos (wanted_none _ (get_op (·.guard) ho (by kernel_rfl)))]
  obtain ⟨v1, h1, e1⟩ := dep_k (F := 24) ho hd 1 38 (.val (.bool true)) (by kernel_rfl) (by kernel_rfl) rfl (by kernel_rfl)
  obtain rfl : _ = v1 := Eq.symm e1
  obtain ⟨v5, h5, e5⟩ := dep_k (F := 24) ho hd 5 42 (.val (.bool true)) (by kernel_rfl) (by kernel_rfl) rfl (by kernel_rfl)
  obtain rfl : _ = v5 := Eq.symm e5
  exact ob_pick (c := .tmp 38) (x := .tmp 42) (y := .const (.bool false)) (b := true) (get_op (·.op) ho (by kernel_rfl)) (eval_tmp h1) (eval_tmp h5) (hK _ _ (rk_of rfl rfl) (.inl (Below.refl _ _)))
theorem m7b_ob7 : m7bOb w0 b t T vp vq vr c Q 7 := by
  intro o ho a w hb hf hd K hK
  rw [if_pos (wanted_none _ (get_op (·.guard) ho (by kernel_rfl)))]
  obtain ⟨v6, h6, e6⟩ := dep_k (F := 24) ho hd 6 43 (.val (.bool true)) (by kernel_rfl) (by kernel_rfl) rfl (by kernel_rfl)
  obtain rfl : _ = v6 := Eq.symm e6
  exact ob_move (get_op (·.op) ho (by kernel_rfl)) (eval_tmp h6) (hK _ _ (rk_of rfl rfl) (.inl (Below.refl _ _)))
theorem m7b_ob8 (H : m7bCtx w0 b t T vp pl vq ql vr rs c) : m7bOb w0 b t T vp vq vr c Q 8 := by
  intro o ho a w hb hf hd K hK
  obtain ⟨v7, h7, e7⟩ := dep_k (F := 24) ho hd 7 44 (.val (.bool true)) (by kernel_rfl) (by kernel_rfl) rfl (by kernel_rfl)
  obtain rfl : _ = v7 := Eq.symm e7
  rw [if_pos (wanted_at (g := 7) (b := true) ho (by kernel_rfl) (by kernel_rfl) h7 rfl)]
  exact ob_value (load_tab (H.tb.later hb) (get_op (·.op) ho (by kernel_rfl)) (eval_tmp (hf.2.2 (11, _) (by simp [m7bFixed])))) (hK _ _ (rk_of rfl rfl) (.inl (Below.refl _ _)))
theorem m7b_ob9 : m7bOb w0 b t T vp vq vr c Q 9 := by
  intro o ho a w hb hf hd K hK
  obtain ⟨v7, h7, e7⟩ := dep_k (F := 24) ho hd 7 44 (.val (.bool true)) (by kernel_rfl) (by kernel_rfl) rfl (by kernel_rfl)
  obtain rfl : _ = v7 := Eq.symm e7
  rw [if_pos (wanted_at (g := 7) (b := true) ho (by kernel_rfl) (by kernel_rfl) h7 rfl)]
  exact ob_move (get_op (·.op) ho (by kernel_rfl)) (eval_tmp (hf.2.2 (3, _) (by simp [m7bFixed]))) (hK _ _ (rk_of rfl rfl) (.inl (Below.refl _ _)))
theorem m7b_ob10 : m7bOb w0 b t T vp vq vr c Q 10 := by
  intro o ho a w hb hf hd K hK
  obtain ⟨v7, h7, e7⟩ := dep_k (F := 24) ho hd 7 44 (.val (.bool true)) (by kernel_rfl) (by kernel_rfl) rfl (by kernel_rfl)
  obtain rfl : _ = v7 := Eq.symm e7
  rw [if_pos (wanted_at (g := 7) (b := true) ho (by kernel_rfl) (by kernel_rfl) h7 rfl)]
  exact ob_move (get_op (·.op) ho (by kernel_rfl)) (eval_tmp (hf.2.2 (12, _) (by simp [m7bFixed]))) (hK _ _ (rk_of rfl rfl) (.inl (Below.refl _ _)))
theorem m7b_ob11 (H : m7bCtx w0 b t T vp pl vq ql vr rs c) : m7bOb w0 b t T vp vq vr c Q 11 := by
  intro o ho a w hb hf hd K hK
  obtain ⟨v7, h7, e7⟩ := dep_k (F := 24) ho hd 7 44 (.val (.bool true)) (by kernel_rfl) (by kernel_rfl) rfl (by kernel_rfl)
  obtain rfl : _ = v7 := Eq.symm e7
  rw [if_pos (wanted_at (g := 7) (b := true) ho (by kernel_rfl) (by kernel_rfl) h7 rfl)]
  obtain ⟨v8, h8, e8⟩ := dep_k (F := 24) ho hd 8 45 (.val t.val) (by kernel_rfl) (by kernel_rfl) rfl (by kernel_rfl)
  obtain rfl : _ = v8 := Eq.symm e8
  obtain ⟨v9, h9, e9⟩ := dep_k (F := 24) ho hd 9 46 (.val vr) (by kernel_rfl) (by kernel_rfl) rfl (by kernel_rfl)
  obtain rfl : _ = v9 := Eq.symm e9
  obtain ⟨v10, h10, e10⟩ := dep_k (F := 24) ho hd 10 47 (.val vp) (by kernel_rfl) (by kernel_rfl) rfl (by kernel_rfl)
  obtain rfl : _ = v10 := Eq.symm e10
  refine ob_enter (enter3 (tys := #[26, 22, 22]) (x := .tmp 45) (y := .tmp 46) (z := .tmp 47) (get_op (·.op) ho (by kernel_rfl)) (eval_tmp h8) (eval_tmp h9) (eval_tmp h10) (fun args w => enters_of Tryz.func22 (by kernel_rfl) rfl args w)) (agrees7_any t T _ _ _ _ w (H.tb.later hb).2 (H.g.later hb) (H.r.later hb) (H.p.later hb)) fun e w' ⟨he, h1⟩ => ⟨_, he, ?_⟩
  exact hK _ _ (rk_of rfl rfl) (.inl h1)
theorem m7b_ob12 : m7bOb w0 b t T vp vq vr c Q 12 := by
  intro o ho a w hb hf hd K hK
  rw [if_pos (wanted_none _ (get_op (·.guard) ho (by kernel_rfl)))]
  obtain ⟨v7, h7, e7⟩ := dep_k (F := 24) ho hd 7 44 (.val (.bool true)) (by kernel_rfl) (by kernel_rfl) rfl (by kernel_rfl)
  obtain rfl : _ = v7 := Eq.symm e7
  obtain ⟨v11, h11, e11⟩ := dep_k (F := 24) ho hd 11 48 (.val (.bool true)) (by kernel_rfl) (by kernel_rfl) rfl (by kernel_rfl)
  obtain rfl : _ = v11 := Eq.symm e11
  exact ob_pick (c := .tmp 44) (x := .tmp 48) (y := .const (.bool false)) (b := true) (get_op (·.op) ho (by kernel_rfl)) (eval_tmp h7) (eval_tmp h11) (hK _ _ (rk_of rfl rfl) (.inl (Below.refl _ _)))
theorem m7b_ob13 : m7bOb w0 b t T vp vq vr c Q 13 := by
  intro o ho a w hb hf hd K hK
  rw [if_pos (wanted_none _ (get_op (·.guard) ho (by kernel_rfl)))]
  obtain ⟨v12, h12, e12⟩ := dep_k (F := 24) ho hd 12 49 (.val (.bool true)) (by kernel_rfl) (by kernel_rfl) rfl (by kernel_rfl)
  obtain rfl : _ = v12 := Eq.symm e12
  exact ob_move (get_op (·.op) ho (by kernel_rfl)) (eval_tmp h12) (hK _ _ (rk_of rfl rfl) (.inl (Below.refl _ _)))
theorem m7b_ob14 (H : m7bCtx w0 b t T vp pl vq ql vr rs c) : m7bOb w0 b t T vp vq vr c Q 14 := by
  intro o ho a w hb hf hd K hK
  obtain ⟨v13, h13, e13⟩ := dep_k (F := 24) ho hd 13 50 (.val (.bool true)) (by kernel_rfl) (by kernel_rfl) rfl (by kernel_rfl)
  obtain rfl : _ = v13 := Eq.symm e13
  rw [if_pos (wanted_at (g := 13) (b := true) ho (by kernel_rfl) (by kernel_rfl) h13 rfl)]
  exact ob_value (load_tab (H.tb.later hb) (get_op (·.op) ho (by kernel_rfl)) (eval_tmp (hf.2.2 (11, _) (by simp [m7bFixed])))) (hK _ _ (rk_of rfl rfl) (.inl (Below.refl _ _)))
theorem m7b_ob15 : m7bOb w0 b t T vp vq vr c Q 15 := by
  intro o ho a w hb hf hd K hK
  obtain ⟨v13, h13, e13⟩ := dep_k (F := 24) ho hd 13 50 (.val (.bool true)) (by kernel_rfl) (by kernel_rfl) rfl (by kernel_rfl)
  obtain rfl : _ = v13 := Eq.symm e13
  rw [if_pos (wanted_at (g := 13) (b := true) ho (by kernel_rfl) (by kernel_rfl) h13 rfl)]
  exact ob_move (get_op (·.op) ho (by kernel_rfl)) (eval_tmp (hf.2.2 (13, _) (by simp [m7bFixed]))) (hK _ _ (rk_of rfl rfl) (.inl (Below.refl _ _)))
theorem m7b_ob16 : m7bOb w0 b t T vp vq vr c Q 16 := by
  intro o ho a w hb hf hd K hK
  obtain ⟨v13, h13, e13⟩ := dep_k (F := 24) ho hd 13 50 (.val (.bool true)) (by kernel_rfl) (by kernel_rfl) rfl (by kernel_rfl)
  obtain rfl : _ = v13 := Eq.symm e13
  rw [if_pos (wanted_at (g := 13) (b := true) ho (by kernel_rfl) (by kernel_rfl) h13 rfl)]
  exact ob_move (get_op (·.op) ho (by kernel_rfl)) (eval_tmp (hf.2.2 (3, _) (by simp [m7bFixed]))) (hK _ _ (rk_of rfl rfl) (.inl (Below.refl _ _)))
theorem m7b_ob17 (H : m7bCtx w0 b t T vp pl vq ql vr rs c) : m7bOb w0 b t T vp vq vr c Q 17 := by
  intro o ho a w hb hf hd K hK
  obtain ⟨v13, h13, e13⟩ := dep_k (F := 24) ho hd 13 50 (.val (.bool true)) (by kernel_rfl) (by kernel_rfl) rfl (by kernel_rfl)
  obtain rfl : _ = v13 := Eq.symm e13
  rw [if_pos (wanted_at (g := 13) (b := true) ho (by kernel_rfl) (by kernel_rfl) h13 rfl)]
  obtain ⟨v14, h14, e14⟩ := dep_k (F := 24) ho hd 14 51 (.val t.val) (by kernel_rfl) (by kernel_rfl) rfl (by kernel_rfl)
  obtain rfl : _ = v14 := Eq.symm e14
  obtain ⟨v15, h15, e15⟩ := dep_k (F := 24) ho hd 15 52 (.val vq) (by kernel_rfl) (by kernel_rfl) rfl (by kernel_rfl)
  obtain rfl : _ = v15 := Eq.symm e15
  obtain ⟨v16, h16, e16⟩ := dep_k (F := 24) ho hd 16 53 (.val vr) (by kernel_rfl) (by kernel_rfl) rfl (by kernel_rfl)
  obtain rfl : _ = v16 := Eq.symm e16
  refine ob_enter (enter3 (tys := #[26, 22, 22]) (x := .tmp 51) (y := .tmp 52) (z := .tmp 53) (get_op (·.op) ho (by kernel_rfl)) (eval_tmp h14) (eval_tmp h15) (eval_tmp h16) (fun args w => enters_of Tryz.func22 (by kernel_rfl) rfl args w)) (agrees7_any t T _ _ _ _ w (H.tb.later hb).2 (H.g.later hb) (H.q.later hb) (H.r.later hb)) fun e w' ⟨he, h1⟩ => ⟨_, he, ?_⟩
  exact hK _ _ (rk_of rfl rfl) (.inl h1)
theorem m7b_ob18 : m7bOb w0 b t T vp vq vr c Q 18 := by
  intro o ho a w hb hf hd K hK
  rw [if_pos (wanted_none _ (get_op (·.guard) ho (by kernel_rfl)))]
  obtain ⟨v13, h13, e13⟩ := dep_k (F := 24) ho hd 13 50 (.val (.bool true)) (by kernel_rfl) (by kernel_rfl) rfl (by kernel_rfl)
  obtain rfl : _ = v13 := Eq.symm e13
  obtain ⟨v17, h17, e17⟩ := dep_k (F := 24) ho hd 17 54 (.val (.bool true)) (by kernel_rfl) (by kernel_rfl) rfl (by kernel_rfl)
  obtain rfl : _ = v17 := Eq.symm e17
  exact ob_pick (c := .tmp 50) (x := .tmp 54) (y := .const (.bool false)) (b := true) (get_op (·.op) ho (by kernel_rfl)) (eval_tmp h13) (eval_tmp h17) (hK _ _ (rk_of rfl rfl) (.inl (Below.refl _ _)))
theorem m7b_ob19 : m7bOb w0 b t T vp vq vr c Q 19 := by
  intro o ho a w hb hf hd K hK
  rw [if_pos (wanted_none _ (get_op (·.guard) ho (by kernel_rfl)))]
  obtain ⟨v18, h18, e18⟩ := dep_k (F := 24) ho hd 18 55 (.val (.bool true)) (by kernel_rfl) (by kernel_rfl) rfl (by kernel_rfl)
  obtain rfl : _ = v18 := Eq.symm e18
  exact ob_move (get_op (·.op) ho (by kernel_rfl)) (eval_tmp h18) (hK _ _ (rk_of rfl rfl) (.inl (Below.refl _ _)))
theorem m7b_ob20 (H : m7bCtx w0 b t T vp pl vq ql vr rs c) : m7bOb w0 b t T vp vq vr c Q 20 := by
  intro o ho a w hb hf hd K hK
  obtain ⟨v19, h19, e19⟩ := dep_k (F := 24) ho hd 19 56 (.val (.bool true)) (by kernel_rfl) (by kernel_rfl) rfl (by kernel_rfl)
  obtain rfl : _ = v19 := Eq.symm e19
  rw [if_pos (wanted_at (g := 19) (b := true) ho (by kernel_rfl) (by kernel_rfl) h19 rfl)]
  exact ob_value (load_tab (H.tb.later hb) (get_op (·.op) ho (by kernel_rfl)) (eval_tmp (hf.2.2 (11, _) (by simp [m7bFixed])))) (hK _ _ (rk_of rfl rfl) (.inl (Below.refl _ _)))
theorem m7b_ob21 : m7bOb w0 b t T vp vq vr c Q 21 := by
  intro o ho a w hb hf hd K hK
  obtain ⟨v19, h19, e19⟩ := dep_k (F := 24) ho hd 19 56 (.val (.bool true)) (by kernel_rfl) (by kernel_rfl) rfl (by kernel_rfl)
  obtain rfl : _ = v19 := Eq.symm e19
  rw [if_pos (wanted_at (g := 19) (b := true) ho (by kernel_rfl) (by kernel_rfl) h19 rfl)]
  exact ob_move (get_op (·.op) ho (by kernel_rfl)) (eval_tmp (hf.2.2 (4, _) (by simp [m7bFixed]))) (hK _ _ (rk_of rfl rfl) (.inl (Below.refl _ _)))
theorem m7b_ob22 (H : m7bCtx w0 b t T vp pl vq ql vr rs c) : m7bOb w0 b t T vp vq vr c Q 22 := by
  intro o ho a w hb hf hd K hK
  obtain ⟨v19, h19, e19⟩ := dep_k (F := 24) ho hd 19 56 (.val (.bool true)) (by kernel_rfl) (by kernel_rfl) rfl (by kernel_rfl)
  obtain rfl : _ = v19 := Eq.symm e19
  rw [if_pos (wanted_at (g := 19) (b := true) ho (by kernel_rfl) (by kernel_rfl) h19 rfl)]
  obtain ⟨v20, h20, e20⟩ := dep_k (F := 24) ho hd 20 57 (.val t.val) (by kernel_rfl) (by kernel_rfl) rfl (by kernel_rfl)
  obtain rfl : _ = v20 := Eq.symm e20
  obtain ⟨v21, h21, e21⟩ := dep_k (F := 24) ho hd 21 58 (.val (.int .i64 c)) (by kernel_rfl) (by kernel_rfl) rfl (by kernel_rfl)
  obtain rfl : _ = v21 := Eq.symm e21
  refine ob_enter (enter2 (tys := #[26, 3]) (x := .tmp 57) (y := .tmp 58) (get_op (·.op) ho (by kernel_rfl)) (eval_tmp h20) (eval_tmp h21) (fun args w => enters_of Tryz.func20 (by kernel_rfl) rfl args w)) (one7_any t T  c w (H.tb.later hb).2 (H.g.later hb)) fun e w' ⟨v, he, h2, h1⟩ => ⟨v, he, ?_⟩
  exact hK _ _ (rk_of rfl ⟨_, Ints.of_own h2, rfl⟩) (.inl h1)
theorem m7b_ob23 (H : m7bCtx w0 b t T vp pl vq ql vr rs c) : m7bOb w0 b t T vp vq vr c Q 23 := by
  intro o ho a w hb hf hd K hK
  obtain ⟨v19, h19, e19⟩ := dep_k (F := 24) ho hd 19 56 (.val (.bool true)) (by kernel_rfl) (by kernel_rfl) rfl (by kernel_rfl)
  obtain rfl : _ = v19 := Eq.symm e19
  rw [if_pos (wanted_at (g := 19) (b := true) ho (by kernel_rfl) (by kernel_rfl) h19 rfl)]
  exact ob_value (load_tab (H.tb.later hb) (get_op (·.op) ho (by kernel_rfl)) (eval_tmp (hf.2.2 (11, _) (by simp [m7bFixed])))) (hK _ _ (rk_of rfl rfl) (.inl (Below.refl _ _)))
theorem m7b_ob24 : m7bOb w0 b t T vp vq vr c Q 24 := by
  intro o ho a w hb hf hd K hK
  obtain ⟨v19, h19, e19⟩ := dep_k (F := 24) ho hd 19 56 (.val (.bool true)) (by kernel_rfl) (by kernel_rfl) rfl (by kernel_rfl)
  obtain rfl : _ = v19 := Eq.symm e19
  rw [if_pos (wanted_at (g := 19) (b := true) ho (by kernel_rfl) (by kernel_rfl) h19 rfl)]
  exact ob_move (get_op (·.op) ho (by kernel_rfl)) (eval_tmp (hf.2.2 (4, _) (by simp [m7bFixed]))) (hK _ _ (rk_of rfl rfl) (.inl (Below.refl _ _)))
theorem m7b_ob25 (H : m7bCtx w0 b t T vp pl vq ql vr rs c) : m7bOb w0 b t T vp vq vr c Q 25 := by
  intro o ho a w hb hf hd K hK
  obtain ⟨v19, h19, e19⟩ := dep_k (F := 24) ho hd 19 56 (.val (.bool true)) (by kernel_rfl) (by kernel_rfl) rfl (by kernel_rfl)
  obtain rfl : _ = v19 := Eq.symm e19
  rw [if_pos (wanted_at (g := 19) (b := true) ho (by kernel_rfl) (by kernel_rfl) h19 rfl)]
  obtain ⟨v23, h23, e23⟩ := dep_k (F := 24) ho hd 23 60 (.val t.val) (by kernel_rfl) (by kernel_rfl) rfl (by kernel_rfl)
  obtain rfl : _ = v23 := Eq.symm e23
  obtain ⟨v24, h24, e24⟩ := dep_k (F := 24) ho hd 24 61 (.val (.int .i64 c)) (by kernel_rfl) (by kernel_rfl) rfl (by kernel_rfl)
  obtain rfl : _ = v24 := Eq.symm e24
  refine ob_enter (enter2 (tys := #[26, 3]) (x := .tmp 60) (y := .tmp 61) (get_op (·.op) ho (by kernel_rfl)) (eval_tmp h23) (eval_tmp h24) (fun args w => enters_of Tryz.func21 (by kernel_rfl) rfl args w)) (refOne_any t T  c w (H.tb.later hb).2) fun e w' ⟨v, he, h2, h1⟩ => ⟨v, he, ?_⟩
  exact hK _ _ (rk_of rfl ⟨_, h2, rfl⟩) (.inl h1)
theorem m7b_ob26 : m7bOb w0 b t T vp vq vr c Q 26 := by
  intro o ho a w hb hf hd K hK
  obtain ⟨v19, h19, e19⟩ := dep_k (F := 24) ho hd 19 56 (.val (.bool true)) (by kernel_rfl) (by kernel_rfl) rfl (by kernel_rfl)
  obtain rfl : _ = v19 := Eq.symm e19
  rw [if_pos (wanted_at (g := 19) (b := true) ho (by kernel_rfl) (by kernel_rfl) h19 rfl)]
  obtain ⟨v22, h22, e22⟩ := dep_k (F := 24) ho hd 22 59 (.lst (· = oneL T  c)) (by kernel_rfl) (by kernel_rfl) rfl (by kernel_rfl)
  obtain ⟨v25, h25, e25⟩ := dep_k (F := 24) ho hd 25 62 (.lst (· = oneL T  c)) (by kernel_rfl) (by kernel_rfl) rfl (by kernel_rfl)
  obtain ⟨_, hi22, rfl⟩ := e22
  obtain ⟨_, hi25, rfl⟩ := e25
  refine ob_enter (enter2 (tys := #[22, 22]) (x := .tmp 59) (y := .tmp 62) (get_op (·.op) ho (by kernel_rfl)) (eval_tmp h22) (eval_tmp h25) (fun args w => enters_of Tryz.func13 (by kernel_rfl) rfl args w)) (same_of _ _ _ _ w hi22 hi25 rfl) fun e w' ⟨he, h1⟩ => ⟨_, he, ?_⟩
  exact hK _ _ (rk_of rfl rfl) (.inl h1)
theorem m7b_ob27 : m7bOb w0 b t T vp vq vr c Q 27 := by
  intro o ho a w hb hf hd K hK
  rw [if_pos (wanted_none _ (get_op (·.guard) ho (by kernel_rfl)))]
  obtain ⟨v19, h19, e19⟩ := dep_k (F := 24) ho hd 19 56 (.val (.bool true)) (by kernel_rfl) (by kernel_rfl) rfl (by kernel_rfl)
  obtain rfl : _ = v19 := Eq.symm e19
  obtain ⟨v26, h26, e26⟩ := dep_k (F := 24) ho hd 26 63 (.val (.bool true)) (by kernel_rfl) (by kernel_rfl) rfl (by kernel_rfl)
  obtain rfl : _ = v26 := Eq.symm e26
  exact ob_pick (c := .tmp 56) (x := .tmp 63) (y := .const (.bool false)) (b := true) (get_op (·.op) ho (by kernel_rfl)) (eval_tmp h19) (eval_tmp h26) (hK _ _ (rk_of rfl rfl) (.inl (Below.refl _ _)))
theorem m7b_ob28 : m7bOb w0 b t T vp vq vr c Q 28 := by
  intro o ho a w hb hf hd K hK
  rw [if_pos (wanted_none _ (get_op (·.guard) ho (by kernel_rfl)))]
  obtain ⟨v27, h27, e27⟩ := dep_k (F := 24) ho hd 27 64 (.val (.bool true)) (by kernel_rfl) (by kernel_rfl) rfl (by kernel_rfl)
  obtain rfl : _ = v27 := Eq.symm e27
  exact ob_assign (get_op (·.op) ho (by kernel_rfl)) (eval_tmp h27) (hK _ _ (rk_of rfl rfl) (.inl (Below.refl _ _)))
theorem m7b_obs (H : m7bCtx w0 b t T vp pl vq ql vr rs c) (k : Nat) (hk : k < 29) : m7bOb w0 b t T vp vq vr c Q k := by
  match k, hk with
  | 0, _ => exact m7b_ob0 H
  | 1, _ => exact m7b_ob1
  | 2, _ => exact m7b_ob2 H
  | 3, _ => exact m7b_ob3
  | 4, _ => exact m7b_ob4
  | 5, _ => exact m7b_ob5 H
  | 6, _ => exact m7b_ob6
  | 7, _ => exact m7b_ob7
  | 8, _ => exact m7b_ob8 H
  | 9, _ => exact m7b_ob9
  | 10, _ => exact m7b_ob10
  | 11, _ => exact m7b_ob11 H
  | 12, _ => exact m7b_ob12
  | 13, _ => exact m7b_ob13
  | 14, _ => exact m7b_ob14 H
  | 15, _ => exact m7b_ob15
  | 16, _ => exact m7b_ob16
  | 17, _ => exact m7b_ob17 H
  | 18, _ => exact m7b_ob18
  | 19, _ => exact m7b_ob19
  | 20, _ => exact m7b_ob20 H
  | 21, _ => exact m7b_ob21
  | 22, _ => exact m7b_ob22 H
  | 23, _ => exact m7b_ob23 H
  | 24, _ => exact m7b_ob24
  | 25, _ => exact m7b_ob25 H
  | 26, _ => exact m7b_ob26
  | 27, _ => exact m7b_ob27
  | 28, _ => exact m7b_ob28
  | m + 29, h => exact absurd h (by omega)
theorem m7b_region {a : Act} (H : m7bCtx w0 b t T vp pl vq ql vr rs c) (hf : FS 65 [] (m7bFixed b vp vq vr c) a)
    (hend : ∀ a w, Below w0.heap.size w0 w → FS 65 [] (m7bFixed b vp vq vr c) a → (∀ (i : Nat) (o : Oper) (d : Tmp), (opsAt Tryz.f6 9)[i]? = some o → (∀ j, killK (m7bSpecs t T vp vq vr c) [] i j = false) → o.dst = some d → ∃ v, a.tmps[d]? = some v ∧ RK w0.heap.size (m7bSpecs t T vp vq vr c) i v w) → Q .normal a w) : (Code.region 9 (opsAt Tryz.f6 9) true).wp Tryz.prog Q a w0 := by
  refine wp_region_k 24 (n := 65) (ds := []) (fixed := m7bFixed b vp vq vr c) (specs := m7bSpecs t T vp vq vr c) (apps := []) (by kernel_rfl) (by kernel_rfl) (by kernel_rfl) (by kernel_rfl) hf (fun i hi => m7b_obs H i ?_) hend
  have hn : (opsAt Tryz.f6 9).size = 29 := by kernel_rfl
  omega
end

set_option maxRecDepth 100000 in
set_option maxHeartbeats 4000000 in
theorem DecomposeMade_go (W : World) (hg : Glob W) (v : Value) (xs : List Int) (hv : Ints W W.heap.size .i64 v xs) (vm : Value) (ms : List Int) (hvm : Ints W W.heap.size .i64 vm ms) (vo : Value) (os_ : List Int) (hvo : Ints W W.heap.size .i64 vo os_) (vr : Value) (rs : List Int) (hvr : Ints W W.heap.size .i64 vr rs) (n : Int) :
    Calls Tryz.prog 6 #[v, vm, vo, vr, .int .i64 n] W fun e W' => e = .returned (.bool true) ∧ Below W.heap.size W W' := by
  have HG := Lib.hid hg
  have HM := Lib.hid hvm
  have HO := Lib.hid hvo
  have HR := Lib.hid hvr
  obtain ⟨Ax, cx, rfl, _⟩ := id hv
  obtain ⟨Am, cm, rfl, _⟩ := id hvm
  obtain ⟨Ao, co, rfl, _⟩ := id hvo
  obtain ⟨Ar, cr, rfl, _⟩ := id hvr
  have HT := Lib.hid (keepTables_any W _ xs hv)
  clear hv hg hvm hvo hvr
  go_enter Tryz.func6, Tryz.ntmps6
  go_upto_region 2 with (go_at_call 8; refine HT.out.mono ?_; rintro e w1 ⟨t, T, rfl, ht1, hm1, hb1⟩; obtain ⟨A0, A1, A2, A3, A4, A5, A6, A7, A8, A9, A10, A11, k0, k1, k2, k3, k4, k5, k6, k7, k8, k9, k10, k11, rfl⟩ := ht1.shape; have HT1 := Lib.hid ht1; have HB1 := Lib.hid hb1; have HM1 := Lib.hid hm1; clear ht1 hb1 hm1)
  obtain ⟨t, ht, htb⟩ := Tbl.new HT1.out
  have HT2 := Lib.hid htb
  have HB2 := Lib.hid (HB1.out.alloc HB1.out.size (.cells #[.slice A0 T.category.length k0, .slice A1 T.cls.length k1, .slice A2 T.joining.length k2, .slice A3 T.bidi.length k3, .slice A4 T.script.length k4, .slice A5 T.status.length k5, .slice A6 T.ignorable.length k6, .slice A7 T.extensions.length k7, .slice A8 T.maps.length k8, .slice A9 T.decomps.length k9, .slice A10 T.excluded.length k10, .slice A11 T.prototypes.length k11] 26))
  clear htb HT1 HT
  generalize w1.alloc (.cells #[.slice A0 T.category.length k0, .slice A1 T.cls.length k1, .slice A2 T.joining.length k2, .slice A3 T.bidi.length k3, .slice A4 T.script.length k4, .slice A5 T.status.length k5, .slice A6 T.ignorable.length k6, .slice A7 T.extensions.length k7, .slice A8 T.maps.length k8, .slice A9 T.decomps.length k9, .slice A10 T.excluded.length k10, .slice A11 T.prototypes.length k11] 26) = w2 at *
  generalize w1.heap.size = tb at *
  clear ht HM1
  have HG2 := Lib.hid (HG.out.later HB2.out)
  have HM2 := Lib.hid (HM.out.later HB2.out)
  have HO2 := Lib.hid (HO.out.later HB2.out)
  have HR2 := Lib.hid (HR.out.later HB2.out)
  clear HG HM HO HR
  go_upto_region 3 with (first
    | (go_at_call 9; refine (points_any _ (.slice Am ms.length cm) ms HM2.out).mono ?_; rintro e w3 ⟨u3, pl, rfl, hi3, hpl, _, b3⟩; obtain ⟨A3, c3, rfl, _⟩ := id hi3; have HP3 := Lib.hid hi3; have B3 := Lib.hid b3; clear hi3 b3 HM2)
    | (go_at_call 9; refine (points_any _ (.slice Ao os_.length co) os_ (HO2.out.later B3.out)).mono ?_; rintro e w4 ⟨u4, ql, rfl, hi4, hql, _, b4⟩; obtain ⟨A4, c4, rfl, _⟩ := id hi4; have HQ4 := Lib.hid hi4; have HP4 := Lib.hid (HP3.out.later b4); have B4 := Lib.hid (below_next B3.out b4); clear hi4 b4 HP3))
  go_wp2_with fail
  go_loopw [24] (fun si wr => ∃ (k : Nat), k ≤ pl.length ∧ si = .int .i64 k ∧ Hid (Below w4.heap.size w4 wr)) (fun si _ => pl.length - (intOf si).toNat)
  case atStart => exact ⟨0, by omega, rfl, Lib.hid (Below.refl _ _)⟩
  case round =>
    obtain ⟨k, hk, rfl, HBr⟩ := hrel
    by_cases hlt : k < pl.length
    · obtain ⟨x, hxk, _⟩ := get_of hlt
      obtain ⟨_, _, hve, _, _, _, hcell⟩ := HP4.out
      cases hve
      obtain ⟨ad, rfl, ha, hce⟩ := hcell k x hxk
      have e1 := (HBr.out.cell (p := ad.add k) (by rw [block_of_add]; exact ha)).trans hce
      have k0 : (0 : Int) ≤ (k : Int) := by omega
      have k1 : (k : Int) < (pl.length : Int) := by omega
      have B9 := Lib.hid (below_next B4.out HBr.out)
      clear hcell hxk ha hce
      go_upto_region 6 with fail
      rename_i K hK
      refine wp_region_as (ops := (opsAt Tryz.f6 6)) (by kernel_rfl) ?_
      refine m7a_region2 (b := tb) (t := t) (T := T) (x := x) ⟨HT2.out.later B9.out, HG2.out.later B9.out⟩ ⟨rfl, rfl, by intro p hp; simp [m7aFixed] at hp; rcases hp with rfl | rfl <;> rfl⟩ ?_
      intro a w7 hb hf ho hr
      obtain ⟨v35, h35, e35⟩ := end_k hr 7 35 (.val (.bool false)) (by kernel_rfl) rfl (by kernel_rfl)
      obtain rfl : _ = v35 := Eq.symm e35
      have B7 := Lib.hid (below_then HBr.out (Nat.le_refl _) hb)
      have hs := hf.1
      have hd := hf.2.1
      refine hK a w7 ?_
      obtain ⟨fa, hfa, ha⟩ := act_fun hs hd
      have ea0 := (hfa 0 (by decide)).symm.trans (ho 0 (by decide) (by kernel_rfl))
      simp only [List.getElem?_toArray, List.getElem?_cons_zero, Option.some.injEq] at ea0
      have ea1 := (hfa 1 (by decide)).symm.trans (ho 1 (by decide) (by kernel_rfl))
      simp only [List.getElem?_toArray, List.getElem?_cons_zero, List.getElem?_cons_succ, Option.some.injEq] at ea1
      have ea2 := (hfa 2 (by decide)).symm.trans (ho 2 (by decide) (by kernel_rfl))
      simp only [List.getElem?_toArray, List.getElem?_cons_zero, List.getElem?_cons_succ, Option.some.injEq] at ea2
      have ea3 := (hfa 3 (by decide)).symm.trans (ho 3 (by decide) (by kernel_rfl))
      simp only [List.getElem?_toArray, List.getElem?_cons_zero, List.getElem?_cons_succ, Option.some.injEq] at ea3
      have ea4 := (hfa 4 (by decide)).symm.trans (ho 4 (by decide) (by kernel_rfl))
      simp only [List.getElem?_toArray, List.getElem?_cons_zero, List.getElem?_cons_succ, Option.some.injEq] at ea4
      have ea5 := (hfa 5 (by decide)).symm.trans (ho 5 (by decide) (by kernel_rfl))
      simp only [List.getElem?_toArray, List.getElem?_cons_zero, List.getElem?_cons_succ, Option.some.injEq] at ea5
      have ea6 := (hfa 6 (by decide)).symm.trans (ho 6 (by decide) (by kernel_rfl))
      simp only [List.getElem?_toArray, List.getElem?_cons_zero, List.getElem?_cons_succ, Option.some.injEq] at ea6
      have ea7 := (hfa 7 (by decide)).symm.trans (ho 7 (by decide) (by kernel_rfl))
      simp only [List.getElem?_toArray, List.getElem?_cons_zero, List.getElem?_cons_succ, Option.some.injEq] at ea7
      have ea8 := (hfa 8 (by decide)).symm.trans (ho 8 (by decide) (by kernel_rfl))
      simp only [List.getElem?_toArray, List.getElem?_cons_zero, List.getElem?_cons_succ, Option.some.injEq] at ea8
      have ea9 := (hfa 9 (by decide)).symm.trans (ho 9 (by decide) (by kernel_rfl))
      simp only [List.getElem?_toArray, List.getElem?_cons_zero, List.getElem?_cons_succ, Option.some.injEq] at ea9
      have ea10 := (hfa 10 (by decide)).symm.trans (ho 10 (by decide) (by kernel_rfl))
      simp only [List.getElem?_toArray, List.getElem?_cons_zero, List.getElem?_cons_succ, Option.some.injEq] at ea10
      have ea11 := (hfa 11 (by decide)).symm.trans (ho 11 (by decide) (by kernel_rfl))
      simp only [List.getElem?_toArray, List.getElem?_cons_zero, List.getElem?_cons_succ, Option.some.injEq] at ea11
      have ea12 := (hfa 12 (by decide)).symm.trans (ho 12 (by decide) (by kernel_rfl))
      simp only [List.getElem?_toArray, List.getElem?_cons_zero, List.getElem?_cons_succ, Option.some.injEq] at ea12
      have ea13 := (hfa 13 (by decide)).symm.trans (ho 13 (by decide) (by kernel_rfl))
      simp only [List.getElem?_toArray, List.getElem?_cons_zero, List.getElem?_cons_succ, Option.some.injEq] at ea13
      have ea14 := (hfa 14 (by decide)).symm.trans (ho 14 (by decide) (by kernel_rfl))
      simp only [List.getElem?_toArray, List.getElem?_cons_zero, List.getElem?_cons_succ, Option.some.injEq] at ea14
      have ea15 := (hfa 15 (by decide)).symm.trans (ho 15 (by decide) (by kernel_rfl))
      simp only [List.getElem?_toArray, List.getElem?_cons_zero, List.getElem?_cons_succ, Option.some.injEq] at ea15
      have ea16 := (hfa 16 (by decide)).symm.trans (ho 16 (by decide) (by kernel_rfl))
      simp only [List.getElem?_toArray, List.getElem?_cons_zero, List.getElem?_cons_succ, Option.some.injEq] at ea16
      have ea17 := (hfa 17 (by decide)).symm.trans (ho 17 (by decide) (by kernel_rfl))
      simp only [List.getElem?_toArray, List.getElem?_cons_zero, List.getElem?_cons_succ, Option.some.injEq] at ea17
      have ea18 := (hfa 18 (by decide)).symm.trans (ho 18 (by decide) (by kernel_rfl))
      simp only [List.getElem?_toArray, List.getElem?_cons_zero, List.getElem?_cons_succ, Option.some.injEq] at ea18
      have ea19 := (hfa 19 (by decide)).symm.trans (ho 19 (by decide) (by kernel_rfl))
      simp only [List.getElem?_toArray, List.getElem?_cons_zero, List.getElem?_cons_succ, Option.some.injEq] at ea19
      have ea20 := (hfa 20 (by decide)).symm.trans (ho 20 (by decide) (by kernel_rfl))
      simp only [List.getElem?_toArray, List.getElem?_cons_zero, List.getElem?_cons_succ, Option.some.injEq] at ea20
      have ea21 := (hfa 21 (by decide)).symm.trans (ho 21 (by decide) (by kernel_rfl))
      simp only [List.getElem?_toArray, List.getElem?_cons_zero, List.getElem?_cons_succ, Option.some.injEq] at ea21
      have ea22 := (hfa 22 (by decide)).symm.trans (ho 22 (by decide) (by kernel_rfl))
      simp only [List.getElem?_toArray, List.getElem?_cons_zero, List.getElem?_cons_succ, Option.some.injEq] at ea22
      have ea23 := (hfa 23 (by decide)).symm.trans (ho 23 (by decide) (by kernel_rfl))
      simp only [List.getElem?_toArray, List.getElem?_cons_zero, List.getElem?_cons_succ, Option.some.injEq] at ea23
      have ea24 := (hfa 24 (by decide)).symm.trans (ho 24 (by decide) (by kernel_rfl))
      simp only [List.getElem?_toArray, List.getElem?_cons_zero, List.getElem?_cons_succ, Option.some.injEq] at ea24
      have ea25 := (hfa 25 (by decide)).symm.trans (ho 25 (by decide) (by kernel_rfl))
      simp only [List.getElem?_toArray, List.getElem?_cons_zero, List.getElem?_cons_succ, Option.some.injEq] at ea25
      have ea26 := (hfa 26 (by decide)).symm.trans (ho 26 (by decide) (by kernel_rfl))
      simp only [List.getElem?_toArray, List.getElem?_cons_zero, List.getElem?_cons_succ, Option.some.injEq] at ea26
      have ea27 := (hfa 27 (by decide)).symm.trans (ho 27 (by decide) (by kernel_rfl))
      simp only [List.getElem?_toArray, List.getElem?_cons_zero, List.getElem?_cons_succ, Option.some.injEq] at ea27
      have ea36 := (hfa 36 (by decide)).symm.trans (ho 36 (by decide) (by kernel_rfl))
      simp only [List.getElem?_toArray, List.getElem?_cons_zero, List.getElem?_cons_succ, Option.some.injEq] at ea36
      have ea37 := (hfa 37 (by decide)).symm.trans (ho 37 (by decide) (by kernel_rfl))
      simp only [List.getElem?_toArray, List.getElem?_cons_zero, List.getElem?_cons_succ, Option.some.injEq] at ea37
      have ea38 := (hfa 38 (by decide)).symm.trans (ho 38 (by decide) (by kernel_rfl))
      simp only [List.getElem?_toArray, List.getElem?_cons_zero, List.getElem?_cons_succ, Option.some.injEq] at ea38
      have ea39 := (hfa 39 (by decide)).symm.trans (ho 39 (by decide) (by kernel_rfl))
      simp only [List.getElem?_toArray, List.getElem?_cons_zero, List.getElem?_cons_succ, Option.some.injEq] at ea39
      have ea40 := (hfa 40 (by decide)).symm.trans (ho 40 (by decide) (by kernel_rfl))
      simp only [List.getElem?_toArray, List.getElem?_cons_zero, List.getElem?_cons_succ, Option.some.injEq] at ea40
      have ea41 := (hfa 41 (by decide)).symm.trans (ho 41 (by decide) (by kernel_rfl))
      simp only [List.getElem?_toArray, List.getElem?_cons_zero, List.getElem?_cons_succ, Option.some.injEq] at ea41
      have ea42 := (hfa 42 (by decide)).symm.trans (ho 42 (by decide) (by kernel_rfl))
      simp only [List.getElem?_toArray, List.getElem?_cons_zero, List.getElem?_cons_succ, Option.some.injEq] at ea42
      have ea43 := (hfa 43 (by decide)).symm.trans (ho 43 (by decide) (by kernel_rfl))
      simp only [List.getElem?_toArray, List.getElem?_cons_zero, List.getElem?_cons_succ, Option.some.injEq] at ea43
      have ea44 := (hfa 44 (by decide)).symm.trans (ho 44 (by decide) (by kernel_rfl))
      simp only [List.getElem?_toArray, List.getElem?_cons_zero, List.getElem?_cons_succ, Option.some.injEq] at ea44
      have ea45 := (hfa 45 (by decide)).symm.trans (ho 45 (by decide) (by kernel_rfl))
      simp only [List.getElem?_toArray, List.getElem?_cons_zero, List.getElem?_cons_succ, Option.some.injEq] at ea45
      have ea46 := (hfa 46 (by decide)).symm.trans (ho 46 (by decide) (by kernel_rfl))
      simp only [List.getElem?_toArray, List.getElem?_cons_zero, List.getElem?_cons_succ, Option.some.injEq] at ea46
      have ea47 := (hfa 47 (by decide)).symm.trans (ho 47 (by decide) (by kernel_rfl))
      simp only [List.getElem?_toArray, List.getElem?_cons_zero, List.getElem?_cons_succ, Option.some.injEq] at ea47
      have ea48 := (hfa 48 (by decide)).symm.trans (ho 48 (by decide) (by kernel_rfl))
      simp only [List.getElem?_toArray, List.getElem?_cons_zero, List.getElem?_cons_succ, Option.some.injEq] at ea48
      have ea49 := (hfa 49 (by decide)).symm.trans (ho 49 (by decide) (by kernel_rfl))
      simp only [List.getElem?_toArray, List.getElem?_cons_zero, List.getElem?_cons_succ, Option.some.injEq] at ea49
      have ea50 := (hfa 50 (by decide)).symm.trans (ho 50 (by decide) (by kernel_rfl))
      simp only [List.getElem?_toArray, List.getElem?_cons_zero, List.getElem?_cons_succ, Option.some.injEq] at ea50
      have ea51 := (hfa 51 (by decide)).symm.trans (ho 51 (by decide) (by kernel_rfl))
      simp only [List.getElem?_toArray, List.getElem?_cons_zero, List.getElem?_cons_succ, Option.some.injEq] at ea51
      have ea52 := (hfa 52 (by decide)).symm.trans (ho 52 (by decide) (by kernel_rfl))
      simp only [List.getElem?_toArray, List.getElem?_cons_zero, List.getElem?_cons_succ, Option.some.injEq] at ea52
      have ea53 := (hfa 53 (by decide)).symm.trans (ho 53 (by decide) (by kernel_rfl))
      simp only [List.getElem?_toArray, List.getElem?_cons_zero, List.getElem?_cons_succ, Option.some.injEq] at ea53
      have ea54 := (hfa 54 (by decide)).symm.trans (ho 54 (by decide) (by kernel_rfl))
      simp only [List.getElem?_toArray, List.getElem?_cons_zero, List.getElem?_cons_succ, Option.some.injEq] at ea54
      have ea55 := (hfa 55 (by decide)).symm.trans (ho 55 (by decide) (by kernel_rfl))
      simp only [List.getElem?_toArray, List.getElem?_cons_zero, List.getElem?_cons_succ, Option.some.injEq] at ea55
      have ea56 := (hfa 56 (by decide)).symm.trans (ho 56 (by decide) (by kernel_rfl))
      simp only [List.getElem?_toArray, List.getElem?_cons_zero, List.getElem?_cons_succ, Option.some.injEq] at ea56
      have ea57 := (hfa 57 (by decide)).symm.trans (ho 57 (by decide) (by kernel_rfl))
      simp only [List.getElem?_toArray, List.getElem?_cons_zero, List.getElem?_cons_succ, Option.some.injEq] at ea57
      have ea58 := (hfa 58 (by decide)).symm.trans (ho 58 (by decide) (by kernel_rfl))
      simp only [List.getElem?_toArray, List.getElem?_cons_zero, List.getElem?_cons_succ, Option.some.injEq] at ea58
      have ea59 := (hfa 59 (by decide)).symm.trans (ho 59 (by decide) (by kernel_rfl))
      simp only [List.getElem?_toArray, List.getElem?_cons_zero, List.getElem?_cons_succ, Option.some.injEq] at ea59
      have ea60 := (hfa 60 (by decide)).symm.trans (ho 60 (by decide) (by kernel_rfl))
      simp only [List.getElem?_toArray, List.getElem?_cons_zero, List.getElem?_cons_succ, Option.some.injEq] at ea60
      have ea61 := (hfa 61 (by decide)).symm.trans (ho 61 (by decide) (by kernel_rfl))
      simp only [List.getElem?_toArray, List.getElem?_cons_zero, List.getElem?_cons_succ, Option.some.injEq] at ea61
      have ea62 := (hfa 62 (by decide)).symm.trans (ho 62 (by decide) (by kernel_rfl))
      simp only [List.getElem?_toArray, List.getElem?_cons_zero, List.getElem?_cons_succ, Option.some.injEq] at ea62
      have ea63 := (hfa 63 (by decide)).symm.trans (ho 63 (by decide) (by kernel_rfl))
      simp only [List.getElem?_toArray, List.getElem?_cons_zero, List.getElem?_cons_succ, Option.some.injEq] at ea63
      have ea64 := (hfa 64 (by decide)).symm.trans (ho 64 (by decide) (by kernel_rfl))
      simp only [List.getElem?_toArray, List.getElem?_cons_zero, List.getElem?_cons_succ, Option.some.injEq] at ea64
      have ea35 : fa 35 = .bool false := Option.some.inj ((hfa 35 (by decide)).symm.trans (h35))
      have ha2 : a = ⟨#[fa 0, fa 1, fa 2, fa 3, fa 4, fa 5, fa 6, fa 7, fa 8, fa 9, fa 10, fa 11, fa 12, fa 13, fa 14, fa 15, fa 16, fa 17, fa 18, fa 19, fa 20, fa 21, fa 22, fa 23, fa 24, fa 25, fa 26, fa 27, fa 28, fa 29, fa 30, fa 31, fa 32, fa 33, fa 34, fa 35, fa 36, fa 37, fa 38, fa 39, fa 40, fa 41, fa 42, fa 43, fa 44, fa 45, fa 46, fa 47, fa 48, fa 49, fa 50, fa 51, fa 52, fa 53, fa 54, fa 55, fa 56, fa 57, fa 58, fa 59, fa 60, fa 61, fa 62, fa 63, fa 64], []⟩ := ha.trans (by kernel_rfl)
      rw [ea0, ea1, ea2, ea3, ea4, ea5, ea6, ea7, ea8, ea9, ea10, ea11, ea12, ea13, ea14, ea15, ea16, ea17, ea18, ea19, ea20, ea21, ea22, ea23, ea24, ea25, ea26, ea27, ea35, ea36, ea37, ea38, ea39, ea40, ea41, ea42, ea43, ea44, ea45, ea46, ea47, ea48, ea49, ea50, ea51, ea52, ea53, ea54, ea55, ea56, ea57, ea58, ea59, ea60, ea61, ea62, ea63, ea64] at ha2
      clear ha hfa ho ea0 ea1 ea2 ea3 ea4 ea5 ea6 ea7 ea8 ea9 ea10 ea11 ea12 ea13 ea14 ea15 ea16 ea17 ea18 ea19 ea20 ea21 ea22 ea23 ea24 ea25 ea26 ea27 ea35 ea36 ea37 ea38 ea39 ea40 ea41 ea42 ea43 ea44 ea45 ea46 ea47 ea48 ea49 ea50 ea51 ea52 ea53 ea54 ea55 ea56 ea57 ea58 ea59 ea60 ea61 ea62 ea63 ea64
      subst ha2
      clear hf hr h35 hs hd hK hb e1
      go_wp2_with fail
      go_roundw
      case rel => exact ⟨k + 1, by omega, by go_num, B7⟩
      case measure => simp [intOf]; omega
    · go_upto_region 9 with fail
      have B9 := Lib.hid (below_next B4.out HBr.out)
      refine wp_region_as (ops := (opsAt Tryz.f6 9)) (by kernel_rfl) ?_
      refine m7b_region (b := tb) (t := t) (T := T) (vp := .slice A3 pl.length c3) (pl := pl) (vq := .slice A4 ql.length c4) (ql := ql) (vr := .slice Ar rs.length cr) (rs := rs) (c := n) ⟨HT2.out.later B9.out, HG2.out.later B9.out, HP4.out.later HBr.out, HQ4.out.later HBr.out, HR2.out.later B9.out⟩ ⟨rfl, rfl, by intro p hp; simp [m7bFixed] at hp; rcases hp with rfl | rfl | rfl | rfl | rfl <;> rfl⟩ ?_
      intro a w9 hc hf hr
      obtain ⟨v9, hv9, e9⟩ := end_k hr 28 10 (.val (.bool true)) (by kernel_rfl) rfl (by kernel_rfl)
      obtain rfl : v9 = .bool true := e9
      rename_i K hK
      refine hK a w9 ?_
      go_wp2
      exact bodyPost_ret (v := .bool true) (by simp [results, Tryz.results6, hv9]) hf.2.1 ⟨rfl, below_next HB2.out (below_next B9.out hc)⟩
theorem DecomposeMade_walk (W : World) (hg : Glob W) (v : Value) (xs : List Int) (hv : Ints W W.heap.size .i64 v xs) (_ : ∀ x ∈ xs, -9223372036854775808 ≤ x ∧ x ≤ 9223372036854775807) (_ : xs.length * 8 ≤ 140737488351232) (vm : Value) (ms : List Int) (hvm : Ints W W.heap.size .i64 vm ms) (_ : ∀ x ∈ ms, -9223372036854775808 ≤ x ∧ x ≤ 9223372036854775807) (_ : ms.length * 8 ≤ 140737488351232) (vo : Value) (os_ : List Int) (hvo : Ints W W.heap.size .i64 vo os_) (_ : ∀ x ∈ os_, -9223372036854775808 ≤ x ∧ x ≤ 9223372036854775807) (_ : os_.length * 8 ≤ 140737488351232) (vr : Value) (rs : List Int) (hvr : Ints W W.heap.size .i64 vr rs) (_ : ∀ x ∈ rs, -9223372036854775808 ≤ x ∧ x ≤ 9223372036854775807) (_ : rs.length * 8 ≤ 140737488351232) (n : Int) (_ : -9223372036854775808 ≤ n ∧ n ≤ 9223372036854775807) :
    Calls Tryz.prog 6 #[v, vm, vo, vr, .int .i64 n] W fun e W' => e = .returned (.bool true) ∧ Below W.heap.size W W' := DecomposeMade_go W hg v xs hv vm ms hvm vo os_ hvo vr rs hvr n
end Go.Proofs.YtjigjjbhdgpfjaaGreatDoor
