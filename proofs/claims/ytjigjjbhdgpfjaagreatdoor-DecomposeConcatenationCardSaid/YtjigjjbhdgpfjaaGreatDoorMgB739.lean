/-
  Merged texts: lemmas and walks that the last text of this claim leans on.
-/
import Derived.Test.YtjigjjbhdgpfjaaGreatDoorMgB736
import Derived.Test.YtjigjjbhdgpfjaaGreatDoorMgB715
import Derived.Test.YtjigjjbhdgpfjaaGreatDoorMgB716
import Derived.Test.YtjigjjbhdgpfjaaGreatDoorMgB738
import Derived.Test.YtjigjjbhdgpfjaaGreatDoorMgB735
import Derived.Test.YtjigjjbhdgpfjaaGreatDoorMgB733
import Derived.Test.YtjigjjbhdgpfjaaGreatDoorMgB734
/-
  The walk through the law DecomposeConcatenation.
-/
namespace Go.Proofs.YtjigjjbhdgpfjaaGreatDoor
open Go.RowKit ND

theorem nfd7_eq (t : Tv) (T : Tab) (v : Value) (xs : List Int) (w : World) (r : List Int × Int) (ht : TabR w w.heap.size t T) (hg : Glob w) (hv : Ints w w.heap.size .i64 v xs) (hr : nfdR T (accE T xs) xs = r) :
    Calls Tryz.prog 10 #[t.val, v] w (RetTwo w r.1 r.2) := by subst hr; exact nfd7_any t T v xs w ht hg hv
theorem ord7_eq (t : Tv) (T : Tab) (v : Value) (xs : List Int) (w : World) (ys : List Int) (ht : TabR w w.heap.size t T) (hv : Ints w w.heap.size .i64 v xs) (h0 : accE T xs = 0) (hy : ordL T xs = ys) :
    Calls Tryz.prog 11 #[t.val, v] w (RetTwo w ys 0) := by
  have h := refOrder_any t T v xs w ht hv
  rw [h0, hy] at h; exact h
/-- A short sequence of scalar values has a normalization form D. -/
theorem nfd_short {T : Tab} (hck : T.check = 0) {l : List Int} (hs : l.all scalarB = true) (hl : l.length ≤ 200) : nfdR T (accE T l) l = (nfdL T l, 0) := by
  have h1 := (flatD_len (decOk_of hck) l).2
  rw [accE_ok hck (by omega) hs]; exact nfdR_ok (by omega)
theorem nfd_len {T : Tab} (hck : T.check = 0) (l : List Int) : (nfdL T l).length ≤ 18 * l.length := by
  rw [nfdL_length]; exact (flatD_len (decOk_of hck) l).2

/-- What holds ahead of region 5. -/
structure c7aCtx (w0 : World) (b : Nat) (t : Tv) (T : Tab) (va : Value) (as_ : List Int) (vb : Value) (bs : List Int) (zl : List Int) : Prop where
  tb : Tbl w0 b t T
  g : Glob w0
  la : Ints w0 w0.heap.size .i64 va as_
  lb : Ints w0 w0.heap.size .i64 vb bs
  na : as_.length ≤ 2000
  nb : bs.length ≤ 2000
  hz : nfdR T (accE T (as_ ++ bs)) (as_ ++ bs) = (zl, 0)
def c7aSpecs (t : Tv) (as_ : List Int) (bs : List Int) (zl : List Int) : List SpecK := [.val t.val, .low (· = as_), .own as_, .low (· = bs), .own (as_ ++ bs), .two 0 (· = zl), .two 0 (· = zl), .lst (· = zl), .val (.int .i64 0), .lst (· = zl), .val (.int .i64 0)]
def c7aFixed (b : Nat) (va : Value) (vb : Value) : List (Tmp × Value) := [(7, .pointer (some ⟨b, 0, none⟩)), (8, va), (9, vb)]
def c7aOb (w0 : World) (b : Nat) (t : Tv) (va : Value) (as_ : List Int) (vb : Value) (bs : List Int) (zl : List Int) (Q : Exit → Act → World → Prop) (k : Nat) : Prop := ObR 24 Tryz.prog (opsAt Tryz.f3 5) 76 [] (c7aFixed b va vb) w0 (c7aSpecs t as_ bs zl) [4] Q k
section
variable {w0 : World} {b : Nat} {t : Tv} {T : Tab} {va : Value} {as_ : List Int} {vb : Value} {bs : List Int} {zl : List Int} {Q : Exit → Act → World → Prop}
theorem c7a_ob0 (H : c7aCtx w0 b t T va as_ vb bs zl) : c7aOb w0 b t va as_ vb bs zl Q 0 := by
  intro o ho a w hb hf hd K hK
  rw [if_pos (wanted_none _ (get_op (·.guard) ho (by kernel_rfl)))]
  exact ob_value (load_tab (H.tb.later hb) (get_op (·.op) ho (by kernel_rfl)) (eval_tmp (hf.2.2 (7, _) (by simp [c7aFixed])))) (hK _ _ (rk_of rfl rfl) (.inl (Below.refl _ _)))
theorem c7a_ob1 (H : c7aCtx w0 b t T va as_ vb bs zl) : c7aOb w0 b t va as_ vb bs zl Q 1 := by
  intro o ho a w hb hf hd K hK
  rw [if_pos (wanted_none _ (get_op (·.guard) ho (by kernel_rfl)))]
  exact ob_move (get_op (·.op) ho (by kernel_rfl)) (eval_tmp (hf.2.2 (8, _) (by simp [c7aFixed]))) (hK _ _ (rk_of rfl ⟨_, H.la.below hb, rfl⟩) (.inl (Below.refl _ _)))
theorem c7a_ob2 (H : c7aCtx w0 b t T va as_ vb bs zl) : c7aOb w0 b t va as_ vb bs zl Q 2 := by
  intro o ho a w hb hf hd K hK
  rw [if_pos (wanted_none _ (get_op (·.guard) ho (by kernel_rfl)))]
  obtain ⟨v1, h1, e1⟩ := dep_k (F := 24) ho hd 1 38 (.low (· = as_)) (by kernel_rfl) (by kernel_rfl) rfl (by kernel_rfl)
  obtain ⟨_, hi1, rfl⟩ := e1
  obtain ⟨i0, hi, hz, hz1, hz2⟩ := info_parts Tryz.infoInt'
  refine ob_app_ints (.const (.slice none 0 0)) (.tmp 38) (get_op (·.op) ho (by kernel_rfl)) Tryz.underlying22 hi hz hz1 hz2 _ w0.heap.size (.slice none 0 0) [] _ _ rfl (World.ownsRow_nil _ _ _ _) (eval_tmp h1) hi1 (by have := H.na; simp; omega) hb.size fun v' w' hv' hg => ?_
  exact hK _ _ (rk_of rfl (by simpa [SpecK.ok] using hv')) (.inl ((Below.refl _ _).grown hg (Nat.le_refl _) (fun k hk => by cases hk)))
theorem c7a_ob3 (H : c7aCtx w0 b t T va as_ vb bs zl) : c7aOb w0 b t va as_ vb bs zl Q 3 := by
  intro o ho a w hb hf hd K hK
  rw [if_pos (wanted_none _ (get_op (·.guard) ho (by kernel_rfl)))]
  exact ob_move (get_op (·.op) ho (by kernel_rfl)) (eval_tmp (hf.2.2 (9, _) (by simp [c7aFixed]))) (hK _ _ (rk_of rfl ⟨_, H.lb.below hb, rfl⟩) (.inl (Below.refl _ _)))
theorem c7a_ob4 (H : c7aCtx w0 b t T va as_ vb bs zl) : c7aOb w0 b t va as_ vb bs zl Q 4 := by
  intro o ho a w hb hf hd K hK
  rw [if_pos (wanted_none _ (get_op (·.guard) ho (by kernel_rfl)))]
  obtain ⟨v3, h3, e3⟩ := dep_k (F := 24) ho hd 3 40 (.low (· = bs)) (by kernel_rfl) (by kernel_rfl) rfl (by kernel_rfl)
  obtain ⟨_, hi1, rfl⟩ := e3
  obtain ⟨i0, hi, hz, hz1, hz2⟩ := info_parts Tryz.infoInt'
  obtain ⟨v2, h2, e2⟩ := dep_k (F := 24) ho hd 2 39 (.own as_) (by kernel_rfl) (by kernel_rfl) rfl (by kernel_rfl)
  refine ob_app_ints (.tmp 39) (.tmp 40) (get_op (·.op) ho (by kernel_rfl)) Tryz.underlying22 hi hz hz1 hz2 _ w0.heap.size v2 _ _ _ (eval_tmp h2) e2 (eval_tmp h3) hi1 (by have := H.na; have := H.nb; omega) hb.size fun v' w' hv' hg => ?_
  exact hK _ _ (rk_of rfl hv') (.inr ⟨rfl, (Below.refl _ _).grown hg hb.size (fun k hk => (e2.lt k hk).1)⟩)
theorem c7a_ob5 (H : c7aCtx w0 b t T va as_ vb bs zl) : c7aOb w0 b t va as_ vb bs zl Q 5 := by
  intro o ho a w hb hf hd K hK
  rw [if_pos (wanted_none _ (get_op (·.guard) ho (by kernel_rfl)))]
  obtain ⟨v0, h0, e0⟩ := dep_k (F := 24) ho hd 0 37 (.val t.val) (by kernel_rfl) (by kernel_rfl) rfl (by kernel_rfl)
  obtain rfl : _ = v0 := Eq.symm e0
  obtain ⟨v4, h4, e4⟩ := dep_k (F := 24) ho hd 4 41 (.own (as_ ++ bs)) (by kernel_rfl) (by kernel_rfl) rfl (by kernel_rfl)
  refine ob_enter (enter2 (tys := #[26, 22]) (x := .tmp 37) (y := .tmp 41) (get_op (·.op) ho (by kernel_rfl)) (eval_tmp h0) (eval_tmp h4) (fun args w => enters_of Tryz.func10 (by kernel_rfl) rfl args w)) (nfd7_eq t T _ _ w (zl, 0) (H.tb.later hb).2 (H.g.later hb) (Ints.of_own e4) H.hz) fun e w' ⟨u, he, h2, h1⟩ => ⟨_, he, ?_⟩
  exact hK _ _ (rk_of rfl ⟨u, _, rfl, Ints.of_own h2, rfl⟩) (.inl h1)
theorem c7a_ob6 : c7aOb w0 b t va as_ vb bs zl Q 6 := by
  intro o ho a w hb hf hd K hK
  rw [if_pos (wanted_none _ (get_op (·.guard) ho (by kernel_rfl)))]
  obtain ⟨v5, h5, e5⟩ := dep_k (F := 24) ho hd 5 42 (.two 0 (· = zl)) (by kernel_rfl) (by kernel_rfl) rfl (by kernel_rfl)
  exact ob_move (get_op (·.op) ho (by kernel_rfl)) (eval_tmp h5) (hK _ _ (rk_of rfl e5) (.inl (Below.refl _ _)))
theorem c7a_ob7 : c7aOb w0 b t va as_ vb bs zl Q 7 := by
  intro o ho a w hb hf hd K hK
  rw [if_pos (wanted_none _ (get_op (·.guard) ho (by kernel_rfl)))]
  obtain ⟨v6, h6, e6⟩ := dep_k (F := 24) ho hd 6 36 (.two 0 (· = zl)) (by kernel_rfl) (by kernel_rfl) rfl (by kernel_rfl)
  obtain ⟨u, ys, rfl, hi1, hp⟩ := e6
  exact ob_extract (k := 0) (get_op (·.op) ho (by kernel_rfl)) (eval_tmp h6) rfl (hK _ _ (rk_of rfl ⟨ys, hi1, hp⟩) (.inl (Below.refl _ _)))
theorem c7a_ob8 : c7aOb w0 b t va as_ vb bs zl Q 8 := by
  intro o ho a w hb hf hd K hK
  rw [if_pos (wanted_none _ (get_op (·.guard) ho (by kernel_rfl)))]
  obtain ⟨v6, h6, e6⟩ := dep_k (F := 24) ho hd 6 36 (.two 0 (· = zl)) (by kernel_rfl) (by kernel_rfl) rfl (by kernel_rfl)
  obtain ⟨u, ys, rfl, hi1, hp⟩ := e6
  exact ob_extract (k := 1) (get_op (·.op) ho (by kernel_rfl)) (eval_tmp h6) rfl (hK _ _ (rk_of rfl rfl) (.inl (Below.refl _ _)))
theorem c7a_ob9 : c7aOb w0 b t va as_ vb bs zl Q 9 := by
  intro o ho a w hb hf hd K hK
  rw [if_pos (wanted_none _ (get_op (·.guard) ho (by kernel_rfl)))]
  obtain ⟨v7, h7, e7⟩ := dep_k (F := 24) ho hd 7 43 (.lst (· = zl)) (by kernel_rfl) (by kernel_rfl) rfl (by kernel_rfl)
  exact ob_assign (get_op (·.op) ho (by kernel_rfl)) (eval_tmp h7) (hK _ _ (rk_of rfl e7) (.inl (Below.refl _ _)))
theorem c7a_ob10 : c7aOb w0 b t va as_ vb bs zl Q 10 := by
  intro o ho a w hb hf hd K hK
  rw [if_pos (wanted_none _ (get_op (·.guard) ho (by kernel_rfl)))]
  obtain ⟨v8, h8, e8⟩ := dep_k (F := 24) ho hd 8 44 (.val (.int .i64 0)) (by kernel_rfl) (by kernel_rfl) rfl (by kernel_rfl)
  obtain rfl : _ = v8 := Eq.symm e8
  exact ob_assign (get_op (·.op) ho (by kernel_rfl)) (eval_tmp h8) (hK _ _ (rk_of rfl rfl) (.inl (Below.refl _ _)))
theorem c7a_obs (H : c7aCtx w0 b t T va as_ vb bs zl) (k : Nat) (hk : k < 11) : c7aOb w0 b t va as_ vb bs zl Q k := by
  match k, hk with
  | 0, _ => exact c7a_ob0 H
  | 1, _ => exact c7a_ob1 H
  | 2, _ => exact c7a_ob2 H
  | 3, _ => exact c7a_ob3 H
  | 4, _ => exact c7a_ob4 H
  | 5, _ => exact c7a_ob5 H
  | 6, _ => exact c7a_ob6
  | 7, _ => exact c7a_ob7
  | 8, _ => exact c7a_ob8
  | 9, _ => exact c7a_ob9
  | 10, _ => exact c7a_ob10
  | m + 11, h => exact absurd h (by omega)
theorem c7a_region {a : Act} (H : c7aCtx w0 b t T va as_ vb bs zl) (hf : FS 76 [] (c7aFixed b va vb) a)
    (hend : ∀ a w, Below w0.heap.size w0 w → FS 76 [] (c7aFixed b va vb) a → (∀ (i : Nat) (o : Oper) (d : Tmp), (opsAt Tryz.f3 5)[i]? = some o → (∀ j, killK (c7aSpecs t as_ bs zl) [4] i j = false) → o.dst = some d → ∃ v, a.tmps[d]? = some v ∧ RK w0.heap.size (c7aSpecs t as_ bs zl) i v w) → Q .normal a w) : (Code.region 5 (opsAt Tryz.f3 5) true).wp Tryz.prog Q a w0 := by
  refine wp_region_k 24 (n := 76) (ds := []) (fixed := c7aFixed b va vb) (specs := c7aSpecs t as_ bs zl) (apps := [4]) (by kernel_rfl) (by kernel_rfl) (by kernel_rfl) (by kernel_rfl) hf (fun i hi => c7a_obs H i ?_) hend
  have hn : (opsAt Tryz.f3 5).size = 11 := by kernel_rfl
  omega
theorem c7a_region2 {a : Act} (H : c7aCtx w0 b t T va as_ vb bs zl) (hf : FS 76 [] (c7aFixed b va vb) a)
    (hend : ∀ a' w, Below w0.heap.size w0 w → FS 76 [] (c7aFixed b va vb) a' → (∀ i, i < 76 → freeOf (opsAt Tryz.f3 5) i = true → a'.tmps[i]? = a.tmps[i]?) → (∀ (i : Nat) (o : Oper) (d : Tmp), (opsAt Tryz.f3 5)[i]? = some o → (∀ j, killK (c7aSpecs t as_ bs zl) [4] i j = false) → o.dst = some d → ∃ v, a'.tmps[d]? = some v ∧ RK w0.heap.size (c7aSpecs t as_ bs zl) i v w) → Q .normal a' w) : (Code.region 5 (opsAt Tryz.f3 5) true).wp Tryz.prog Q a w0 := by
  refine wp_region_k2 24 (n := 76) (ds := []) (fixed := c7aFixed b va vb) (specs := c7aSpecs t as_ bs zl) (apps := [4]) (by kernel_rfl) (by kernel_rfl) (by kernel_rfl) (by kernel_rfl) hf (fun i hi => c7a_obs H i ?_) hend
  have hn : (opsAt Tryz.f3 5).size = 11 := by kernel_rfl
  omega
end

/-- What holds ahead of region 6. -/
structure c7bCtx (w0 : World) (b : Nat) (t : Tv) (T : Tab) (va : Value) (as_ : List Int) (vb : Value) (bs : List Int) (zl : List Int) : Prop where
  tb : Tbl w0 b t T
  g : Glob w0
  la : Ints w0 w0.heap.size .i64 va as_
  lb : Ints w0 w0.heap.size .i64 vb bs
  na : as_.length ≤ 2000
  nb : bs.length ≤ 2000
  hz : accE T (as_ ++ bs) = 0 ∧ ordL T (as_ ++ bs) = zl
def c7bSpecs (t : Tv) (as_ : List Int) (bs : List Int) (zl : List Int) : List SpecK := [.val t.val, .low (· = as_), .own as_, .low (· = bs), .own (as_ ++ bs), .two 0 (· = zl), .two 0 (· = zl), .lst (· = zl), .val (.int .i64 0), .lst (· = zl), .val (.int .i64 0)]
def c7bFixed (b : Nat) (va : Value) (vb : Value) : List (Tmp × Value) := [(7, .pointer (some ⟨b, 0, none⟩)), (10, va), (12, vb)]
def c7bOb (w0 : World) (b : Nat) (t : Tv) (va : Value) (as_ : List Int) (vb : Value) (bs : List Int) (zl : List Int) (Q : Exit → Act → World → Prop) (k : Nat) : Prop := ObR 24 Tryz.prog (opsAt Tryz.f3 6) 76 [] (c7bFixed b va vb) w0 (c7bSpecs t as_ bs zl) [4] Q k
section
variable {w0 : World} {b : Nat} {t : Tv} {T : Tab} {va : Value} {as_ : List Int} {vb : Value} {bs : List Int} {zl : List Int} {Q : Exit → Act → World → Prop}
theorem c7b_ob0 (H : c7bCtx w0 b t T va as_ vb bs zl) : c7bOb w0 b t va as_ vb bs zl Q 0 := by
  intro o ho a w hb hf hd K hK
  rw [if_pos (wanted_none _ (get_op (·.guard) ho (by kernel_rfl)))]
  exact ob_value (load_tab (H.tb.later hb) (get_op (·.op) ho (by kernel_rfl)) (eval_tmp (hf.2.2 (7, _) (by simp [c7bFixed])))) (hK _ _ (rk_of rfl rfl) (.inl (Below.refl _ _)))
theorem c7b_ob1 (H : c7bCtx w0 b t T va as_ vb bs zl) : c7bOb w0 b t va as_ vb bs zl Q 1 := by
  intro o ho a w hb hf hd K hK
  rw [if_pos (wanted_none _ (get_op (·.guard) ho (by kernel_rfl)))]
  exact ob_move (get_op (·.op) ho (by kernel_rfl)) (eval_tmp (hf.2.2 (10, _) (by simp [c7bFixed]))) (hK _ _ (rk_of rfl ⟨_, H.la.below hb, rfl⟩) (.inl (Below.refl _ _)))
theorem c7b_ob2 (H : c7bCtx w0 b t T va as_ vb bs zl) : c7bOb w0 b t va as_ vb bs zl Q 2 := by
  intro o ho a w hb hf hd K hK
  rw [if_pos (wanted_none _ (get_op (·.guard) ho (by kernel_rfl)))]
  obtain ⟨v1, h1, e1⟩ := dep_k (F := 24) ho hd 1 47 (.low (· = as_)) (by kernel_rfl) (by kernel_rfl) rfl (by kernel_rfl)
  obtain ⟨_, hi1, rfl⟩ := e1
  obtain ⟨i0, hi, hz, hz1, hz2⟩ := info_parts Tryz.infoInt'
  refine ob_app_ints (.const (.slice none 0 0)) (.tmp 47) (get_op (·.op) ho (by kernel_rfl)) Tryz.underlying22 hi hz hz1 hz2 _ w0.heap.size (.slice none 0 0) [] _ _ rfl (World.ownsRow_nil _ _ _ _) (eval_tmp h1) hi1 (by have := H.na; simp; omega) hb.size fun v' w' hv' hg => ?_
  exact hK _ _ (rk_of rfl (by simpa [SpecK.ok] using hv')) (.inl ((Below.refl _ _).grown hg (Nat.le_refl _) (fun k hk => by cases hk)))
theorem c7b_ob3 (H : c7bCtx w0 b t T va as_ vb bs zl) : c7bOb w0 b t va as_ vb bs zl Q 3 := by
  intro o ho a w hb hf hd K hK
  rw [if_pos (wanted_none _ (get_op (·.guard) ho (by kernel_rfl)))]
  exact ob_move (get_op (·.op) ho (by kernel_rfl)) (eval_tmp (hf.2.2 (12, _) (by simp [c7bFixed]))) (hK _ _ (rk_of rfl ⟨_, H.lb.below hb, rfl⟩) (.inl (Below.refl _ _)))
theorem c7b_ob4 (H : c7bCtx w0 b t T va as_ vb bs zl) : c7bOb w0 b t va as_ vb bs zl Q 4 := by
  intro o ho a w hb hf hd K hK
  rw [if_pos (wanted_none _ (get_op (·.guard) ho (by kernel_rfl)))]
  obtain ⟨v3, h3, e3⟩ := dep_k (F := 24) ho hd 3 49 (.low (· = bs)) (by kernel_rfl) (by kernel_rfl) rfl (by kernel_rfl)
  obtain ⟨_, hi1, rfl⟩ := e3
  obtain ⟨i0, hi, hz, hz1, hz2⟩ := info_parts Tryz.infoInt'
  obtain ⟨v2, h2, e2⟩ := dep_k (F := 24) ho hd 2 48 (.own as_) (by kernel_rfl) (by kernel_rfl) rfl (by kernel_rfl)
  refine ob_app_ints (.tmp 48) (.tmp 49) (get_op (·.op) ho (by kernel_rfl)) Tryz.underlying22 hi hz hz1 hz2 _ w0.heap.size v2 _ _ _ (eval_tmp h2) e2 (eval_tmp h3) hi1 (by have := H.na; have := H.nb; omega) hb.size fun v' w' hv' hg => ?_
  exact hK _ _ (rk_of rfl hv') (.inr ⟨rfl, (Below.refl _ _).grown hg hb.size (fun k hk => (e2.lt k hk).1)⟩)
theorem c7b_ob5 (H : c7bCtx w0 b t T va as_ vb bs zl) : c7bOb w0 b t va as_ vb bs zl Q 5 := by
  intro o ho a w hb hf hd K hK
  rw [if_pos (wanted_none _ (get_op (·.guard) ho (by kernel_rfl)))]
  obtain ⟨v0, h0, e0⟩ := dep_k (F := 24) ho hd 0 46 (.val t.val) (by kernel_rfl) (by kernel_rfl) rfl (by kernel_rfl)
  obtain rfl : _ = v0 := Eq.symm e0
  obtain ⟨v4, h4, e4⟩ := dep_k (F := 24) ho hd 4 50 (.own (as_ ++ bs)) (by kernel_rfl) (by kernel_rfl) rfl (by kernel_rfl)
  refine ob_enter (enter2 (tys := #[26, 22]) (x := .tmp 46) (y := .tmp 50) (get_op (·.op) ho (by kernel_rfl)) (eval_tmp h0) (eval_tmp h4) (fun args w => enters_of Tryz.func11 (by kernel_rfl) rfl args w)) (ord7_eq t T _ _ w zl (H.tb.later hb).2 (Ints.of_own e4) H.hz.1 H.hz.2) fun e w' ⟨u, he, h2, h1⟩ => ⟨_, he, ?_⟩
  exact hK _ _ (rk_of rfl ⟨u, _, rfl, Ints.of_own h2, rfl⟩) (.inl h1)
theorem c7b_ob6 : c7bOb w0 b t va as_ vb bs zl Q 6 := by
  intro o ho a w hb hf hd K hK
  rw [if_pos (wanted_none _ (get_op (·.guard) ho (by kernel_rfl)))]
  obtain ⟨v5, h5, e5⟩ := dep_k (F := 24) ho hd 5 51 (.two 0 (· = zl)) (by kernel_rfl) (by kernel_rfl) rfl (by kernel_rfl)
  exact ob_move (get_op (·.op) ho (by kernel_rfl)) (eval_tmp h5) (hK _ _ (rk_of rfl e5) (.inl (Below.refl _ _)))
theorem c7b_ob7 : c7bOb w0 b t va as_ vb bs zl Q 7 := by
  intro o ho a w hb hf hd K hK
  rw [if_pos (wanted_none _ (get_op (·.guard) ho (by kernel_rfl)))]
  obtain ⟨v6, h6, e6⟩ := dep_k (F := 24) ho hd 6 45 (.two 0 (· = zl)) (by kernel_rfl) (by kernel_rfl) rfl (by kernel_rfl)
  obtain ⟨u, ys, rfl, hi1, hp⟩ := e6
  exact ob_extract (k := 0) (get_op (·.op) ho (by kernel_rfl)) (eval_tmp h6) rfl (hK _ _ (rk_of rfl ⟨ys, hi1, hp⟩) (.inl (Below.refl _ _)))
theorem c7b_ob8 : c7bOb w0 b t va as_ vb bs zl Q 8 := by
  intro o ho a w hb hf hd K hK
  rw [if_pos (wanted_none _ (get_op (·.guard) ho (by kernel_rfl)))]
  obtain ⟨v6, h6, e6⟩ := dep_k (F := 24) ho hd 6 45 (.two 0 (· = zl)) (by kernel_rfl) (by kernel_rfl) rfl (by kernel_rfl)
  obtain ⟨u, ys, rfl, hi1, hp⟩ := e6
  exact ob_extract (k := 1) (get_op (·.op) ho (by kernel_rfl)) (eval_tmp h6) rfl (hK _ _ (rk_of rfl rfl) (.inl (Below.refl _ _)))
theorem c7b_ob9 : c7bOb w0 b t va as_ vb bs zl Q 9 := by
  intro o ho a w hb hf hd K hK
  rw [if_pos (wanted_none _ (get_op (·.guard) ho (by kernel_rfl)))]
  obtain ⟨v7, h7, e7⟩ := dep_k (F := 24) ho hd 7 52 (.lst (· = zl)) (by kernel_rfl) (by kernel_rfl) rfl (by kernel_rfl)
  exact ob_assign (get_op (·.op) ho (by kernel_rfl)) (eval_tmp h7) (hK _ _ (rk_of rfl e7) (.inl (Below.refl _ _)))
theorem c7b_ob10 : c7bOb w0 b t va as_ vb bs zl Q 10 := by
  intro o ho a w hb hf hd K hK
  rw [if_pos (wanted_none _ (get_op (·.guard) ho (by kernel_rfl)))]
  obtain ⟨v8, h8, e8⟩ := dep_k (F := 24) ho hd 8 53 (.val (.int .i64 0)) (by kernel_rfl) (by kernel_rfl) rfl (by kernel_rfl)
  obtain rfl : _ = v8 := Eq.symm e8
  exact ob_assign (get_op (·.op) ho (by kernel_rfl)) (eval_tmp h8) (hK _ _ (rk_of rfl rfl) (.inl (Below.refl _ _)))
theorem c7b_obs (H : c7bCtx w0 b t T va as_ vb bs zl) (k : Nat) (hk : k < 11) : c7bOb w0 b t va as_ vb bs zl Q k := by
  match k, hk with
  | 0, _ => exact c7b_ob0 H
  | 1, _ => exact c7b_ob1 H
  | 2, _ => exact c7b_ob2 H
  | 3, _ => exact c7b_ob3 H
  | 4, _ => exact c7b_ob4 H
  | 5, _ => exact c7b_ob5 H
  | 6, _ => exact c7b_ob6
  | 7, _ => exact c7b_ob7
  | 8, _ => exact c7b_ob8
  | 9, _ => exact c7b_ob9
  | 10, _ => exact c7b_ob10
  | m + 11, h => exact absurd h (by omega)
theorem c7b_region {a : Act} (H : c7bCtx w0 b t T va as_ vb bs zl) (hf : FS 76 [] (c7bFixed b va vb) a)
    (hend : ∀ a w, Below w0.heap.size w0 w → FS 76 [] (c7bFixed b va vb) a → (∀ (i : Nat) (o : Oper) (d : Tmp), (opsAt Tryz.f3 6)[i]? = some o → (∀ j, killK (c7bSpecs t as_ bs zl) [4] i j = false) → o.dst = some d → ∃ v, a.tmps[d]? = some v ∧ RK w0.heap.size (c7bSpecs t as_ bs zl) i v w) → Q .normal a w) : (Code.region 6 (opsAt Tryz.f3 6) true).wp Tryz.prog Q a w0 := by
  refine wp_region_k 24 (n := 76) (ds := []) (fixed := c7bFixed b va vb) (specs := c7bSpecs t as_ bs zl) (apps := [4]) (by kernel_rfl) (by kernel_rfl) (by kernel_rfl) (by kernel_rfl) hf (fun i hi => c7b_obs H i ?_) hend
  have hn : (opsAt Tryz.f3 6).size = 11 := by kernel_rfl
  omega
theorem c7b_region2 {a : Act} (H : c7bCtx w0 b t T va as_ vb bs zl) (hf : FS 76 [] (c7bFixed b va vb) a)
    (hend : ∀ a' w, Below w0.heap.size w0 w → FS 76 [] (c7bFixed b va vb) a' → (∀ i, i < 76 → freeOf (opsAt Tryz.f3 6) i = true → a'.tmps[i]? = a.tmps[i]?) → (∀ (i : Nat) (o : Oper) (d : Tmp), (opsAt Tryz.f3 6)[i]? = some o → (∀ j, killK (c7bSpecs t as_ bs zl) [4] i j = false) → o.dst = some d → ∃ v, a'.tmps[d]? = some v ∧ RK w0.heap.size (c7bSpecs t as_ bs zl) i v w) → Q .normal a' w) : (Code.region 6 (opsAt Tryz.f3 6) true).wp Tryz.prog Q a w0 := by
  refine wp_region_k2 24 (n := 76) (ds := []) (fixed := c7bFixed b va vb) (specs := c7bSpecs t as_ bs zl) (apps := [4]) (by kernel_rfl) (by kernel_rfl) (by kernel_rfl) (by kernel_rfl) hf (fun i hi => c7b_obs H i ?_) hend
  have hn : (opsAt Tryz.f3 6).size = 11 := by kernel_rfl
  omega
end

set_option maxRecDepth 100000 in
set_option maxHeartbeats 4000000 in
theorem DecomposeConcatenation_go (W : World) (hg : Glob W) (v : Value) (xs : List Int) (hv : Ints W W.heap.size .i64 v xs) (vm : Value) (ms : List Int) (hvm : Ints W W.heap.size .i64 vm ms) (vo : Value) (os_ : List Int) (hvo : Ints W W.heap.size .i64 vo os_) :
    Calls Tryz.prog 3 #[v, vm, vo] W fun e W' => e = .returned (.bool true) ∧ Below W.heap.size W W' := by
  have HG := Lib.hid hg
  have HM := Lib.hid hvm
  have HO := Lib.hid hvo
  obtain ⟨Ax, cx, rfl, _⟩ := id hv
  obtain ⟨Am, cm, rfl, _⟩ := id hvm
  obtain ⟨Ao, co, rfl, _⟩ := id hvo
  have HT := Lib.hid (keepTables_any W _ xs hv)
  clear hv hg hvm hvo
  go_enter Tryz.func3, Tryz.ntmps3
  go_upto_region 2 with (go_at_call 8; refine HT.out.mono ?_; rintro e w1 ⟨t, T, rfl, ht1, hm1, hb1⟩; obtain ⟨A0, A1, A2, A3, A4, A5, A6, A7, A8, A9, A10, A11, k0, k1, k2, k3, k4, k5, k6, k7, k8, k9, k10, k11, rfl⟩ := ht1.shape; have HT1 := Lib.hid ht1; have HB1 := Lib.hid hb1; have HM1 := Lib.hid hm1; clear ht1 hb1 hm1)
  obtain ⟨t, ht, htb⟩ := Tbl.new HT1.out
  have HT2 := Lib.hid htb
  have HB2 := Lib.hid (HB1.out.alloc HB1.out.size (.cells #[.slice A0 T.category.length k0, .slice A1 T.cls.length k1, .slice A2 T.joining.length k2, .slice A3 T.bidi.length k3, .slice A4 T.script.length k4, .slice A5 T.status.length k5, .slice A6 T.ignorable.length k6, .slice A7 T.extensions.length k7, .slice A8 T.maps.length k8, .slice A9 T.decomps.length k9, .slice A10 T.excluded.length k10, .slice A11 T.prototypes.length k11] 26))
  clear htb HT1 HT
  generalize w1.alloc (.cells #[.slice A0 T.category.length k0, .slice A1 T.cls.length k1, .slice A2 T.joining.length k2, .slice A3 T.bidi.length k3, .slice A4 T.script.length k4, .slice A5 T.status.length k5, .slice A6 T.ignorable.length k6, .slice A7 T.extensions.length k7, .slice A8 T.maps.length k8, .slice A9 T.decomps.length k9, .slice A10 T.excluded.length k10, .slice A11 T.prototypes.length k11] 26) = w2 at *
  generalize w1.heap.size = tb at *
  clear ht
  have hck := HM1.out.check
  have HG2 := Lib.hid (HG.out.later HB2.out)
  have HM2 := Lib.hid (HM.out.later HB2.out)
  have HO2 := Lib.hid (HO.out.later HB2.out)
  clear HG HM HO HM1
  go_upto_region 3 with (first
    | (go_at_call 9; refine (points_any _ (.slice Am ms.length cm) ms HM2.out).mono ?_; rintro e w3 ⟨u3, as_, rfl, hi3, hal, has, b3⟩; obtain ⟨A3, c3, rfl, _⟩ := id hi3; have HA3 := Lib.hid hi3; have HAS := Lib.hid (List.all_eq_true.2 has); have B3 := Lib.hid b3; clear hi3 b3 HM2 has)
    | (go_at_call 9; refine (points_any _ (.slice Ao os_.length co) os_ (HO2.out.later B3.out)).mono ?_; rintro e w4 ⟨u4, bs, rfl, hi4, hbl, hbs, b4⟩; obtain ⟨A4, c4, rfl, _⟩ := id hi4; have HB4 := Lib.hid hi4; have HBS := Lib.hid (List.all_eq_true.2 hbs); have HA4 := Lib.hid (HA3.out.later b4); have B4 := Lib.hid (below_next B3.out b4); clear hi4 b4 hbs HA3))
  have H1 := Lib.hid (fun W (h : Below w2.heap.size w2 W) hi => nfd7_eq t T (.slice A3 as_.length c3) as_ W _ (HT2.out.later h).2 (HG2.out.later h) hi (nfd_short hck HAS.out (by omega)))
  have H2 := Lib.hid (fun W (h : Below w2.heap.size w2 W) hi => nfd7_eq t T (.slice A4 bs.length c4) bs W _ (HT2.out.later h).2 (HG2.out.later h) hi (nfd_short hck HBS.out (by omega)))
  have l1 := nfd_len hck as_
  have l2 := nfd_len hck bs
  obtain ⟨zl, hzl⟩ : ∃ zl, nfdL T (as_ ++ bs) = zl := ⟨_, rfl⟩
  have HZ1 : Hid (nfdR T (accE T (as_ ++ bs)) (as_ ++ bs) = (zl, 0)) := Lib.hid (by rw [nfd_short hck (by rw [List.all_append, HAS.out, HBS.out]; rfl) (by simp; omega), hzl])
  have HZ2 : Hid (accE T (nfdL T as_ ++ nfdL T bs) = 0 ∧ ordL T (nfdL T as_ ++ nfdL T bs) = zl) := Lib.hid (by
    have h0 : accE T (nfdL T as_ ++ nfdL T bs) = 0 := accE_ok hck (by simp; omega) (by rw [List.all_append, nfdL_scal (decOk_of hck) HAS.out, nfdL_scal (decOk_of hck) HBS.out]; rfl)
    refine ⟨h0, ?_⟩
    rw [ordL_ok h0, ← hzl, nfdL_app])
  clear hzl hck HAS HBS
  generalize nfdL T as_ = al at *
  generalize nfdL T bs = bl at *
  obtain ⟨x0, x1, x2, x3, x4, x5, x6, x7, x8, x9, x10, x11⟩ := (HT2.out.later B4.out).1.tab
  go_upto_region 4 with (go_at_call 10; refine (H1.out _ B4.out HA4.out).mono ?_; rintro e w5 ⟨u5, rfl, ho5, b5⟩; obtain ⟨A5, c5, rfl, _⟩ := id (Ints.of_own ho5); have HX5 := Lib.hid (Ints.of_own ho5); have B5 := Lib.hid (below_next B4.out b5); have HB5 := Lib.hid (HB4.out.later b5); have HA5 := Lib.hid (HA4.out.later b5); clear ho5 b5 HB4 HA4 H1)
  clear x0 x1 x2 x3 x4 x5 x6 x7 x8 x9 x10 x11
  obtain ⟨x0, x1, x2, x3, x4, x5, x6, x7, x8, x9, x10, x11⟩ := (HT2.out.later B5.out).1.tab
  go_upto_region 5 with (go_at_call 10; refine (H2.out _ B5.out HB5.out).mono ?_; rintro e w6 ⟨u6, rfl, ho6, b6⟩; obtain ⟨A6, c6, rfl, _⟩ := id (Ints.of_own ho6); have HY6 := Lib.hid (Ints.of_own ho6); have B6 := Lib.hid (below_next B5.out b6); have HB6 := Lib.hid (HB5.out.later b6); have HA6 := Lib.hid (HA5.out.later b6); have HX6 := Lib.hid (HX5.out.later b6); clear ho6 b6 H2 HB5 HA5 HX5)
  rename_i K hK
  clear x0 x1 x2 x3 x4 x5 x6 x7 x8 x9 x10 x11
  refine wp_region_as (ops := (opsAt Tryz.f3 5)) (by kernel_rfl) ?_
  refine c7a_region2 (b := tb) (t := t) (T := T) (va := .slice A3 as_.length c3) (as_ := as_) (vb := .slice A4 bs.length c4) (bs := bs) (zl := zl) ⟨HT2.out.later B6.out, HG2.out.later B6.out, HA6.out, HB6.out, by omega, by omega, HZ1.out⟩ ⟨rfl, rfl, by intro p hp; simp [c7aFixed] at hp; rcases hp with rfl | rfl | rfl <;> rfl⟩ ?_
  intro a w7 hb hf ho hr
  obtain ⟨v14, h14, zs, hi14, hz14⟩ := end_k hr 9 14 (.lst (· = zl)) (by kernel_rfl) rfl (by kernel_rfl)
  obtain rfl : _ = zs := Eq.symm hz14
  obtain ⟨v15, h15, e15⟩ := end_k hr 10 15 (.val (.int .i64 0)) (by kernel_rfl) rfl (by kernel_rfl)
  obtain rfl : _ = v15 := Eq.symm e15
  obtain ⟨A7, c7, rfl, _⟩ := id hi14
  have HI7 := Lib.hid hi14
  have B7 := Lib.hid (below_next B6.out hb)
  have HX7 := Lib.hid (HX6.out.later hb)
  have HY7 := Lib.hid (HY6.out.later hb)
  have hs := hf.1
  have hd := hf.2.1
  refine hK a w7 ?_
  obtain ⟨fa, hfa, ha⟩ := act_fun hs hd
  have ea0 := (hfa 0 (by decide)).symm.trans (ho 0 (by decide) (by kernel_rfl))
  simp only [List.getElem?_toArray, List.getElem?_cons_zero, Option.some.injEq] at ea0
  have ea1 := (hfa 1 (by decide)).symm.trans (ho 1 (by decide) (by kernel_rfl))
  simp only [List.getElem?_toArray, List.getElem?_cons_zero, List.getElem?_cons_succ, Option.some.injEq] at ea1
  have ea2 := (hfa 2 (by decide)).symm.trans (ho 2 (by decide) (by kernel_rfl))
  simp only [List.getElem?_toArray, List.getElem?_cons_zero, List.getElem?_cons_succ, Option.some.injEq] at ea2
  have ea3 := (hfa 3 (by decide)).symm.trans (ho 3 (by decide) (by kernel_rfl))
  simp only [List.getElem?_toArray, List.getElem?_cons_zero, List.getElem?_cons_succ, Option.some.injEq] at ea3
  have ea4 := (hfa 4 (by decide)).symm.trans (ho 4 (by decide) (by kernel_rfl))
  simp only [List.getElem?_toArray, List.getElem?_cons_zero, List.getElem?_cons_succ, Option.some.injEq] at ea4
  have ea5 := (hfa 5 (by decide)).symm.trans (ho 5 (by decide) (by kernel_rfl))
  simp only [List.getElem?_toArray, List.getElem?_cons_zero, List.getElem?_cons_succ, Option.some.injEq] at ea5
  have ea6 := (hfa 6 (by decide)).symm.trans (ho 6 (by decide) (by kernel_rfl))
  simp only [List.getElem?_toArray, List.getElem?_cons_zero, List.getElem?_cons_succ, Option.some.injEq] at ea6
  have ea7 := (hfa 7 (by decide)).symm.trans (ho 7 (by decide) (by kernel_rfl))
  simp only [List.getElem?_toArray, List.getElem?_cons_zero, List.getElem?_cons_succ, Option.some.injEq] at ea7
  have ea8 := (hfa 8 (by decide)).symm.trans (ho 8 (by decide) (by kernel_rfl))
  simp only [List.getElem?_toArray, List.getElem?_cons_zero, List.getElem?_cons_succ, Option.some.injEq] at ea8
  have ea9 := (hfa 9 (by decide)).symm.trans (ho 9 (by decide) (by kernel_rfl))
  simp only [List.getElem?_toArray, List.getElem?_cons_zero, List.getElem?_cons_succ, Option.some.injEq] at ea9
  have ea10 := (hfa 10 (by decide)).symm.trans (ho 10 (by decide) (by kernel_rfl))
  simp only [List.getElem?_toArray, List.getElem?_cons_zero, List.getElem?_cons_succ, Option.some.injEq] at ea10
  have ea11 := (hfa 11 (by decide)).symm.trans (ho 11 (by decide) (by kernel_rfl))
  simp only [List.getElem?_toArray, List.getElem?_cons_zero, List.getElem?_cons_succ, Option.some.injEq] at ea11
  have ea12 := (hfa 12 (by decide)).symm.trans (ho 12 (by decide) (by kernel_rfl))
  simp only [List.getElem?_toArray, List.getElem?_cons_zero, List.getElem?_cons_succ, Option.some.injEq] at ea12
  have ea13 := (hfa 13 (by decide)).symm.trans (ho 13 (by decide) (by kernel_rfl))
  simp only [List.getElem?_toArray, List.getElem?_cons_zero, List.getElem?_cons_succ, Option.some.injEq] at ea13
  have ea16 := (hfa 16 (by decide)).symm.trans (ho 16 (by decide) (by kernel_rfl))
  simp only [List.getElem?_toArray, List.getElem?_cons_zero, List.getElem?_cons_succ, Option.some.injEq] at ea16
  have ea17 := (hfa 17 (by decide)).symm.trans (ho 17 (by decide) (by kernel_rfl))
  simp only [List.getElem?_toArray, List.getElem?_cons_zero, List.getElem?_cons_succ, Option.some.injEq] at ea17
  have ea18 := (hfa 18 (by decide)).symm.trans (ho 18 (by decide) (by kernel_rfl))
  simp only [List.getElem?_toArray, List.getElem?_cons_zero, List.getElem?_cons_succ, Option.some.injEq] at ea18
  have ea19 := (hfa 19 (by decide)).symm.trans (ho 19 (by decide) (by kernel_rfl))
  simp only [List.getElem?_toArray, List.getElem?_cons_zero, List.getElem?_cons_succ, Option.some.injEq] at ea19
  have ea20 := (hfa 20 (by decide)).symm.trans (ho 20 (by decide) (by kernel_rfl))
  simp only [List.getElem?_toArray, List.getElem?_cons_zero, List.getElem?_cons_succ, Option.some.injEq] at ea20
  have ea21 := (hfa 21 (by decide)).symm.trans (ho 21 (by decide) (by kernel_rfl))
  simp only [List.getElem?_toArray, List.getElem?_cons_zero, List.getElem?_cons_succ, Option.some.injEq] at ea21
  have ea22 := (hfa 22 (by decide)).symm.trans (ho 22 (by decide) (by kernel_rfl))
  simp only [List.getElem?_toArray, List.getElem?_cons_zero, List.getElem?_cons_succ, Option.some.injEq] at ea22
  have ea23 := (hfa 23 (by decide)).symm.trans (ho 23 (by decide) (by kernel_rfl))
  simp only [List.getElem?_toArray, List.getElem?_cons_zero, List.getElem?_cons_succ, Option.some.injEq] at ea23
  have ea24 := (hfa 24 (by decide)).symm.trans (ho 24 (by decide) (by kernel_rfl))
  simp only [List.getElem?_toArray, List.getElem?_cons_zero, List.getElem?_cons_succ, Option.some.injEq] at ea24
  have ea25 := (hfa 25 (by decide)).symm.trans (ho 25 (by decide) (by kernel_rfl))
  simp only [List.getElem?_toArray, List.getElem?_cons_zero, List.getElem?_cons_succ, Option.some.injEq] at ea25
  have ea26 := (hfa 26 (by decide)).symm.trans (ho 26 (by decide) (by kernel_rfl))
  simp only [List.getElem?_toArray, List.getElem?_cons_zero, List.getElem?_cons_succ, Option.some.injEq] at ea26
  have ea27 := (hfa 27 (by decide)).symm.trans (ho 27 (by decide) (by kernel_rfl))
  simp only [List.getElem?_toArray, List.getElem?_cons_zero, List.getElem?_cons_succ, Option.some.injEq] at ea27
  have ea28 := (hfa 28 (by decide)).symm.trans (ho 28 (by decide) (by kernel_rfl))
  simp only [List.getElem?_toArray, List.getElem?_cons_zero, List.getElem?_cons_succ, Option.some.injEq] at ea28
  have ea29 := (hfa 29 (by decide)).symm.trans (ho 29 (by decide) (by kernel_rfl))
  simp only [List.getElem?_toArray, List.getElem?_cons_zero, List.getElem?_cons_succ, Option.some.injEq] at ea29
  have ea30 := (hfa 30 (by decide)).symm.trans (ho 30 (by decide) (by kernel_rfl))
  simp only [List.getElem?_toArray, List.getElem?_cons_zero, List.getElem?_cons_succ, Option.some.injEq] at ea30
  have ea31 := (hfa 31 (by decide)).symm.trans (ho 31 (by decide) (by kernel_rfl))
  simp only [List.getElem?_toArray, List.getElem?_cons_zero, List.getElem?_cons_succ, Option.some.injEq] at ea31
  have ea32 := (hfa 32 (by decide)).symm.trans (ho 32 (by decide) (by kernel_rfl))
  simp only [List.getElem?_toArray, List.getElem?_cons_zero, List.getElem?_cons_succ, Option.some.injEq] at ea32
  have ea33 := (hfa 33 (by decide)).symm.trans (ho 33 (by decide) (by kernel_rfl))
  simp only [List.getElem?_toArray, List.getElem?_cons_zero, List.getElem?_cons_succ, Option.some.injEq] at ea33
  have ea34 := (hfa 34 (by decide)).symm.trans (ho 34 (by decide) (by kernel_rfl))
  simp only [List.getElem?_toArray, List.getElem?_cons_zero, List.getElem?_cons_succ, Option.some.injEq] at ea34
  have ea35 := (hfa 35 (by decide)).symm.trans (ho 35 (by decide) (by kernel_rfl))
  simp only [List.getElem?_toArray, List.getElem?_cons_zero, List.getElem?_cons_succ, Option.some.injEq] at ea35
  have ea45 := (hfa 45 (by decide)).symm.trans (ho 45 (by decide) (by kernel_rfl))
  simp only [List.getElem?_toArray, List.getElem?_cons_zero, List.getElem?_cons_succ, Option.some.injEq] at ea45
  have ea46 := (hfa 46 (by decide)).symm.trans (ho 46 (by decide) (by kernel_rfl))
  simp only [List.getElem?_toArray, List.getElem?_cons_zero, List.getElem?_cons_succ, Option.some.injEq] at ea46
  have ea47 := (hfa 47 (by decide)).symm.trans (ho 47 (by decide) (by kernel_rfl))
  simp only [List.getElem?_toArray, List.getElem?_cons_zero, List.getElem?_cons_succ, Option.some.injEq] at ea47
  have ea48 := (hfa 48 (by decide)).symm.trans (ho 48 (by decide) (by kernel_rfl))
  simp only [List.getElem?_toArray, List.getElem?_cons_zero, List.getElem?_cons_succ, Option.some.injEq] at ea48
  have ea49 := (hfa 49 (by decide)).symm.trans (ho 49 (by decide) (by kernel_rfl))
  simp only [List.getElem?_toArray, List.getElem?_cons_zero, List.getElem?_cons_succ, Option.some.injEq] at ea49
  have ea50 := (hfa 50 (by decide)).symm.trans (ho 50 (by decide) (by kernel_rfl))
  simp only [List.getElem?_toArray, List.getElem?_cons_zero, List.getElem?_cons_succ, Option.some.injEq] at ea50
  have ea51 := (hfa 51 (by decide)).symm.trans (ho 51 (by decide) (by kernel_rfl))
  simp only [List.getElem?_toArray, List.getElem?_cons_zero, List.getElem?_cons_succ, Option.some.injEq] at ea51
  have ea52 := (hfa 52 (by decide)).symm.trans (ho 52 (by decide) (by kernel_rfl))
  simp only [List.getElem?_toArray, List.getElem?_cons_zero, List.getElem?_cons_succ, Option.some.injEq] at ea52
  have ea53 := (hfa 53 (by decide)).symm.trans (ho 53 (by decide) (by kernel_rfl))
  simp only [List.getElem?_toArray, List.getElem?_cons_zero, List.getElem?_cons_succ, Option.some.injEq] at ea53
  have ea54 := (hfa 54 (by decide)).symm.trans (ho 54 (by decide) (by kernel_rfl))
  simp only [List.getElem?_toArray, List.getElem?_cons_zero, List.getElem?_cons_succ, Option.some.injEq] at ea54
  have ea55 := (hfa 55 (by decide)).symm.trans (ho 55 (by decide) (by kernel_rfl))
  simp only [List.getElem?_toArray, List.getElem?_cons_zero, List.getElem?_cons_succ, Option.some.injEq] at ea55
  have ea56 := (hfa 56 (by decide)).symm.trans (ho 56 (by decide) (by kernel_rfl))
  simp only [List.getElem?_toArray, List.getElem?_cons_zero, List.getElem?_cons_succ, Option.some.injEq] at ea56
  have ea57 := (hfa 57 (by decide)).symm.trans (ho 57 (by decide) (by kernel_rfl))
  simp only [List.getElem?_toArray, List.getElem?_cons_zero, List.getElem?_cons_succ, Option.some.injEq] at ea57
  have ea58 := (hfa 58 (by decide)).symm.trans (ho 58 (by decide) (by kernel_rfl))
  simp only [List.getElem?_toArray, List.getElem?_cons_zero, List.getElem?_cons_succ, Option.some.injEq] at ea58
  have ea59 := (hfa 59 (by decide)).symm.trans (ho 59 (by decide) (by kernel_rfl))
  simp only [List.getElem?_toArray, List.getElem?_cons_zero, List.getElem?_cons_succ, Option.some.injEq] at ea59
  have ea60 := (hfa 60 (by decide)).symm.trans (ho 60 (by decide) (by kernel_rfl))
  simp only [List.getElem?_toArray, List.getElem?_cons_zero, List.getElem?_cons_succ, Option.some.injEq] at ea60
  have ea61 := (hfa 61 (by decide)).symm.trans (ho 61 (by decide) (by kernel_rfl))
  simp only [List.getElem?_toArray, List.getElem?_cons_zero, List.getElem?_cons_succ, Option.some.injEq] at ea61
  have ea62 := (hfa 62 (by decide)).symm.trans (ho 62 (by decide) (by kernel_rfl))
  simp only [List.getElem?_toArray, List.getElem?_cons_zero, List.getElem?_cons_succ, Option.some.injEq] at ea62
  have ea63 := (hfa 63 (by decide)).symm.trans (ho 63 (by decide) (by kernel_rfl))
  simp only [List.getElem?_toArray, List.getElem?_cons_zero, List.getElem?_cons_succ, Option.some.injEq] at ea63
  have ea64 := (hfa 64 (by decide)).symm.trans (ho 64 (by decide) (by kernel_rfl))
  simp only [List.getElem?_toArray, List.getElem?_cons_zero, List.getElem?_cons_succ, Option.some.injEq] at ea64
  have ea65 := (hfa 65 (by decide)).symm.trans (ho 65 (by decide) (by kernel_rfl))
  simp only [List.getElem?_toArray, List.getElem?_cons_zero, List.getElem?_cons_succ, Option.some.injEq] at ea65
  have ea66 := (hfa 66 (by decide)).symm.trans (ho 66 (by decide) (by kernel_rfl))
  simp only [List.getElem?_toArray, List.getElem?_cons_zero, List.getElem?_cons_succ, Option.some.injEq] at ea66
  have ea67 := (hfa 67 (by decide)).symm.trans (ho 67 (by decide) (by kernel_rfl))
  simp only [List.getElem?_toArray, List.getElem?_cons_zero, List.getElem?_cons_succ, Option.some.injEq] at ea67
  have ea68 := (hfa 68 (by decide)).symm.trans (ho 68 (by decide) (by kernel_rfl))
  simp only [List.getElem?_toArray, List.getElem?_cons_zero, List.getElem?_cons_succ, Option.some.injEq] at ea68
  have ea69 := (hfa 69 (by decide)).symm.trans (ho 69 (by decide) (by kernel_rfl))
  simp only [List.getElem?_toArray, List.getElem?_cons_zero, List.getElem?_cons_succ, Option.some.injEq] at ea69
  have ea70 := (hfa 70 (by decide)).symm.trans (ho 70 (by decide) (by kernel_rfl))
  simp only [List.getElem?_toArray, List.getElem?_cons_zero, List.getElem?_cons_succ, Option.some.injEq] at ea70
  have ea71 := (hfa 71 (by decide)).symm.trans (ho 71 (by decide) (by kernel_rfl))
  simp only [List.getElem?_toArray, List.getElem?_cons_zero, List.getElem?_cons_succ, Option.some.injEq] at ea71
  have ea72 := (hfa 72 (by decide)).symm.trans (ho 72 (by decide) (by kernel_rfl))
  simp only [List.getElem?_toArray, List.getElem?_cons_zero, List.getElem?_cons_succ, Option.some.injEq] at ea72
  have ea73 := (hfa 73 (by decide)).symm.trans (ho 73 (by decide) (by kernel_rfl))
  simp only [List.getElem?_toArray, List.getElem?_cons_zero, List.getElem?_cons_succ, Option.some.injEq] at ea73
  have ea74 := (hfa 74 (by decide)).symm.trans (ho 74 (by decide) (by kernel_rfl))
  simp only [List.getElem?_toArray, List.getElem?_cons_zero, List.getElem?_cons_succ, Option.some.injEq] at ea74
  have ea75 := (hfa 75 (by decide)).symm.trans (ho 75 (by decide) (by kernel_rfl))
  simp only [List.getElem?_toArray, List.getElem?_cons_zero, List.getElem?_cons_succ, Option.some.injEq] at ea75
  have ea14 : fa 14 = .slice A7 zl.length c7 := Option.some.inj ((hfa 14 (by decide)).symm.trans (h14))
  have ea15 : fa 15 = .int .i64 0 := Option.some.inj ((hfa 15 (by decide)).symm.trans (h15))
  have ha2 : a = ⟨#[fa 0, fa 1, fa 2, fa 3, fa 4, fa 5, fa 6, fa 7, fa 8, fa 9, fa 10, fa 11, fa 12, fa 13, fa 14, fa 15, fa 16, fa 17, fa 18, fa 19, fa 20, fa 21, fa 22, fa 23, fa 24, fa 25, fa 26, fa 27, fa 28, fa 29, fa 30, fa 31, fa 32, fa 33, fa 34, fa 35, fa 36, fa 37, fa 38, fa 39, fa 40, fa 41, fa 42, fa 43, fa 44, fa 45, fa 46, fa 47, fa 48, fa 49, fa 50, fa 51, fa 52, fa 53, fa 54, fa 55, fa 56, fa 57, fa 58, fa 59, fa 60, fa 61, fa 62, fa 63, fa 64, fa 65, fa 66, fa 67, fa 68, fa 69, fa 70, fa 71, fa 72, fa 73, fa 74, fa 75], []⟩ := ha.trans (by kernel_rfl)
  rw [ea0, ea1, ea2, ea3, ea4, ea5, ea6, ea7, ea8, ea9, ea10, ea11, ea12, ea13, ea14, ea15, ea16, ea17, ea18, ea19, ea20, ea21, ea22, ea23, ea24, ea25, ea26, ea27, ea28, ea29, ea30, ea31, ea32, ea33, ea34, ea35, ea45, ea46, ea47, ea48, ea49, ea50, ea51, ea52, ea53, ea54, ea55, ea56, ea57, ea58, ea59, ea60, ea61, ea62, ea63, ea64, ea65, ea66, ea67, ea68, ea69, ea70, ea71, ea72, ea73, ea74, ea75] at ha2
  clear ha hfa ho ea0 ea1 ea2 ea3 ea4 ea5 ea6 ea7 ea8 ea9 ea10 ea11 ea12 ea13 ea14 ea15 ea16 ea17 ea18 ea19 ea20 ea21 ea22 ea23 ea24 ea25 ea26 ea27 ea28 ea29 ea30 ea31 ea32 ea33 ea34 ea35 ea45 ea46 ea47 ea48 ea49 ea50 ea51 ea52 ea53 ea54 ea55 ea56 ea57 ea58 ea59 ea60 ea61 ea62 ea63 ea64 ea65 ea66 ea67 ea68 ea69 ea70 ea71 ea72 ea73 ea74 ea75
  subst ha2
  clear hf hr h14 h15 hs hd hi14 hK hb HX6 HY6 HB6 HA6
  go_upto_region 6 with fail
  rename_i K hK
  refine wp_region_as (ops := (opsAt Tryz.f3 6)) (by kernel_rfl) ?_
  refine c7b_region2 (b := tb) (t := t) (T := T) (va := .slice A5 al.length c5) (as_ := al) (vb := .slice A6 bl.length c6) (bs := bl) (zl := zl) ⟨HT2.out.later B7.out, HG2.out.later B7.out, HX7.out, HY7.out, by omega, by omega, HZ2.out⟩ ⟨rfl, rfl, by intro p hp; simp [c7bFixed] at hp; rcases hp with rfl | rfl | rfl <;> rfl⟩ ?_
  intro a w8 hb hf ho hr
  obtain ⟨v16, h16, zs, hi16, hz16⟩ := end_k hr 9 16 (.lst (· = zl)) (by kernel_rfl) rfl (by kernel_rfl)
  obtain rfl : _ = zs := Eq.symm hz16
  obtain ⟨v17, h17, e17⟩ := end_k hr 10 17 (.val (.int .i64 0)) (by kernel_rfl) rfl (by kernel_rfl)
  obtain rfl : _ = v17 := Eq.symm e17
  obtain ⟨A8, c8, rfl, _⟩ := id hi16
  have HI8 := Lib.hid hi16
  have B8 := Lib.hid (below_next B7.out hb)
  have HZ8 := Lib.hid (HI7.out.later hb)
  have hs := hf.1
  have hd := hf.2.1
  refine hK a w8 ?_
  obtain ⟨fa, hfa, ha⟩ := act_fun hs hd
  have ea0 := (hfa 0 (by decide)).symm.trans (ho 0 (by decide) (by kernel_rfl))
  simp only [List.getElem?_toArray, List.getElem?_cons_zero, Option.some.injEq] at ea0
  have ea1 := (hfa 1 (by decide)).symm.trans (ho 1 (by decide) (by kernel_rfl))
  simp only [List.getElem?_toArray, List.getElem?_cons_zero, List.getElem?_cons_succ, Option.some.injEq] at ea1
  have ea2 := (hfa 2 (by decide)).symm.trans (ho 2 (by decide) (by kernel_rfl))
  simp only [List.getElem?_toArray, List.getElem?_cons_zero, List.getElem?_cons_succ, Option.some.injEq] at ea2
  have ea3 := (hfa 3 (by decide)).symm.trans (ho 3 (by decide) (by kernel_rfl))
  simp only [List.getElem?_toArray, List.getElem?_cons_zero, List.getElem?_cons_succ, Option.some.injEq] at ea3
  have ea4 := (hfa 4 (by decide)).symm.trans (ho 4 (by decide) (by kernel_rfl))
  simp only [List.getElem?_toArray, List.getElem?_cons_zero, List.getElem?_cons_succ, Option.some.injEq] at ea4
  have ea5 := (hfa 5 (by decide)).symm.trans (ho 5 (by decide) (by kernel_rfl))
  simp only [List.getElem?_toArray, List.getElem?_cons_zero, List.getElem?_cons_succ, Option.some.injEq] at ea5
  have ea6 := (hfa 6 (by decide)).symm.trans (ho 6 (by decide) (by kernel_rfl))
  simp only [List.getElem?_toArray, List.getElem?_cons_zero, List.getElem?_cons_succ, Option.some.injEq] at ea6
  have ea7 := (hfa 7 (by decide)).symm.trans (ho 7 (by decide) (by kernel_rfl))
  simp only [List.getElem?_toArray, List.getElem?_cons_zero, List.getElem?_cons_succ, Option.some.injEq] at ea7
  have ea8 := (hfa 8 (by decide)).symm.trans (ho 8 (by decide) (by kernel_rfl))
  simp only [List.getElem?_toArray, List.getElem?_cons_zero, List.getElem?_cons_succ, Option.some.injEq] at ea8
  have ea9 := (hfa 9 (by decide)).symm.trans (ho 9 (by decide) (by kernel_rfl))
  simp only [List.getElem?_toArray, List.getElem?_cons_zero, List.getElem?_cons_succ, Option.some.injEq] at ea9
  have ea10 := (hfa 10 (by decide)).symm.trans (ho 10 (by decide) (by kernel_rfl))
  simp only [List.getElem?_toArray, List.getElem?_cons_zero, List.getElem?_cons_succ, Option.some.injEq] at ea10
  have ea11 := (hfa 11 (by decide)).symm.trans (ho 11 (by decide) (by kernel_rfl))
  simp only [List.getElem?_toArray, List.getElem?_cons_zero, List.getElem?_cons_succ, Option.some.injEq] at ea11
  have ea12 := (hfa 12 (by decide)).symm.trans (ho 12 (by decide) (by kernel_rfl))
  simp only [List.getElem?_toArray, List.getElem?_cons_zero, List.getElem?_cons_succ, Option.some.injEq] at ea12
  have ea13 := (hfa 13 (by decide)).symm.trans (ho 13 (by decide) (by kernel_rfl))
  simp only [List.getElem?_toArray, List.getElem?_cons_zero, List.getElem?_cons_succ, Option.some.injEq] at ea13
  have ea14 := (hfa 14 (by decide)).symm.trans (ho 14 (by decide) (by kernel_rfl))
  simp only [List.getElem?_toArray, List.getElem?_cons_zero, List.getElem?_cons_succ, Option.some.injEq] at ea14
  have ea15 := (hfa 15 (by decide)).symm.trans (ho 15 (by decide) (by kernel_rfl))
  simp only [List.getElem?_toArray, List.getElem?_cons_zero, List.getElem?_cons_succ, Option.some.injEq] at ea15
  have ea18 := (hfa 18 (by decide)).symm.trans (ho 18 (by decide) (by kernel_rfl))
  simp only [List.getElem?_toArray, List.getElem?_cons_zero, List.getElem?_cons_succ, Option.some.injEq] at ea18
  have ea19 := (hfa 19 (by decide)).symm.trans (ho 19 (by decide) (by kernel_rfl))
  simp only [List.getElem?_toArray, List.getElem?_cons_zero, List.getElem?_cons_succ, Option.some.injEq] at ea19
  have ea20 := (hfa 20 (by decide)).symm.trans (ho 20 (by decide) (by kernel_rfl))
  simp only [List.getElem?_toArray, List.getElem?_cons_zero, List.getElem?_cons_succ, Option.some.injEq] at ea20
  have ea21 := (hfa 21 (by decide)).symm.trans (ho 21 (by decide) (by kernel_rfl))
  simp only [List.getElem?_toArray, List.getElem?_cons_zero, List.getElem?_cons_succ, Option.some.injEq] at ea21
  have ea22 := (hfa 22 (by decide)).symm.trans (ho 22 (by decide) (by kernel_rfl))
  simp only [List.getElem?_toArray, List.getElem?_cons_zero, List.getElem?_cons_succ, Option.some.injEq] at ea22
  have ea23 := (hfa 23 (by decide)).symm.trans (ho 23 (by decide) (by kernel_rfl))
  simp only [List.getElem?_toArray, List.getElem?_cons_zero, List.getElem?_cons_succ, Option.some.injEq] at ea23
  have ea24 := (hfa 24 (by decide)).symm.trans (ho 24 (by decide) (by kernel_rfl))
  simp only [List.getElem?_toArray, List.getElem?_cons_zero, List.getElem?_cons_succ, Option.some.injEq] at ea24
  have ea25 := (hfa 25 (by decide)).symm.trans (ho 25 (by decide) (by kernel_rfl))
  simp only [List.getElem?_toArray, List.getElem?_cons_zero, List.getElem?_cons_succ, Option.some.injEq] at ea25
  have ea26 := (hfa 26 (by decide)).symm.trans (ho 26 (by decide) (by kernel_rfl))
  simp only [List.getElem?_toArray, List.getElem?_cons_zero, List.getElem?_cons_succ, Option.some.injEq] at ea26
  have ea27 := (hfa 27 (by decide)).symm.trans (ho 27 (by decide) (by kernel_rfl))
  simp only [List.getElem?_toArray, List.getElem?_cons_zero, List.getElem?_cons_succ, Option.some.injEq] at ea27
  have ea28 := (hfa 28 (by decide)).symm.trans (ho 28 (by decide) (by kernel_rfl))
  simp only [List.getElem?_toArray, List.getElem?_cons_zero, List.getElem?_cons_succ, Option.some.injEq] at ea28
  have ea29 := (hfa 29 (by decide)).symm.trans (ho 29 (by decide) (by kernel_rfl))
  simp only [List.getElem?_toArray, List.getElem?_cons_zero, List.getElem?_cons_succ, Option.some.injEq] at ea29
  have ea30 := (hfa 30 (by decide)).symm.trans (ho 30 (by decide) (by kernel_rfl))
  simp only [List.getElem?_toArray, List.getElem?_cons_zero, List.getElem?_cons_succ, Option.some.injEq] at ea30
  have ea31 := (hfa 31 (by decide)).symm.trans (ho 31 (by decide) (by kernel_rfl))
  simp only [List.getElem?_toArray, List.getElem?_cons_zero, List.getElem?_cons_succ, Option.some.injEq] at ea31
  have ea32 := (hfa 32 (by decide)).symm.trans (ho 32 (by decide) (by kernel_rfl))
  simp only [List.getElem?_toArray, List.getElem?_cons_zero, List.getElem?_cons_succ, Option.some.injEq] at ea32
  have ea33 := (hfa 33 (by decide)).symm.trans (ho 33 (by decide) (by kernel_rfl))
  simp only [List.getElem?_toArray, List.getElem?_cons_zero, List.getElem?_cons_succ, Option.some.injEq] at ea33
  have ea34 := (hfa 34 (by decide)).symm.trans (ho 34 (by decide) (by kernel_rfl))
  simp only [List.getElem?_toArray, List.getElem?_cons_zero, List.getElem?_cons_succ, Option.some.injEq] at ea34
  have ea35 := (hfa 35 (by decide)).symm.trans (ho 35 (by decide) (by kernel_rfl))
  simp only [List.getElem?_toArray, List.getElem?_cons_zero, List.getElem?_cons_succ, Option.some.injEq] at ea35
  have ea36 := (hfa 36 (by decide)).symm.trans (ho 36 (by decide) (by kernel_rfl))
  simp only [List.getElem?_toArray, List.getElem?_cons_zero, List.getElem?_cons_succ, Option.some.injEq] at ea36
  have ea37 := (hfa 37 (by decide)).symm.trans (ho 37 (by decide) (by kernel_rfl))
  simp only [List.getElem?_toArray, List.getElem?_cons_zero, List.getElem?_cons_succ, Option.some.injEq] at ea37
  have ea38 := (hfa 38 (by decide)).symm.trans (ho 38 (by decide) (by kernel_rfl))
  simp only [List.getElem?_toArray, List.getElem?_cons_zero, List.getElem?_cons_succ, Option.some.injEq] at ea38
  have ea39 := (hfa 39 (by decide)).symm.trans (ho 39 (by decide) (by kernel_rfl))
  simp only [List.getElem?_toArray, List.getElem?_cons_zero, List.getElem?_cons_succ, Option.some.injEq] at ea39
  have ea40 := (hfa 40 (by decide)).symm.trans (ho 40 (by decide) (by kernel_rfl))
  simp only [List.getElem?_toArray, List.getElem?_cons_zero, List.getElem?_cons_succ, Option.some.injEq] at ea40
  have ea41 := (hfa 41 (by decide)).symm.trans (ho 41 (by decide) (by kernel_rfl))
  simp only [List.getElem?_toArray, List.getElem?_cons_zero, List.getElem?_cons_succ, Option.some.injEq] at ea41
  have ea42 := (hfa 42 (by decide)).symm.trans (ho 42 (by decide) (by kernel_rfl))
  simp only [List.getElem?_toArray, List.getElem?_cons_zero, List.getElem?_cons_succ, Option.some.injEq] at ea42
  have ea43 := (hfa 43 (by decide)).symm.trans (ho 43 (by decide) (by kernel_rfl))
  simp only [List.getElem?_toArray, List.getElem?_cons_zero, List.getElem?_cons_succ, Option.some.injEq] at ea43
  have ea44 := (hfa 44 (by decide)).symm.trans (ho 44 (by decide) (by kernel_rfl))
  simp only [List.getElem?_toArray, List.getElem?_cons_zero, List.getElem?_cons_succ, Option.some.injEq] at ea44
  have ea54 := (hfa 54 (by decide)).symm.trans (ho 54 (by decide) (by kernel_rfl))
  simp only [List.getElem?_toArray, List.getElem?_cons_zero, List.getElem?_cons_succ, Option.some.injEq] at ea54
  have ea55 := (hfa 55 (by decide)).symm.trans (ho 55 (by decide) (by kernel_rfl))
  simp only [List.getElem?_toArray, List.getElem?_cons_zero, List.getElem?_cons_succ, Option.some.injEq] at ea55
  have ea56 := (hfa 56 (by decide)).symm.trans (ho 56 (by decide) (by kernel_rfl))
  simp only [List.getElem?_toArray, List.getElem?_cons_zero, List.getElem?_cons_succ, Option.some.injEq] at ea56
  have ea57 := (hfa 57 (by decide)).symm.trans (ho 57 (by decide) (by kernel_rfl))
  simp only [List.getElem?_toArray, List.getElem?_cons_zero, List.getElem?_cons_succ, Option.some.injEq] at ea57
  have ea58 := (hfa 58 (by decide)).symm.trans (ho 58 (by decide) (by kernel_rfl))
  simp only [List.getElem?_toArray, List.getElem?_cons_zero, List.getElem?_cons_succ, Option.some.injEq] at ea58
  have ea59 := (hfa 59 (by decide)).symm.trans (ho 59 (by decide) (by kernel_rfl))
  simp only [List.getElem?_toArray, List.getElem?_cons_zero, List.getElem?_cons_succ, Option.some.injEq] at ea59
  have ea60 := (hfa 60 (by decide)).symm.trans (ho 60 (by decide) (by kernel_rfl))
  simp only [List.getElem?_toArray, List.getElem?_cons_zero, List.getElem?_cons_succ, Option.some.injEq] at ea60
  have ea61 := (hfa 61 (by decide)).symm.trans (ho 61 (by decide) (by kernel_rfl))
  simp only [List.getElem?_toArray, List.getElem?_cons_zero, List.getElem?_cons_succ, Option.some.injEq] at ea61
  have ea62 := (hfa 62 (by decide)).symm.trans (ho 62 (by decide) (by kernel_rfl))
  simp only [List.getElem?_toArray, List.getElem?_cons_zero, List.getElem?_cons_succ, Option.some.injEq] at ea62
  have ea63 := (hfa 63 (by decide)).symm.trans (ho 63 (by decide) (by kernel_rfl))
  simp only [List.getElem?_toArray, List.getElem?_cons_zero, List.getElem?_cons_succ, Option.some.injEq] at ea63
  have ea64 := (hfa 64 (by decide)).symm.trans (ho 64 (by decide) (by kernel_rfl))
  simp only [List.getElem?_toArray, List.getElem?_cons_zero, List.getElem?_cons_succ, Option.some.injEq] at ea64
  have ea65 := (hfa 65 (by decide)).symm.trans (ho 65 (by decide) (by kernel_rfl))
  simp only [List.getElem?_toArray, List.getElem?_cons_zero, List.getElem?_cons_succ, Option.some.injEq] at ea65
  have ea66 := (hfa 66 (by decide)).symm.trans (ho 66 (by decide) (by kernel_rfl))
  simp only [List.getElem?_toArray, List.getElem?_cons_zero, List.getElem?_cons_succ, Option.some.injEq] at ea66
  have ea67 := (hfa 67 (by decide)).symm.trans (ho 67 (by decide) (by kernel_rfl))
  simp only [List.getElem?_toArray, List.getElem?_cons_zero, List.getElem?_cons_succ, Option.some.injEq] at ea67
  have ea68 := (hfa 68 (by decide)).symm.trans (ho 68 (by decide) (by kernel_rfl))
  simp only [List.getElem?_toArray, List.getElem?_cons_zero, List.getElem?_cons_succ, Option.some.injEq] at ea68
  have ea69 := (hfa 69 (by decide)).symm.trans (ho 69 (by decide) (by kernel_rfl))
  simp only [List.getElem?_toArray, List.getElem?_cons_zero, List.getElem?_cons_succ, Option.some.injEq] at ea69
  have ea70 := (hfa 70 (by decide)).symm.trans (ho 70 (by decide) (by kernel_rfl))
  simp only [List.getElem?_toArray, List.getElem?_cons_zero, List.getElem?_cons_succ, Option.some.injEq] at ea70
  have ea71 := (hfa 71 (by decide)).symm.trans (ho 71 (by decide) (by kernel_rfl))
  simp only [List.getElem?_toArray, List.getElem?_cons_zero, List.getElem?_cons_succ, Option.some.injEq] at ea71
  have ea72 := (hfa 72 (by decide)).symm.trans (ho 72 (by decide) (by kernel_rfl))
  simp only [List.getElem?_toArray, List.getElem?_cons_zero, List.getElem?_cons_succ, Option.some.injEq] at ea72
  have ea73 := (hfa 73 (by decide)).symm.trans (ho 73 (by decide) (by kernel_rfl))
  simp only [List.getElem?_toArray, List.getElem?_cons_zero, List.getElem?_cons_succ, Option.some.injEq] at ea73
  have ea74 := (hfa 74 (by decide)).symm.trans (ho 74 (by decide) (by kernel_rfl))
  simp only [List.getElem?_toArray, List.getElem?_cons_zero, List.getElem?_cons_succ, Option.some.injEq] at ea74
  have ea75 := (hfa 75 (by decide)).symm.trans (ho 75 (by decide) (by kernel_rfl))
  simp only [List.getElem?_toArray, List.getElem?_cons_zero, List.getElem?_cons_succ, Option.some.injEq] at ea75
  have ea16 : fa 16 = .slice A8 zl.length c8 := Option.some.inj ((hfa 16 (by decide)).symm.trans (h16))
  have ea17 : fa 17 = .int .i64 0 := Option.some.inj ((hfa 17 (by decide)).symm.trans (h17))
  have ha2 : a = ⟨#[fa 0, fa 1, fa 2, fa 3, fa 4, fa 5, fa 6, fa 7, fa 8, fa 9, fa 10, fa 11, fa 12, fa 13, fa 14, fa 15, fa 16, fa 17, fa 18, fa 19, fa 20, fa 21, fa 22, fa 23, fa 24, fa 25, fa 26, fa 27, fa 28, fa 29, fa 30, fa 31, fa 32, fa 33, fa 34, fa 35, fa 36, fa 37, fa 38, fa 39, fa 40, fa 41, fa 42, fa 43, fa 44, fa 45, fa 46, fa 47, fa 48, fa 49, fa 50, fa 51, fa 52, fa 53, fa 54, fa 55, fa 56, fa 57, fa 58, fa 59, fa 60, fa 61, fa 62, fa 63, fa 64, fa 65, fa 66, fa 67, fa 68, fa 69, fa 70, fa 71, fa 72, fa 73, fa 74, fa 75], []⟩ := ha.trans (by kernel_rfl)
  rw [ea0, ea1, ea2, ea3, ea4, ea5, ea6, ea7, ea8, ea9, ea10, ea11, ea12, ea13, ea14, ea15, ea16, ea17, ea18, ea19, ea20, ea21, ea22, ea23, ea24, ea25, ea26, ea27, ea28, ea29, ea30, ea31, ea32, ea33, ea34, ea35, ea36, ea37, ea38, ea39, ea40, ea41, ea42, ea43, ea44, ea54, ea55, ea56, ea57, ea58, ea59, ea60, ea61, ea62, ea63, ea64, ea65, ea66, ea67, ea68, ea69, ea70, ea71, ea72, ea73, ea74, ea75] at ha2
  clear ha hfa ho ea0 ea1 ea2 ea3 ea4 ea5 ea6 ea7 ea8 ea9 ea10 ea11 ea12 ea13 ea14 ea15 ea16 ea17 ea18 ea19 ea20 ea21 ea22 ea23 ea24 ea25 ea26 ea27 ea28 ea29 ea30 ea31 ea32 ea33 ea34 ea35 ea36 ea37 ea38 ea39 ea40 ea41 ea42 ea43 ea44 ea54 ea55 ea56 ea57 ea58 ea59 ea60 ea61 ea62 ea63 ea64 ea65 ea66 ea67 ea68 ea69 ea70 ea71 ea72 ea73 ea74 ea75
  subst ha2
  clear hf hr h16 h17 hs hd hi16 hK hb HX7 HY7 HI7
  go_wp2_with (first
    | (go_at_call 12; refine (awake7 _ (HG2.out.later B8.out)).mono ?_; rintro e w9 ⟨rfl, b9⟩)
    | (go_at_call 13; refine (same_of _ _ zl zl _ (HZ8.out.later b9) (HI8.out.later b9) rfl).mono ?_; rintro e w10 ⟨rfl, b10⟩))
  go_ret
  exact ⟨rfl, below_next HB2.out (below_next B8.out (below_next b9 b10))⟩
theorem DecomposeConcatenation_walk (W : World) (hg : Glob W) (v : Value) (xs : List Int) (hv : Ints W W.heap.size .i64 v xs) (_ : ∀ x ∈ xs, -9223372036854775808 ≤ x ∧ x ≤ 9223372036854775807) (_ : xs.length * 8 ≤ 140737488351232) (vm : Value) (ms : List Int) (hvm : Ints W W.heap.size .i64 vm ms) (_ : ∀ x ∈ ms, -9223372036854775808 ≤ x ∧ x ≤ 9223372036854775807) (_ : ms.length * 8 ≤ 140737488351232) (vo : Value) (os_ : List Int) (hvo : Ints W W.heap.size .i64 vo os_) (_ : ∀ x ∈ os_, -9223372036854775808 ≤ x ∧ x ≤ 9223372036854775807) (_ : os_.length * 8 ≤ 140737488351232) :
    Calls Tryz.prog 3 #[v, vm, vo] W fun e W' => e = .returned (.bool true) ∧ Below W.heap.size W W' := DecomposeConcatenation_go W hg v xs hv vm ms hvm vo os_ hvo
end Go.Proofs.YtjigjjbhdgpfjaaGreatDoor
